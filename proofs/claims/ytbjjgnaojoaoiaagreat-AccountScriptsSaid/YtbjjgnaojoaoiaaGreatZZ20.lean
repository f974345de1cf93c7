/- Laws. -/
import Derived.Test.YtbjjgnaojoaoiaaGreatZZ19
import Derived.Deep.OwnRows
namespace Go.Proofs.YtbjjgnaojoaoiaaGreat
open Go.RowKit Go
set_option linter.unusedVariables false
set_option linter.unusedSimpArgs false
set_option maxHeartbeats 6400000
set_option maxRecDepth 100000
theorem info_i64 : (Tryz.prog.info? 2).map (fun i => (i.zero, i.size, i.bytes)) = some (some (.int .i64 0), 1, 8) := by kernel_rfl
theorem ints_set' (d : List Int) (i : Nat) (v : Int) : (ints d).toArray.setIfInBounds i (.int .i64 v) = (ints (d.set i v)).toArray := by
 apply Array.ext'
 simp [ints, List.map_set]
theorem made_ints (n : Nat) : madeCells #[Value.int .i64 0] n = (ints (List.replicate n 0)).toArray := by
 apply Array.ext'
 unfold madeCells
 simp only [Array.toList_map, Array.toList_range, ints, List.map_replicate]
 apply List.ext_getElem (by simp)
 intro i h1 h2
 simp [Nat.mod_one]
structure Keeps2 (a b : Nat) (w w' : World) : Prop where
 os : w'.os = w.os
 tape : w'.tape = w.tape
 output : w'.output = w.output
 size : w.heap.size ≤ w'.heap.size
 block : ∀ x, x < w.heap.size → x ≠ a → x ≠ b → w'.heap[x]? = w.heap[x]?
theorem Keeps2.refl (a b : Nat) (w : World) : Keeps2 a b w w := ⟨rfl, rfl, rfl, Nat.le_refl _, fun _ _ _ _ => rfl⟩
theorem Keeps2.alloc {a b : Nat} {w w' : World} (h : Keeps2 a b w w') (o : Obj) : Keeps2 a b w (w'.alloc o) := ⟨h.os, h.tape, h.output, by have := h.size; simp; omega, fun x hx h1 h2 => (Below.heap_alloc _ _ _ (Nat.lt_of_lt_of_le hx h.size)).trans (h.block x hx h1 h2)⟩
theorem Keeps2.set1 {a b : Nat} {w w' : World} (h : Keeps2 a b w w') (i : Nat) (v : Value) : Keeps2 a b w (w'.setCell ⟨a, i, none⟩ v) := ⟨h.os, h.tape, h.output, by simpa using h.size, fun x hx h1 h2 => (Below.heap_setCell _ _ _ _ h1).trans (h.block x hx h1 h2)⟩
theorem Keeps2.set2 {a b : Nat} {w w' : World} (h : Keeps2 a b w w') (i : Nat) (v : Value) : Keeps2 a b w (w'.setCell ⟨b, i, none⟩ v) := ⟨h.os, h.tape, h.output, by simpa using h.size, fun x hx h1 h2 => (Below.heap_setCell _ _ _ _ h2).trans (h.block x hx h1 h2)⟩
theorem Keeps2.drew {a b : Nat} {w w' : World} (h : Keeps2 a b w w') : Keeps2 a b w w'.drew := ⟨h.os, h.tape, h.output, h.size, h.block⟩
theorem Keeps2.below {a b B : Nat} {w0 w w' : World} (h : Keeps2 a b w w') (h0 : Below B w0 w) (ha : B ≤ a) (hb : B ≤ b) (hB : B ≤ w0.heap.size) : Below B w0 w' :=
 ⟨h.os.trans h0.os, h.tape.trans h0.tape, h.output.trans h0.output, Nat.le_trans h0.size h.size, fun x hx => (h.block x (by have := h0.size; omega) (by omega) (by omega)).trans (h0.block x hx)⟩
theorem Keeps2.cell {a b : Nat} {w w' : World} (h : Keeps2 a b w w') {x i : Nat} (hx : x < w.heap.size) (h1 : x ≠ a) (h2 : x ≠ b) : w'.cell? ⟨x, i, none⟩ = w.cell? ⟨x, i, none⟩ := by simp only [World.cell?, h.block x hx h1 h2]
def payE (its : List Dq) (a : Int) : Int := if 0 ≤ a ∧ a ≤ 4611686018427387904 then placesE its else 1
def PayOf (its : List Dq) (a : Int) (w : World) (e : Ending) (w' : World) : Prop := Below w.heap.size w w' ∧
 ((payE its a ≠ 0 ∧ e = .returned (.tuple #[.slice none 0 0, .int .i64 0, .int .i64 (payE its a)])) ∨
  (payE its a = 0 ∧ ∃ A' c', e = .returned (.tuple #[.slice A' its.length c', .int .i64 (leftI its a), .int .i64 0]) ∧ Rd w' w'.heap.size 1 A' its.length (ints (payL its a)) ∧ its.length ≤ c'))
def PayOfN (its : List Dq) (a : Int) (w : World) (e : Ending) (w' : World) : Prop := Below w.heap.size w w' ∧
 ((payE its a ≠ 0 ∧ e = .returned (.tuple #[.slice none 0 0, .int .i64 0, .int .i64 (payE its a)])) ∨
  (payE its a = 0 ∧ ∃ A' c', e = .returned (.tuple #[.slice A' its.length c', .int .i64 (leftI its a), .int .i64 0]) ∧ Rd w' w'.heap.size 1 A' its.length (ints (payL its a)) ∧ its.length ≤ c' ∧ ∀ b, A' = some b → w.heap.size ≤ b.block))
theorem leftTo_bd {its : List Dq} {amount : Int} {d : List Int} (hok : its.all okI = true) (h : Pl its.length d) (ha : 0 ≤ amount) (k : Nat) : 0 ≤ leftTo its amount d k ∧ leftTo its amount d k ≤ amount := by
 have h1 : 0 ≤ opens ((inOrd its d).take k) := opens_nonneg (List.all_eq_true.2 fun x hx => List.all_eq_true.1 hok x ((inOrd_perm h).mem_iff.1 (List.mem_of_mem_take hx)))
 unfold leftTo; omega
theorem take_any (gb : Nat) (o a m : Int) (w : World) (hb : w.heap[gb]? = some (.cells #[.int .i64 a] 2 (0, 0))) (ho : 0 ≤ o ∧ o ≤ 4611686018427387904) (ha : 0 ≤ a ∧ a ≤ 4611686018427387904) (hm : m = min o a) :
  Calls Tryz.prog 148 #[.int .i64 o, .pointer (some ⟨gb, 0, none⟩)] w fun e w' => e = .returned (.int .i64 m) ∧ w' = w.setCell ⟨gb, 0, none⟩ (.int .i64 (a - m)) := by
 have c0 : w.cell? ⟨gb, 0, none⟩ = some (.int .i64 a) := blk_cell hb 0
 have f0 : w.frozen? ⟨gb, 0, none⟩ = false := blk_free hb 0
 clear hb
 by_cases h : o ≤ a
 · obtain rfl : m = o := by omega
   clear hm
   go_enter Tryz.func148, Tryz.ntmps148
   go_wp2_with fail
   go_ret
   exact ⟨by rw [show min m a = m by omega]; rfl, by rw [show min m a = m by omega]⟩
 · obtain rfl : m = a := by omega
   have h2 : m < o := by omega
   clear h hm
   go_enter Tryz.func148, Tryz.ntmps148
   go_wp2_with fail
   go_ret
   exact ⟨by rw [show min o m = m by omega]; rfl, by rw [show min o m = m by omega]⟩
theorem pay_anyN (A : Option Addr) (its : List Dq) (a : Int) (c : Nat) (w : World) (hr : ItR w A its) (hm : its.length ≤ maxLen) :
  Calls Tryz.prog 111 #[.slice A its.length c, .int .i64 a] w (PayOfN its a w) := by
 unfold maxLen at hm
 by_cases ha : 0 ≤ a ∧ a ≤ 4611686018427387904
 · have HP : Hid (payE its a = placesE its) := hyd (if_pos ha)
   have hb0 : Below w.heap.size w (w.alloc (.cells #[.int .i64 a] 2)) := below_new _ _
   have hbox : (w.alloc (.cells #[.int .i64 a] 2)).heap[w.heap.size]? = some (.cells #[.int .i64 a] 2 (0, 0)) := blk_new _ _ rfl
   have hr0 := (hr.below hb0).wider hb0.size
   have HPL := hyd (places_any A its c (w.alloc (.cells #[.int .i64 a] 2)) hr0 (by unfold maxLen; omega))
   unfold ItR at hr
   have HR := hyd (hr.below hb0)
   have HB0 := hyd hb0; have HBOX := hyd hbox; have HA := hyd ha
   have hzz : w.heap.size < (w.alloc (.cells #[.int .i64 a] 2)).heap.size := by simp
   clear hr hb0 hbox hr0 ha
   obtain ⟨n, hn⟩ : ∃ n, its.length = n := ⟨_, rfl⟩
   rw [hn] at HR hm HPL ⊢
   have HN := hyd hn; clear hn
   go_enter Tryz.func111, Tryz.ntmps111
   go_wp2_with fail
   refine (within64_yes a 0 4611686018427387904 _ HA.out).mono ?_; rintro e w' ⟨rfl, rfl⟩
   go_wp2_with fail
   generalize hW : w.alloc (.cells #[.int .i64 a] 2) = W at *
   clear hW
   refine HPL.out.mono ?_
   intro e w1 hpl
   obtain ⟨hb1, ⟨hne, rfl⟩ | ⟨he, A', c', d, rfl, hrd, hpd, hri, hnew⟩⟩ := hpl
   · have HB1 := hyd (HB0.out.trans (hb1.mono (by omega)))
     have hne' : (placesE its != 0) = true := by simpa using hne
     have HNE := hyd hne
     clear hb1 hne
     go_wp2_with fail
     go_ret3
     exact ⟨HB1.out, .inl ⟨by rw [HP.out]; exact HNE.out, by rw [HP.out]; rfl⟩⟩
   · have HB1 := hyd hb1
     have HRD := hyd hrd; have HPD := hyd hpd; have HRI := hyd hri; have HNEW := hyd hnew; have HE := hyd he
     have HR1 := hyd (HR.out.below (hb1.mono (by omega)))
     have HBX : Hid (w1.heap[w.heap.size]? = some (.cells #[.int .i64 a] 2 (0, 0))) := hyd (blk_below HBOX.out hb1 hzz)
     have hz1 := hb1.size
     clear hb1 hrd hpd hri hnew he HR
     rw [HN.out] at HRD
     rw [HN.out]
     have h200 : n ≤ 200 := by have := (placesE_ok HE.out).1; have := HN.out; omega
     have hmk := run_make_row' (P := Tryz.prog) 26 2 (.int .i64 0) 8 Tryz.underlying26 info_i64 rfl .i64 .i64 n (by omega) (by omega)
     rw [made_ints] at hmk
     have HMK := hmk w1
     clear hmk
     have HL0 := hyd (leftTo_zero (its := its) (amount := a) (d := d) HA.out.1)
     have HP0 : Hid (ints (List.replicate n 0) = ints (paidTo its a d 0)) := hyd (by rw [paidTo_zero, HN.out])
     have HB1' := hyd (HB1.out.alloc hz1 (.cells (ints (List.replicate n 0)).toArray 2))
     go_wp2_with fail
     clear HMK
     go_loopw [30] (fun vi wr => ∃ j : Nat, j ≤ n ∧ vi = .int .i64 j ∧ wr.heap[w.heap.size]? = some (.cells #[.int .i64 (leftTo its a d j)] 2 (0, 0)) ∧ wr.heap[w1.heap.size]? = some (.cells (ints (paidTo its a d j)).toArray 2 (0, 0)) ∧ Keeps2 w.heap.size w1.heap.size w1 wr) (fun vi _ => n - (intOf vi).toNat)
     case atStart => exact ⟨0, by omega, rfl, by rw [HL0.out]; exact blk_alloc HBX.out _, by rw [← HP0.out]; exact blk_new _ _ rfl, (Keeps2.refl _ _ _).alloc _⟩
     case round =>
      obtain ⟨j, hj, rfl, hba, hbo, hk⟩ := hrel
      have HBA := hyd hba; have HBO := hyd hbo; have HK := hyd hk
      clear hba hbo hk
      have hok := (placesE_ok HE.out).2.1
      have HOK := hyd hok; clear hok
      by_cases hlt : j < n
      · have hjd : j < d.length := by have := HPD.out.len; have := HN.out; omega
        obtain ⟨p, ep, hp⟩ := HPD.out.at hjd
        obtain ⟨bd, od, rfl, hbd, hcd⟩ := HRD.out.num hjd
        rw [ep] at hcd
        have hnb := HNEW.out bd od rfl
        have cd : wr.cell? ⟨bd, od + j, none⟩ = some (.int .i64 (p : Int)) := (HK.out.cell (by omega) (by omega) (by omega)).trans hcd
        obtain ⟨b, off, rfl, hb, x0, x1, x2, x3⟩ := HR1.out.it hp
        have cx : wr.cell? ⟨b, off + p * 4 + 3, none⟩ = some (.int .i64 its[p].opn) := (HK.out.cell (by omega) (by omega) (by omega)).trans x3
        obtain ⟨s1, s2⟩ := pay_step (amount := a) HOK.out HPD.out HRI.out hjd ep hp
        have hbx := okI_yes (List.all_eq_true.1 HOK.out its[p] (List.getElem_mem _))
        have hlb := leftTo_bd (d := d) HOK.out HPD.out HA.out.1 j
        obtain ⟨m, hm'⟩ : ∃ m, paidI its a its[p] = m := ⟨_, rfl⟩
        have hst := paidTo_step (amount := a) hjd ep hp
        rw [hm'] at s1 hst
        rw [← s1] at s2
        have hpn : p < n := by have := HN.out; omega
        have hao : wr.cell? ⟨w1.heap.size, p, none⟩ = some (.int .i64 ((paidTo its a d j)[p]'(by rw [paidTo_len]; exact hp))) := by
         rw [blk_cell HBO.out, List.getElem?_toArray, ints_at _ _ (by rw [paidTo_len]; exact hp)]
        have hfo : wr.frozen? ⟨w1.heap.size, p, none⟩ = false := blk_free HBO.out p
        generalize (paidTo its a d j)[p]'(by rw [paidTo_len]; exact hp) = old at hao
        have HST := hyd hst; have HS2 := hyd s2
        have hopn : 0 ≤ its[p].opn ∧ its[p].opn ≤ 4611686018427387904 := by omega
        have hla : 0 ≤ leftTo its a d j ∧ leftTo its a d j ≤ 4611686018427387904 := ⟨hlb.1, by have := hlb.2; have := HA.out.2; omega⟩
        have HTK := hyd (take_any w.heap.size its[p].opn (leftTo its a d j) m wr HBA.out hopn hla s1)
        generalize its[p].opn = o at *
        clear x0 x1 x2 x3 hcd ep hbx hlb hm' hst s1 s2 hopn hla
        have i1 : (0 : Int) ≤ (j : Int) := by omega
        have i2 : (j : Int) < (n : Int) := by omega
        have i3 : (0 : Int) ≤ (p : Int) := by omega
        have i4 : (p : Int) < (n : Int) := by omega
        have n1 : w.heap.size ≠ w1.heap.size := by omega
        have n2 : w1.heap.size ≠ w.heap.size := by omega
        go_wp2_with fail
        refine HTK.out.mono ?_; rintro e w2 ⟨rfl, rfl⟩
        go_wp2_with fail
        refine ⟨⟨j + 1, by omega, by go_num, ?_, ?_, (HK.out.set1 _ _).set2 _ _⟩, by simp [intOf]; omega⟩
        · rw [HS2.out]; exact blk_far (p := ⟨w1.heap.size, p, none⟩) (blk_set HBA.out 0 _) n1 _
        · rw [HST.out, ← ints_set']; exact blk_set (blk_far (p := ⟨w.heap.size, 0, none⟩) HBO.out n2 _) p _
      · have hjn : j = n := by omega
        subst hjn
        have c0 := blk_cell HBA.out 0
        have HL : Hid (leftTo its a d j = leftI its a) := hyd (by have := leftTo_all (amount := a) HPD.out; rwa [HPD.out.len, HN.out] at this)
        have HF : Hid (paidTo its a d j = payL its a) := hyd (by have := paidTo_all (amount := a) HPD.out; rwa [HPD.out.len, HN.out] at this)
        have HLEN : Hid ((ints (paidTo its a d j)).length = j) := hyd (by rw [ints_len, paidTo_len]; exact HN.out)
        have c0' : wr.cell? ⟨w.heap.size, 0, none⟩ = some (.int .i64 (leftTo its a d j)) := by simpa using c0
        clear c0 hlt
        go_wp2_with fail
        go_quiet (fail)
        go_wp2_with fail
        go_ret3
        refine ⟨below_drewN (HK.out.below (HB0.out.trans (HB1.out.mono (by omega))) (Nat.le_refl _) (by omega) (Nat.le_refl _)) _, .inr ⟨by rw [HP.out]; exact HE.out, some ⟨w1.heap.size, 0, none⟩, j, by rw [HL.out, HN.out]; rfl, ?_, by rw [HN.out]; exact Nat.le_refl _, fun b hb => by injection hb with hb; subst hb; show w.heap.size ≤ w1.heap.size; omega⟩⟩
        rw [← HF.out, HN.out]
        exact ⟨by rw [HLEN.out]; omega, fun _ => ⟨w1.heap.size, 0, rfl, blk_lt HBO.out, fun q hq => by rw [Nat.zero_add]; exact (blk_cell HBO.out q).trans (by simp)⟩⟩
 · have HP : Hid (payE its a = 1) := hyd (if_neg ha)
   have HA := hyd ha; clear ha
   go_enter Tryz.func111, Tryz.ntmps111
   go_wp2_with fail
   refine (within64_no a 0 4611686018427387904 _ HA.out).mono ?_; rintro e w' ⟨rfl, rfl⟩
   go_wp2_with fail
   go_ret3
   exact ⟨bly, .inl ⟨by rw [HP.out]; decide, by rw [HP.out]; rfl⟩⟩
theorem pay_nN (A : Option Addr) (its : List Dq) (a : Int) (n c : Nat) (w : World) (hn : its.length = n) (hr : Rd w w.heap.size 4 A n (itCs its)) (hm : n ≤ maxLen) :
  Calls Tryz.prog 111 #[.slice A n c, .int .i64 a] w (PayOfN its a w) := by
 subst hn; exact pay_anyN A its a c w hr hm

def OrdOf (its : List Dq) (w : World) (e : Ending) (w' : World) : Prop := Below w.heap.size w w' ∧
 ∃ A' c' s, e = .returned (.tuple #[.slice A' its.length c', .int .i64 0]) ∧ w'.ownsRow w.heap.size 58 4 (.slice A' its.length c') its.length (itCs s) ∧ IsOrd its s
theorem inOrd_take (its : List Dq) (d : List Int) (k j : Nat) (hk : k < d.length) (hj : d[k] = (j : Int)) (hjn : j < its.length) : itCs (inOrd its (d.take (k + 1))) = itCs (inOrd its (d.take k)) ++ itC its[j] := by
 have : inOrd its (d.take (k + 1)) = inOrd its (d.take k) ++ [its[j]] := by
  unfold inOrd
  rw [List.take_succ_eq_append_getElem hk, List.map_append, List.map_cons, List.map_nil, hj]
  simp [hjn]
 rw [this, itCs_app]; simp [itCs]
theorem order_own (A : Option Addr) (its : List Dq) (n c : Nat) (w : World) (hn : its.length = n) (hr : Rd w w.heap.size 4 A n (itCs its)) (hm : n ≤ maxLen) (hp0 : placesE its = 0) :
  Calls Tryz.prog 108 #[.slice A n c] w (OrdOf its w) := by
 unfold maxLen at hm
 obtain ⟨i0, hi, hz0, hz1', hz9⟩ := info_parts info_it
 have hp := places_any A its c w (by unfold ItR; rw [hn]; exact hr) (by unfold maxLen; omega)
 rw [hn] at hp
 have HP0 := hyd hp0; have HN := hyd hn; have HR := hyd hr; have HP := hyd hp
 clear hn hr hp hp0
 go_enter Tryz.func108, Tryz.ntmps108
 go_wp2_with fail
 refine HP.out.mono ?_
 intro e w1 h
 obtain ⟨hb1, ⟨hne, rfl⟩ | ⟨he, A', c', d, rfl, hrd, hpd, hri, hnew⟩⟩ := h
 · exact absurd HP0.out hne
 · have HB1 := hyd hb1
   have hz1 := hb1.size
   have HR1 := hyd (HR.out.below hb1)
   have HE := hyd he
   have h200 : n ≤ 200 := by have := (placesE_ok he).1; have := HN.out; omega
   rw [HN.out] at hrd
   have HRD := hyd hrd; have HPD := hyd hpd; have HRI := hyd hri
   have HDL : Hid (d.length = n) := hyd (by rw [hpd.len]; exact HN.out)
   rw [HN.out]
   clear he hb1 hrd hpd hri hnew HP
   go_wp2_with (at_make; refine wpList_make_own _ rfl _ _ 41 rfl w1.heap.size 58 i0 _ 4 Tryz.underlying41 hi hz0 hz1' .i64 .i64 _ n rfl rfl (by first | rfl | omega) (by rw [hz9]; omega) (by unfold maxLen; omega) (Nat.le_refl _) ?_; intro w2 hown2 hg2)
   have HB2 : Hid (Below w1.heap.size w1 w2) := hyd ((Below.refl _ _).grown hg2 (Nat.le_refl _) (fun k hk => by cases hk))
   have HO2 := hyd hown2
   clear hown2 hg2
   go_loopg [6, 22] n (fun gh v i wr => ∃ k : Nat, gh = n - k ∧ k ≤ n ∧ i = .int .i64 k ∧ wr.ownsRow w1.heap.size 58 4 v k (itCs (inOrd its (d.take k))) ∧ Below w1.heap.size w1 wr)
   case atStart => exact ⟨0, rfl, by omega, rfl, HO2.out, HB2.out⟩
   case round =>
    obtain ⟨k, hgk, hk, rfl, hown, hbr⟩ := hrel
    have HG := hyd hgk; have HO := hyd hown; have HB := hyd hbr
    have hzr := hbr.size
    by_cases hlt : k < n
    · have hkd : k < d.length := by have := HDL.out; omega
      obtain ⟨p, ep, hp⟩ := HPD.out.at hkd
      obtain ⟨bd, od, rfl, hbd, cd⟩ := (HRD.out.below hbr).num hkd
      rw [ep] at cd
      obtain ⟨b, off, rfl, hb, x0, x1, x2, x3⟩ := (HR1.out.below (hbr.mono hz1)).it hp
      have HTK := hyd (inOrd_take its d k p hkd ep hp)
      unfold itC at HTK
      have hpn : p < n := by have := HN.out; omega
      generalize its[p] = x at *
      clear hbr hown ep hgk
      have i1 : (0 : Int) ≤ (k : Int) := by omega
      have i2 : (k : Int) < (n : Int) := by omega
      have i3 : (0 : Int) ≤ (p : Int) := by omega
      have i4 : (p : Int) < (n : Int) := by omega
      go_wp2_with (at_builtin; refine wpList_app rfl (.tmp 26) (.tmp 31) _ rfl w1.heap.size 58 i0 _ 4 32 Tryz.underlying41 hi hz0 hz1' hz9 rfl (by omega) _ _ _ rfl (HO.out.alloc _) _ _ 1 1 [.int .i64 x.due, .int .i64 x.kind, .int .i64 x.per, .int .i64 x.opn] rfl (Rd.new (cs := #[.int .i64 x.due, .int .i64 x.kind, .int .i64 x.per, .int .i64 x.opn]) rfl rfl) (by simp [Value.oneCell']) (by unfold maxLen; omega) (by omega) (by simp; omega) ?_; intro v2 w3 hown3 hg3 hat3)
      go_roundg (n - (k + 1))
      case measure => have := HG.out; omega
      case rel =>
       refine ⟨k + 1, rfl, by omega, by go_num, by rw [HTK.out]; exact hown3, ?_⟩
       exact (HB.out.alloc hzr _).grown hg3 (by simp; omega) (fun k hk => (HO.out.lt k hk).1)
    · have hkn : k = n := by omega
      subst hkn
      rw [List.take_of_length_le (by rw [HDL.out]; exact Nat.le_refl _)] at hown
      obtain ⟨A2, c2, rfl, _⟩ := own_form hown
      have HOO := hyd hown
      have HZ1 := hyd hz1
      have HBF := hyd (HB1.out.trans (hbr.mono hz1))
      clear hown hbr hgk
      go_wp2_with fail
      go_ret2
      refine ⟨HBF.out, A2, c2, inOrd its d, by rw [HN.out]; rfl, by rw [HN.out]; exact own_mono HOO.out HZ1.out, IsOrd.of HPD.out HRI.out⟩
section
theorem payL_lenP (its : List Dq) (a : Int) : (payL its a).length = its.length := by simp [payL]
theorem payL_atP (its : List Dq) (a : Int) (k : Nat) (h : k < its.length) : (payL its a)[k]'(by rw [payL_lenP]; exact h) = paidI its a its[k] := by simp [payL]
end
theorem info_bool : (Tryz.prog.info? 4).map (fun i => (i.zero, i.size, i.bytes)) = some (some (.bool false), 1, 1) := by kernel_rfl
def bls (l : List Bool) : List Value := l.map Value.bool
theorem bls_at (l : List Bool) (k : Nat) (h : k < l.length) : (bls l)[k]? = some (.bool l[k]) := by simp [bls, h]
theorem bls_set (d : List Bool) (i : Nat) (v : Bool) : (bls d).toArray.setIfInBounds i (.bool v) = (bls (d.set i v)).toArray := by
 apply Array.ext'
 simp [bls, List.map_set]
theorem made_bls (n : Nat) : madeCells #[Value.bool false] n = (bls (List.replicate n false)).toArray := by
 apply Array.ext'
 unfold madeCells
 simp only [Array.toList_map, Array.toList_range, bls, List.map_replicate]
 apply List.ext_getElem (by simp)
 intro i h1 h2
 simp [Nat.mod_one]
def doneTo (d : List Int) (n k : Nat) : List Bool := (List.range n).map fun (i : Nat) => decide ((i : Int) ∈ d.take k)
theorem doneTo_len (d : List Int) (n k : Nat) : (doneTo d n k).length = n := by simp [doneTo]
theorem doneTo_zero (d : List Int) (n : Nat) : doneTo d n 0 = List.replicate n false := by
 apply List.ext_getElem (by simp [doneTo])
 intro i h1 h2; simp [doneTo]
theorem doneTo_at (d : List Int) (n k i : Nat) (h : i < n) : (doneTo d n k)[i]'(by rw [doneTo_len]; exact h) = decide ((i : Int) ∈ d.take k) := by simp [doneTo]
theorem doneTo_step {d : List Int} {n k j : Nat} (h : k < d.length) (hj : d[k] = (j : Int)) (hjq : j < n) : doneTo d n (k + 1) = (doneTo d n k).set j true := by
 apply List.ext_getElem (by simp [doneTo])
 intro i h1 h2
 rw [List.getElem_set]
 simp only [doneTo, List.getElem_map, List.getElem_range, mem_take_succ h, hj]
 by_cases e : j = i
 · subst e; simp
 · have : ¬ ((i : Int) = (j : Int)) := by omega
   simp [e, this]
theorem getD_it {its : List Dq} {k : Nat} (h : k < its.length) : its.getD k ⟨0, 0, 0, 0⟩ = its[k] := by simp [h]
def First (its : List Dq) (d : List Int) (k i : Nat) (b : Int) : Prop :=
 (b = -1 ∧ ∀ p : Nat, p < i → (p : Int) ∈ d.take k) ∨ (∃ j : Nat, b = j ∧ j < i ∧ (j : Int) ∉ d.take k ∧ ∀ p : Nat, p < i → p ≠ j → (p : Int) ∉ d.take k → keyI (its.getD j ⟨0, 0, 0, 0⟩) < keyI (its.getD p ⟨0, 0, 0, 0⟩))
theorem First.start (its : List Dq) (d : List Int) (k : Nat) : First its d k 0 (-1) := .inl ⟨rfl, fun p hp => by omega⟩
theorem First.marked {its : List Dq} {d : List Int} {k i : Nat} {b : Int} (h : First its d k i b) (hm : (i : Int) ∈ d.take k) : First its d k (i + 1) b := by
 rcases h with ⟨rfl, h⟩ | ⟨j, rfl, h1, h2, h3⟩
 · exact .inl ⟨rfl, fun p hp => by by_cases e : p = i; · subst e; exact hm
                                   · exact h p (by omega)⟩
 · exact .inr ⟨j, rfl, by omega, h2, fun p hp hne hu => by
     by_cases e : p = i
     · subst e; exact absurd hm hu
     · exact h3 p (by omega) hne hu⟩
theorem First.fresh {its : List Dq} {d : List Int} {k i : Nat} {b : Int} (h : First its d k i b) (hm : (i : Int) ∉ d.take k) (hb : b < 0 ∨ keyI (its.getD i ⟨0, 0, 0, 0⟩) < keyI (its.getD b.toNat ⟨0, 0, 0, 0⟩)) : First its d k (i + 1) i := by
 rcases h with ⟨rfl, h⟩ | ⟨j, rfl, h1, h2, h3⟩
 · exact .inr ⟨i, rfl, by omega, hm, fun p hp hne hu => absurd (h p (by omega)) hu⟩
 · refine .inr ⟨i, rfl, by omega, hm, fun p hp hne hu => ?_⟩
   have hb' : keyI (its.getD i ⟨0, 0, 0, 0⟩) < keyI (its.getD j ⟨0, 0, 0, 0⟩) := by
    rcases hb with h | h
    · omega
    · simpa using h
   by_cases e : p = j
   · subst e; exact hb'
   · have := h3 p (by omega) e hu; omega
theorem First.stays {its : List Dq} {d : List Int} {k i : Nat} {b : Int} (h : First its d k i b) (hn : (its.map keyI).Nodup) (hi : i < its.length) (h0 : 0 ≤ b) (hb : ¬ keyI (its.getD i ⟨0, 0, 0, 0⟩) < keyI (its.getD b.toNat ⟨0, 0, 0, 0⟩)) : First its d k (i + 1) b := by
 rcases h with ⟨rfl, h⟩ | ⟨j, rfl, h1, h2, h3⟩
 · omega
 · refine .inr ⟨j, rfl, by omega, h2, fun p hp hne hu => ?_⟩
   by_cases e : p = i
   · subst e
     rw [Int.toNat_natCast] at hb
     have : keyI (its.getD j ⟨0, 0, 0, 0⟩) ≠ keyI (its.getD p ⟨0, 0, 0, 0⟩) := fun e => by
      rw [getD_it hi, getD_it (show j < its.length by omega)] at e
      exact two_nodup (its := its) (by omega) hi (by omega) e hn
     omega
   · exact h3 p (by omega) hne hu
theorem First.is {its : List Dq} {d : List Int} {k : Nat} {b : Int} (h : First its d k its.length b) (hp : Pl its.length d) (hr : Rise its d) (hk : k < d.length) : b = d[k] := by
 have hl := hp.len
 have hno := nodup_take hp.nodup (k := k) hk
 obtain ⟨j0, e0, hj0⟩ := hp.at hk
 rw [e0] at hno ⊢
 rcases h with ⟨rfl, h⟩ | ⟨j, rfl, h1, h2, h3⟩
 · exact absurd (h j0 hj0) hno
 · by_cases e : j = j0
   · rw [e]
   · have h4 := h3 j0 hj0 (by omega) hno
     obtain ⟨t, ht, et⟩ := hp.all h1
     have htk : k < t := by
      rcases Nat.lt_trichotomy t k with h | h | h
      · exact absurd (List.mem_iff_getElem.2 ⟨t, by simp; omega, by rw [List.getElem_take]; exact et⟩) h2
      · subst h; rw [e0] at et; omega
      · exact h
     have h5 := List.pairwise_iff_getElem.1 hr k t (by rw [inOrd_len]; omega) (by rw [inOrd_len]; omega) htk
     rw [inOrd_at hk e0 hj0, inOrd_at ht et h1] at h5
     rw [getD_it h1, getD_it hj0] at h4
     omega
theorem rise_ex {its : List Dq} (hn : (its.map keyI).Nodup) : ∃ d, Pl its.length d ∧ Rise its d := by
 let le : Int → Int → Bool := fun x y => decide (keyI (its.getD x.toNat ⟨0, 0, 0, 0⟩) ≤ keyI (its.getD y.toNat ⟨0, 0, 0, 0⟩))
 have hp : ((upTo its.length).mergeSort le).Perm (upTo its.length) := List.mergeSort_perm _ _
 have hpl : Pl its.length ((upTo its.length).mergeSort le) := hp
 refine ⟨_, hpl, ?_⟩
 have hs := List.pairwise_mergeSort (le := le) (fun a b c h1 h2 => by simp only [le, decide_eq_true_eq] at *; omega) (fun a b => by simp only [le, Bool.or_eq_true, decide_eq_true_eq]; omega) (upTo its.length)
 have h1 : (inOrd its ((upTo its.length).mergeSort le)).Pairwise fun a b => ¬ keyI b < keyI a := by
  unfold inOrd
  rw [List.pairwise_map]
  exact hs.imp fun h => by simp only [le, decide_eq_true_eq] at h; omega
 refine rise_of h1 fun k hk e => ?_
 exact not_nodup hpl hk e hn
end Go.Proofs.YtbjjgnaojoaoiaaGreat
