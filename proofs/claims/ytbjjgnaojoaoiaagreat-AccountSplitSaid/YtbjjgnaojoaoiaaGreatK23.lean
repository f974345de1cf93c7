/- Pay, Total. -/
import Derived.Test.YtbjjgnaojoaoiaaGreatK22
import Derived.Test.YtbjjgnaojoaoiaaGreatK7
import Derived.Deep.OwnRows
import Derived.Test.YtbjjgnaojoaoiaaGreatK3
import Derived.OwnWalk
namespace Go.Proofs.YtbjjgnaojoaoiaaGreat
open Go.RowKit Go
set_option linter.unusedVariables false
set_option linter.unusedSimpArgs false

theorem info_i64 : (Tryz.prog.info? 2).map (fun i => (i.zero, i.size, i.bytes)) = some (some (.int .i64 0), 1, 8) := by kernel_rfl
theorem zero_i64 (w : World) : (zeroValue 2).run Tryz.prog w = .ok (.int .i64 0) w := by kernel_rfl
theorem ints_set' (d : List Int) (i : Nat) (v : Int) : (ints d).toArray.setIfInBounds i (.int .i64 v) = (ints (d.set i v)).toArray := by
  apply Array.ext'
  simp [ints, List.map_set]
theorem made_ints (n : Nat) : madeCells #[Value.int .i64 0] n = (ints (List.replicate n 0)).toArray := by
  apply Array.ext'
  unfold madeCells
  simp only [Array.toList_map, Array.toList_range, ints, List.map_replicate]
  apply List.ext_getElem (by simp)
  intro i h1 h2
  simp [Nat.mod_one]
/-- Only blocks a and b, and new ones, have turned. -/
structure Keeps2 (a b : Nat) (w w' : World) : Prop where
  os : w'.os = w.os
  tape : w'.tape = w.tape
  output : w'.output = w.output
  size : w.heap.size ≤ w'.heap.size
  block : ∀ x, x < w.heap.size → x ≠ a → x ≠ b → w'.heap[x]? = w.heap[x]?
theorem Keeps2.refl (a b : Nat) (w : World) : Keeps2 a b w w := ⟨rfl, rfl, rfl, Nat.le_refl _, fun _ _ _ _ => rfl⟩
theorem Keeps2.alloc {a b : Nat} {w w' : World} (h : Keeps2 a b w w') (o : Obj) : Keeps2 a b w (w'.alloc o) := ⟨h.os, h.tape, h.output, by have := h.size; simp; omega, fun x hx h1 h2 => (Below.heap_alloc _ _ _ (Nat.lt_of_lt_of_le hx h.size)).trans (h.block x hx h1 h2)⟩
theorem Keeps2.set1 {a b : Nat} {w w' : World} (h : Keeps2 a b w w') (i : Nat) (v : Value) : Keeps2 a b w (w'.setCell ⟨a, i, none⟩ v) := ⟨h.os, h.tape, h.output, by simpa using h.size, fun x hx h1 h2 => (Below.heap_setCell _ _ _ _ h1).trans (h.block x hx h1 h2)⟩
theorem Keeps2.set2 {a b : Nat} {w w' : World} (h : Keeps2 a b w w') (i : Nat) (v : Value) : Keeps2 a b w (w'.setCell ⟨b, i, none⟩ v) := ⟨h.os, h.tape, h.output, by simpa using h.size, fun x hx h1 h2 => (Below.heap_setCell _ _ _ _ h2).trans (h.block x hx h1 h2)⟩
theorem Keeps2.drew {a b : Nat} {w w' : World} (h : Keeps2 a b w w') : Keeps2 a b w w'.drew := ⟨h.os, h.tape, h.output, h.size, h.block⟩
theorem Keeps2.drewN {a b : Nat} {w w' : World} (h : Keeps2 a b w w') (n : Nat) : Keeps2 a b w (w'.drewN n) := ⟨h.os, h.tape, h.output, h.size, h.block⟩
theorem Keeps2.below {a b B : Nat} {w0 w w' : World} (h : Keeps2 a b w w') (h0 : Below B w0 w) (ha : B ≤ a) (hb : B ≤ b) (hB : B ≤ w0.heap.size) : Below B w0 w' :=
  ⟨h.os.trans h0.os, h.tape.trans h0.tape, h.output.trans h0.output, Nat.le_trans h0.size h.size, fun x hx => (h.block x (by have := h0.size; omega) (by omega) (by omega)).trans (h0.block x hx)⟩
theorem Keeps2.cell {a b : Nat} {w w' : World} (h : Keeps2 a b w w') {x i : Nat} (hx : x < w.heap.size) (h1 : x ≠ a) (h2 : x ≠ b) : w'.cell? ⟨x, i, none⟩ = w.cell? ⟨x, i, none⟩ := by simp only [World.cell?, h.block x hx h1 h2]
/-- What may be wrong with a payment. -/
def payE (its : List Dq) (a : Int) : Int := if 0 ≤ a ∧ a ≤ 4611686018427387904 then placesE its else 1
def PayOf (its : List Dq) (a : Int) (w : World) (e : Ending) (w' : World) : Prop := Below w.heap.size w w' ∧
  ((payE its a ≠ 0 ∧ e = .returned (.tuple #[.slice none 0 0, .int .i64 0, .int .i64 (payE its a)])) ∨
   (payE its a = 0 ∧ ∃ A' c', e = .returned (.tuple #[.slice A' its.length c', .int .i64 (leftI its a), .int .i64 0]) ∧ Rd w' w'.heap.size 1 A' its.length (ints (payL its a)) ∧ its.length ≤ c'))

/-- The like, and the row of what is paid is new. -/
def PayOfN (its : List Dq) (a : Int) (w : World) (e : Ending) (w' : World) : Prop := Below w.heap.size w w' ∧
  ((payE its a ≠ 0 ∧ e = .returned (.tuple #[.slice none 0 0, .int .i64 0, .int .i64 (payE its a)])) ∨
   (payE its a = 0 ∧ ∃ A' c', e = .returned (.tuple #[.slice A' its.length c', .int .i64 (leftI its a), .int .i64 0]) ∧ Rd w' w'.heap.size 1 A' its.length (ints (payL its a)) ∧ its.length ≤ c' ∧ ∀ b, A' = some b → w.heap.size ≤ b.block))
theorem PayOfN.old {its : List Dq} {a : Int} {w w' : World} {e : Ending} (h : PayOfN its a w e w') : PayOf its a w e w' :=
  ⟨h.1, h.2.imp id fun ⟨h1, A', c', h2, h3, h4, _⟩ => ⟨h1, A', c', h2, h3, h4⟩⟩

theorem leftTo_bd {its : List Dq} {amount : Int} {d : List Int} (hok : its.all okI = true) (h : Pl its.length d) (ha : 0 ≤ amount) (k : Nat) : 0 ≤ leftTo its amount d k ∧ leftTo its amount d k ≤ amount := by
  have h1 : 0 ≤ opens ((inOrd its d).take k) := opens_nonneg (List.all_eq_true.2 fun x hx => List.all_eq_true.1 hok x ((inOrd_perm h).mem_iff.1 (List.mem_of_mem_take hx)))
  unfold leftTo; omega
theorem take_any (gb : Nat) (o a m : Int) (w : World) (hb : w.heap[gb]? = some (.cells #[.int .i64 a] 2 (0, 0))) (ho : 0 ≤ o ∧ o ≤ 4611686018427387904) (ha : 0 ≤ a ∧ a ≤ 4611686018427387904) (hm : m = min o a) :
    Calls Tryz.prog 148 #[.int .i64 o, .pointer (some ⟨gb, 0, none⟩)] w fun e w' => e = .returned (.int .i64 m) ∧ w' = w.setCell ⟨gb, 0, none⟩ (.int .i64 (a - m)) := by
  have c0 : w.cell? ⟨gb, 0, none⟩ = some (.int .i64 a) := blk_cell hb 0
  have f0 : w.frozen? ⟨gb, 0, none⟩ = false := blk_free hb 0
  clear hb
  by_cases h : o ≤ a
  · obtain rfl : m = o := by omega
    clear hm
    go_enter Tryz.func148, Tryz.ntmps148
    go_wp2_with fail
    go_ret
    exact ⟨by rw [show min m a = m by omega]; rfl, by rw [show min m a = m by omega]⟩
  · obtain rfl : m = a := by omega
    have h2 : m < o := by omega
    clear h hm
    go_enter Tryz.func148, Tryz.ntmps148
    go_wp2_with fail
    go_ret
    exact ⟨by rw [show min o m = m by omega]; rfl, by rw [show min o m = m by omega]⟩

set_option maxHeartbeats 6400000 in
set_option maxRecDepth 100000 in
theorem pay_anyN (A : Option Addr) (its : List Dq) (a : Int) (c : Nat) (w : World) (hr : ItR w A its) (hm : its.length ≤ maxLen) :
    Calls Tryz.prog 111 #[.slice A its.length c, .int .i64 a] w (PayOfN its a w) := by
  unfold maxLen at hm
  by_cases ha : 0 ≤ a ∧ a ≤ 4611686018427387904
  · have HP : Hid (payE its a = placesE its) := Lib.hid (if_pos ha)
    have hb0 : Below w.heap.size w (w.alloc (.cells #[.int .i64 a] 2)) := below_new _ _
    have hbox : (w.alloc (.cells #[.int .i64 a] 2)).heap[w.heap.size]? = some (.cells #[.int .i64 a] 2 (0, 0)) := blk_new _ _ rfl
    have hr0 := (hr.below hb0).wider hb0.size
    have HPL := Lib.hid (places_any A its c (w.alloc (.cells #[.int .i64 a] 2)) hr0 (by unfold maxLen; omega))
    unfold ItR at hr
    have HR := Lib.hid (hr.below hb0)
    have HB0 := Lib.hid hb0; have HBOX := Lib.hid hbox; have HA := Lib.hid ha
    have hzz : w.heap.size < (w.alloc (.cells #[.int .i64 a] 2)).heap.size := by simp
    clear hr hb0 hbox hr0 ha
    obtain ⟨n, hn⟩ : ∃ n, its.length = n := ⟨_, rfl⟩
    rw [hn] at HR hm HPL ⊢
    have HN := Lib.hid hn; clear hn
    go_enter Tryz.func111, Tryz.ntmps111
    go_wp2_with fail
    refine (within64_yes a 0 4611686018427387904 _ HA.out).mono ?_; rintro e w' ⟨rfl, rfl⟩
    go_wp2_with fail
    generalize hW : w.alloc (.cells #[.int .i64 a] 2) = W at *
    clear hW
    refine HPL.out.mono ?_
    intro e w1 hpl
    obtain ⟨hb1, ⟨hne, rfl⟩ | ⟨he, A', c', d, rfl, hrd, hpd, hri, hnew⟩⟩ := hpl
    · have HB1 := Lib.hid (HB0.out.trans (hb1.mono (by omega)))
      have hne' : (placesE its != 0) = true := by simpa using hne
      have HNE := Lib.hid hne
      clear hb1 hne
      go_wp2_with fail
      go_ret3
      exact ⟨HB1.out, .inl ⟨by rw [HP.out]; exact HNE.out, by rw [HP.out]; rfl⟩⟩
    · have HB1 := Lib.hid hb1
      have HRD := Lib.hid hrd; have HPD := Lib.hid hpd; have HRI := Lib.hid hri; have HNEW := Lib.hid hnew; have HE := Lib.hid he
      have HR1 := Lib.hid (HR.out.below (hb1.mono (by omega)))
      have HBX : Hid (w1.heap[w.heap.size]? = some (.cells #[.int .i64 a] 2 (0, 0))) := Lib.hid (blk_below HBOX.out hb1 hzz)
      have hz1 := hb1.size
      clear hb1 hrd hpd hri hnew he HR
      rw [HN.out] at HRD
      rw [HN.out]
      have h200 : n ≤ 200 := by have := (placesE_ok HE.out).1; have := HN.out; omega
      have hmk := run_make_row' (P := Tryz.prog) 26 2 (.int .i64 0) 8 Tryz.underlying26 info_i64 rfl .i64 .i64 n (by omega) (by omega)
      rw [made_ints] at hmk
      have HMK := hmk w1
      clear hmk
      have HL0 := Lib.hid (leftTo_zero (its := its) (amount := a) (d := d) HA.out.1)
      have HP0 : Hid (ints (List.replicate n 0) = ints (paidTo its a d 0)) := Lib.hid (by rw [paidTo_zero, HN.out])
      have HB1' := Lib.hid (HB1.out.alloc hz1 (.cells (ints (List.replicate n 0)).toArray 2))
      go_wp2_with fail
      clear HMK
      go_loopw [30] (fun vi wr => ∃ j : Nat, j ≤ n ∧ vi = .int .i64 j ∧ wr.heap[w.heap.size]? = some (.cells #[.int .i64 (leftTo its a d j)] 2 (0, 0)) ∧ wr.heap[w1.heap.size]? = some (.cells (ints (paidTo its a d j)).toArray 2 (0, 0)) ∧ Keeps2 w.heap.size w1.heap.size w1 wr) (fun vi _ => n - (intOf vi).toNat)
      case atStart => exact ⟨0, by omega, rfl, by rw [HL0.out]; exact blk_alloc HBX.out _, by rw [← HP0.out]; exact blk_new _ _ rfl, (Keeps2.refl _ _ _).alloc _⟩
      case round =>
        obtain ⟨j, hj, rfl, hba, hbo, hk⟩ := hrel
        have HBA := Lib.hid hba; have HBO := Lib.hid hbo; have HK := Lib.hid hk
        clear hba hbo hk
        have hok := (placesE_ok HE.out).2.1
        have HOK := Lib.hid hok; clear hok
        by_cases hlt : j < n
        · have hjd : j < d.length := by have := HPD.out.len; have := HN.out; omega
          obtain ⟨p, ep, hp⟩ := HPD.out.at hjd
          obtain ⟨bd, od, rfl, hbd, hcd⟩ := HRD.out.num hjd
          rw [ep] at hcd
          have hnb := HNEW.out bd od rfl
          have cd : wr.cell? ⟨bd, od + j, none⟩ = some (.int .i64 (p : Int)) := (HK.out.cell (by omega) (by omega) (by omega)).trans hcd
          obtain ⟨b, off, rfl, hb, x0, x1, x2, x3⟩ := HR1.out.it hp
          have cx : wr.cell? ⟨b, off + p * 4 + 3, none⟩ = some (.int .i64 its[p].opn) := (HK.out.cell (by omega) (by omega) (by omega)).trans x3
          obtain ⟨s1, s2⟩ := pay_step (amount := a) HOK.out HPD.out HRI.out hjd ep hp
          have hbx := okI_yes (List.all_eq_true.1 HOK.out its[p] (List.getElem_mem _))
          have hlb := leftTo_bd (d := d) HOK.out HPD.out HA.out.1 j
          obtain ⟨m, hm'⟩ : ∃ m, paidI its a its[p] = m := ⟨_, rfl⟩
          have hst := paidTo_step (amount := a) hjd ep hp
          rw [hm'] at s1 hst
          rw [← s1] at s2
          have hpn : p < n := by have := HN.out; omega
          have hao : wr.cell? ⟨w1.heap.size, p, none⟩ = some (.int .i64 ((paidTo its a d j)[p]'(by rw [paidTo_len]; exact hp))) := by
            rw [blk_cell HBO.out, List.getElem?_toArray, ints_at _ _ (by rw [paidTo_len]; exact hp)]
          have hfo : wr.frozen? ⟨w1.heap.size, p, none⟩ = false := blk_free HBO.out p
          generalize (paidTo its a d j)[p]'(by rw [paidTo_len]; exact hp) = old at hao
          have HST := Lib.hid hst; have HS2 := Lib.hid s2
          have hopn : 0 ≤ its[p].opn ∧ its[p].opn ≤ 4611686018427387904 := by omega
          have hla : 0 ≤ leftTo its a d j ∧ leftTo its a d j ≤ 4611686018427387904 := ⟨hlb.1, by have := hlb.2; have := HA.out.2; omega⟩
          have HTK := Lib.hid (take_any w.heap.size its[p].opn (leftTo its a d j) m wr HBA.out hopn hla s1)
          generalize its[p].opn = o at *
          clear x0 x1 x2 x3 hcd ep hbx hlb hm' hst s1 s2 hopn hla
          have i1 : (0 : Int) ≤ (j : Int) := by omega
          have i2 : (j : Int) < (n : Int) := by omega
          have i3 : (0 : Int) ≤ (p : Int) := by omega
          have i4 : (p : Int) < (n : Int) := by omega
          have n1 : w.heap.size ≠ w1.heap.size := by omega
          have n2 : w1.heap.size ≠ w.heap.size := by omega
          go_wp2_with fail
          refine HTK.out.mono ?_; rintro e w2 ⟨rfl, rfl⟩
          go_wp2_with fail
          refine ⟨⟨j + 1, by omega, by go_num, ?_, ?_, (HK.out.set1 _ _).set2 _ _⟩, by simp [intOf]; omega⟩
          · rw [HS2.out]; exact blk_far (p := ⟨w1.heap.size, p, none⟩) (blk_set HBA.out 0 _) n1 _
          · rw [HST.out, ← ints_set']; exact blk_set (blk_far (p := ⟨w.heap.size, 0, none⟩) HBO.out n2 _) p _
        · have hjn : j = n := by omega
          subst hjn
          have c0 := blk_cell HBA.out 0
          have HL : Hid (leftTo its a d j = leftI its a) := Lib.hid (by have := leftTo_all (amount := a) HPD.out; rwa [HPD.out.len, HN.out] at this)
          have HF : Hid (paidTo its a d j = payL its a) := Lib.hid (by have := paidTo_all (amount := a) HPD.out; rwa [HPD.out.len, HN.out] at this)
          have HLEN : Hid ((ints (paidTo its a d j)).length = j) := Lib.hid (by rw [ints_len, paidTo_len]; exact HN.out)
          have c0' : wr.cell? ⟨w.heap.size, 0, none⟩ = some (.int .i64 (leftTo its a d j)) := by simpa using c0
          clear c0 hlt
          go_wp2_with fail
          go_quiet (fail)
          go_wp2_with fail
          go_ret3
          refine ⟨below_drewN (HK.out.below (HB0.out.trans (HB1.out.mono (by omega))) (Nat.le_refl _) (by omega) (Nat.le_refl _)) _, .inr ⟨by rw [HP.out]; exact HE.out, some ⟨w1.heap.size, 0, none⟩, j, by rw [HL.out, HN.out]; rfl, ?_, by rw [HN.out]; exact Nat.le_refl _, fun b hb => by injection hb with hb; subst hb; show w.heap.size ≤ w1.heap.size; omega⟩⟩
          rw [← HF.out, HN.out]
          exact ⟨by rw [HLEN.out]; omega, fun _ => ⟨w1.heap.size, 0, rfl, blk_lt HBO.out, fun q hq => by rw [Nat.zero_add]; exact (blk_cell HBO.out q).trans (by simp)⟩⟩
  · have HP : Hid (payE its a = 1) := Lib.hid (if_neg ha)
    have HA := Lib.hid ha; clear ha
    go_enter Tryz.func111, Tryz.ntmps111
    go_wp2_with fail
    refine (within64_no a 0 4611686018427387904 _ HA.out).mono ?_; rintro e w' ⟨rfl, rfl⟩
    go_wp2_with fail
    go_ret3
    exact ⟨(by repeat' (first | (with_reducible exact Below.refl _ _) | (with_reducible refine Below.alloc ?_ ?_ _) | (with_reducible refine below_drewN ?_ _) | (with_reducible refine Below.drew ?_) | (with_reducible refine Below.setCell ?_ ?_ _) | (with_reducible refine Below.trans ?_ (Below.mono HW0.out ?_)) | (with_reducible refine Below.trans ?_ (Below.mono HW1.out ?_)) | (with_reducible refine Below.trans ?_ (Below.mono HW2.out ?_)) | (with_reducible refine Below.trans ?_ (Below.mono HW3.out ?_)) | (with_reducible refine Below.trans ?_ (Below.mono HW4.out ?_)) | (with_reducible refine Below.trans ?_ (Below.mono HW5.out ?_)) | (with_reducible refine Below.trans ?_ (Below.mono HW6.out ?_)) | (with_reducible refine Below.trans ?_ (Below.mono HW7.out ?_)) | (with_reducible exact Nat.le_refl _) | omega | (simp only [World.size_alloc, World.size_setCell, World.size_drew, size_drewN]; omega) | (simp; done) | (simp; omega))), .inl ⟨by rw [HP.out]; decide, by rw [HP.out]; rfl⟩⟩
theorem pay_any (A : Option Addr) (its : List Dq) (a : Int) (c : Nat) (w : World) (hr : ItR w A its) (hm : its.length ≤ maxLen) :
    Calls Tryz.prog 111 #[.slice A its.length c, .int .i64 a] w (PayOf its a w) := (pay_anyN A its a c w hr hm).mono fun _ _ h => h.old
theorem pay_nN (A : Option Addr) (its : List Dq) (a : Int) (n c : Nat) (w : World) (hn : its.length = n) (hr : Rd w w.heap.size 4 A n (itCs its)) (hm : n ≤ maxLen) :
    Calls Tryz.prog 111 #[.slice A n c, .int .i64 a] w (PayOfN its a w) := by
  subst hn; exact pay_anyN A its a c w hr hm
theorem pay_n (A : Option Addr) (its : List Dq) (a : Int) (n c : Nat) (w : World) (hn : its.length = n) (hr : Rd w w.heap.size 4 A n (itCs its)) (hm : n ≤ maxLen) :
    Calls Tryz.prog 111 #[.slice A n c, .int .i64 a] w (PayOf its a w) := by
  subst hn; exact pay_any A its a c w hr hm
end Go.Proofs.YtbjjgnaojoaoiaaGreat
/- Total, Order. -/
namespace Go.Proofs.YtbjjgnaojoaoiaaGreat
open Go.RowKit Go
set_option linter.unusedVariables false
set_option linter.unusedSimpArgs false

def totalS (its : List Dq) : Int × Int := if placesE its = 0 then sumS (its.map Dq.opn) else (0, placesE its)
set_option maxHeartbeats 3200000 in
set_option maxRecDepth 100000 in
theorem total_any (A : Option Addr) (its : List Dq) (n c : Nat) (w : World) (hn : its.length = n) (hr : Rd w w.heap.size 4 A n (itCs its)) (hm : n ≤ maxLen) :
    Calls Tryz.prog 13 #[.slice A n c] w fun e w' => e = .returned (pr (totalS its)) ∧ Below w.heap.size w w' := by
  unfold maxLen at hm
  obtain ⟨i0, hi, hz0, hz1', hz2⟩ := info_parts info_i64
  have hp := places_any A its c w (by unfold ItR; rw [hn]; exact hr) (by unfold maxLen; omega)
  rw [hn] at hp
  have HN := Lib.hid hn; have HR := Lib.hid hr; have HP := Lib.hid hp
  clear hn hr hp
  go_enter Tryz.func13, Tryz.ntmps13
  go_wp2_with fail
  refine HP.out.mono ?_
  intro e w1 h
  obtain ⟨hb1, ⟨hne, rfl⟩ | ⟨he, A', c', d, rfl, hrd, hpd, hri, hnew⟩⟩ := h
  · have HB1 := Lib.hid hb1
    have HT : Hid (totalS its = (0, placesE its)) := Lib.hid (if_neg hne)
    rcases placesE_cases its with he | he | he
    · exact absurd he hne
    · rw [he] at HT ⊢
      clear he hne hb1
      go_wp2_with fail
      go_ret2
      exact ⟨by rw [HT.out]; rfl, HB1.out⟩
    · rw [he] at HT ⊢
      clear he hne hb1
      go_wp2_with fail
      go_ret2
      exact ⟨by rw [HT.out]; rfl, HB1.out⟩
  · have HB1 := Lib.hid hb1
    have hz1 := hb1.size
    have HR1 := Lib.hid (HR.out.below hb1)
    have HT : Hid (totalS its = sumS (its.map Dq.opn)) := Lib.hid (if_pos he)
    have h200 : n ≤ 200 := by have := (placesE_ok he).1; have := HN.out; omega
    clear he hb1 hrd hpd hri hnew HP
    go_wp2_with fail
    go_loopw [6, 19] (fun v i wr => ∃ k : Nat, k ≤ n ∧ i = .int .i64 k ∧ wr.ownsRow w1.heap.size 2 1 v k (ints ((its.take k).map Dq.opn)) ∧ Below w1.heap.size w1 wr) (fun _ i _ => n - (intOf i).toNat)
    case atStart => exact ⟨0, by omega, rfl, World.ownsRow_nil _ _ _ 1, Below.refl _ _⟩
    case round =>
      obtain ⟨k, hk, rfl, hown, hbr⟩ := hrel
      have HO := Lib.hid hown; have HB := Lib.hid hbr
      have hzr := hbr.size
      by_cases hlt : k < n
      · have hk' : k < its.length := by have := HN.out; omega
        obtain ⟨b, off, rfl, hb, x0, x1, x2, x3⟩ := (HR1.out.below (hbr.mono hz1)).it hk'
        have HTK : Hid (ints ((its.take (k + 1)).map Dq.opn) = ints ((its.take k).map Dq.opn) ++ [.int .i64 its[k].opn]) := Lib.hid (by rw [List.take_succ_eq_append_getElem hk', List.map_append]; simp only [ints, List.map_append, List.map_cons, List.map_nil])
        generalize its[k] = x at *
        clear hbr hown
        have i1 : (0 : Int) ≤ (k : Int) := by omega
        have i2 : (k : Int) < (n : Int) := by omega
        go_wp2_with (at_builtin; refine wpList_app rfl (.tmp 23) (.tmp 26) _ rfl w1.heap.size 2 i0 _ 1 8 Tryz.underlying26 hi hz0 hz1' hz2 rfl (by omega) _ _ _ rfl ((HO.out.alloc _).alloc _) _ _ 1 1 [.int .i64 x.opn] rfl (Rd.new (cs := #[.int .i64 x.opn]) (by simp) rfl) (by simp [Value.oneCell']) (by unfold maxLen; omega) (by omega) (by simp; omega) ?_; intro v2 w2 hown2 hg2 hat2)
        refine ⟨⟨k + 1, by omega, by go_num, by rw [HTK.out]; exact hown2, ?_⟩, by simp [intOf]; omega⟩
        exact ((HB.out.alloc hzr _).alloc (by simp; omega) _).grown hg2 (by simp; omega) (fun k hk => (HO.out.lt k hk).1)
      · have hkn : k = n := by omega
        subst hkn
        rw [List.take_of_length_le (by rw [HN.out]; exact Nat.le_refl _)] at hown
        obtain ⟨A2, c2, rfl, _⟩ := own_form hown
        have hl : (its.map Dq.opn).length = k := by rw [List.length_map]; exact HN.out
        have hrt := Rd.of_own hown
        have hsm := sum_any A2 (its.map Dq.opn) c2 wr (by rw [hl]; exact hrt) (by rw [hl]; omega)
        rw [hl] at hsm
        have HS := Lib.hid hsm
        have HB2 := Lib.hid (HB1.out.trans (hbr.mono hz1))
        clear hbr hown hrt hl hsm
        go_wp2_with fail
        refine HS.out.mono ?_; rintro e w2 ⟨rfl, hw2⟩
        have HB3 := Lib.hid (HB2.out.trans (hw2.mono HB2.out.size))
        clear hw2
        go_wp2_with fail
        go_ret2
        exact ⟨by rw [HT.out]; rfl, HB3.out⟩
end Go.Proofs.YtbjjgnaojoaoiaaGreat
/- Own rows: words on them; items in order, in a row of the call's own. -/
namespace Go.Proofs.YtbjjgnaojoaoiaaGreat
open Go.RowKit Go
set_option linter.unusedVariables false
set_option linter.unusedSimpArgs false

/-- Order of items that are right: a row of the call's own. -/
def OrdOf (its : List Dq) (w : World) (e : Ending) (w' : World) : Prop := Below w.heap.size w w' ∧
  ∃ A' c' s, e = .returned (.tuple #[.slice A' its.length c', .int .i64 0]) ∧ w'.ownsRow w.heap.size 58 4 (.slice A' its.length c') its.length (itCs s) ∧ IsOrd its s
theorem inOrd_take (its : List Dq) (d : List Int) (k j : Nat) (hk : k < d.length) (hj : d[k] = (j : Int)) (hjn : j < its.length) : itCs (inOrd its (d.take (k + 1))) = itCs (inOrd its (d.take k)) ++ itC its[j] := by
  have : inOrd its (d.take (k + 1)) = inOrd its (d.take k) ++ [its[j]] := by
    unfold inOrd
    rw [List.take_succ_eq_append_getElem hk, List.map_append, List.map_cons, List.map_nil, hj]
    simp [hjn]
  rw [this, itCs_app]; simp [itCs]
set_option maxHeartbeats 3200000 in
set_option maxRecDepth 100000 in
theorem order_own (A : Option Addr) (its : List Dq) (n c : Nat) (w : World) (hn : its.length = n) (hr : Rd w w.heap.size 4 A n (itCs its)) (hm : n ≤ maxLen) (hp0 : placesE its = 0) :
    Calls Tryz.prog 108 #[.slice A n c] w (OrdOf its w) := by
  unfold maxLen at hm
  obtain ⟨i0, hi, hz0, hz1', hz9⟩ := info_parts info_it
  have hp := places_any A its c w (by unfold ItR; rw [hn]; exact hr) (by unfold maxLen; omega)
  rw [hn] at hp
  have HP0 := Lib.hid hp0; have HN := Lib.hid hn; have HR := Lib.hid hr; have HP := Lib.hid hp
  clear hn hr hp hp0
  go_enter Tryz.func108, Tryz.ntmps108
  go_wp2_with fail
  refine HP.out.mono ?_
  intro e w1 h
  obtain ⟨hb1, ⟨hne, rfl⟩ | ⟨he, A', c', d, rfl, hrd, hpd, hri, hnew⟩⟩ := h
  · exact absurd HP0.out hne
  · have HB1 := Lib.hid hb1
    have hz1 := hb1.size
    have HR1 := Lib.hid (HR.out.below hb1)
    have HE := Lib.hid he
    have h200 : n ≤ 200 := by have := (placesE_ok he).1; have := HN.out; omega
    rw [HN.out] at hrd
    have HRD := Lib.hid hrd; have HPD := Lib.hid hpd; have HRI := Lib.hid hri
    have HDL : Hid (d.length = n) := Lib.hid (by rw [hpd.len]; exact HN.out)
    rw [HN.out]
    clear he hb1 hrd hpd hri hnew HP
    go_wp2_with (at_make; refine wpList_make_own _ rfl _ _ 41 rfl w1.heap.size 58 i0 _ 4 Tryz.underlying41 hi hz0 hz1' .i64 .i64 _ n rfl rfl (by first | rfl | omega) (by rw [hz9]; omega) (by unfold maxLen; omega) (Nat.le_refl _) ?_; intro w2 hown2 hg2)
    have HB2 : Hid (Below w1.heap.size w1 w2) := Lib.hid ((Below.refl _ _).grown hg2 (Nat.le_refl _) (fun k hk => by cases hk))
    have HO2 := Lib.hid hown2
    clear hown2 hg2
    go_loopg [6, 22] n (fun gh v i wr => ∃ k : Nat, gh = n - k ∧ k ≤ n ∧ i = .int .i64 k ∧ wr.ownsRow w1.heap.size 58 4 v k (itCs (inOrd its (d.take k))) ∧ Below w1.heap.size w1 wr)
    case atStart => exact ⟨0, rfl, by omega, rfl, HO2.out, HB2.out⟩
    case round =>
      obtain ⟨k, hgk, hk, rfl, hown, hbr⟩ := hrel
      have HG := Lib.hid hgk; have HO := Lib.hid hown; have HB := Lib.hid hbr
      have hzr := hbr.size
      by_cases hlt : k < n
      · have hkd : k < d.length := by have := HDL.out; omega
        obtain ⟨p, ep, hp⟩ := HPD.out.at hkd
        obtain ⟨bd, od, rfl, hbd, cd⟩ := (HRD.out.below hbr).num hkd
        rw [ep] at cd
        obtain ⟨b, off, rfl, hb, x0, x1, x2, x3⟩ := (HR1.out.below (hbr.mono hz1)).it hp
        have HTK := Lib.hid (inOrd_take its d k p hkd ep hp)
        unfold itC at HTK
        have hpn : p < n := by have := HN.out; omega
        generalize its[p] = x at *
        clear hbr hown ep hgk
        have i1 : (0 : Int) ≤ (k : Int) := by omega
        have i2 : (k : Int) < (n : Int) := by omega
        have i3 : (0 : Int) ≤ (p : Int) := by omega
        have i4 : (p : Int) < (n : Int) := by omega
        go_wp2_with (at_builtin; refine wpList_app rfl (.tmp 26) (.tmp 31) _ rfl w1.heap.size 58 i0 _ 4 32 Tryz.underlying41 hi hz0 hz1' hz9 rfl (by omega) _ _ _ rfl (HO.out.alloc _) _ _ 1 1 [.int .i64 x.due, .int .i64 x.kind, .int .i64 x.per, .int .i64 x.opn] rfl (Rd.new (cs := #[.int .i64 x.due, .int .i64 x.kind, .int .i64 x.per, .int .i64 x.opn]) rfl rfl) (by simp [Value.oneCell']) (by unfold maxLen; omega) (by omega) (by simp; omega) ?_; intro v2 w3 hown3 hg3 hat3)
        go_roundg (n - (k + 1))
        case measure => have := HG.out; omega
        case rel =>
          refine ⟨k + 1, rfl, by omega, by go_num, by rw [HTK.out]; exact hown3, ?_⟩
          exact (HB.out.alloc hzr _).grown hg3 (by simp; omega) (fun k hk => (HO.out.lt k hk).1)
      · have hkn : k = n := by omega
        subst hkn
        rw [List.take_of_length_le (by rw [HDL.out]; exact Nat.le_refl _)] at hown
        obtain ⟨A2, c2, rfl, _⟩ := own_form hown
        have HOO := Lib.hid hown
        have HZ1 := Lib.hid hz1
        have HBF := Lib.hid (HB1.out.trans (hbr.mono hz1))
        clear hown hbr hgk
        go_wp2_with fail
        go_ret2
        refine ⟨HBF.out, A2, c2, inOrd its d, by rw [HN.out]; rfl, by rw [HN.out]; exact own_mono HOO.out HZ1.out, IsOrd.of HPD.out HRI.out⟩
end Go.Proofs.YtbjjgnaojoaoiaaGreat
/- Paying items, in plain words: rises, sums, parts. -/
namespace Go.Proofs.YtbjjgnaojoaoiaaGreat
set_option linter.unusedVariables false
set_option linter.unusedSimpArgs false

theorem rise_exP {its : List Dq} (hn : (its.map keyI).Nodup) : ∃ d, Pl its.length d ∧ Rise its d := by
  let le : Int → Int → Bool := fun x y => decide (keyI (its.getD x.toNat ⟨0, 0, 0, 0⟩) ≤ keyI (its.getD y.toNat ⟨0, 0, 0, 0⟩))
  have hp : ((upTo its.length).mergeSort le).Perm (upTo its.length) := List.mergeSort_perm _ _
  have hpl : Pl its.length ((upTo its.length).mergeSort le) := hp
  refine ⟨_, hpl, ?_⟩
  have hs := List.pairwise_mergeSort (le := le) (fun a b c h1 h2 => by simp only [le, decide_eq_true_eq] at *; omega) (fun a b => by simp only [le, Bool.or_eq_true, decide_eq_true_eq]; omega) (upTo its.length)
  have h1 : (inOrd its ((upTo its.length).mergeSort le)).Pairwise fun a b => ¬ keyI b < keyI a := by
    unfold inOrd
    rw [List.pairwise_map]
    exact hs.imp fun h => by simp only [le, decide_eq_true_eq] at h; omega
  refine rise_of h1 fun k hk e => ?_
  exact not_nodup hpl hk e hn
theorem payE_okP {its : List Dq} {a : Int} (h : payE its a = 0) : (0 ≤ a ∧ a ≤ 4611686018427387904) ∧ placesE its = 0 := by
  unfold payE at h
  by_cases h1 : 0 ≤ a ∧ a ≤ 4611686018427387904
  · rw [if_pos h1] at h; exact ⟨h1, h⟩
  · rw [if_neg h1] at h; omega
theorem payL_lenP (its : List Dq) (a : Int) : (payL its a).length = its.length := by simp [payL]
theorem payL_atP (its : List Dq) (a : Int) (k : Nat) (h : k < its.length) : (payL its a)[k]'(by rw [payL_lenP]; exact h) = paidI its a its[k] := by simp [payL]
theorem pay_sumP {its : List Dq} {a : Int} (h : payE its a = 0) : (payL its a).sum = a - leftI its a := by
  obtain ⟨h1, h2⟩ := payE_okP h
  obtain ⟨_, hok, hnd⟩ := placesE_ok h2
  obtain ⟨d, hpd, hri⟩ := rise_exP hnd
  exact paidSum hok hpd hri h1.1
theorem pay_bdP {its : List Dq} {a : Int} (h : payE its a = 0) (k : Nat) (hk : k < its.length) :
    0 ≤ (payL its a)[k]'(by rw [payL_lenP]; exact hk) ∧ (payL its a)[k]'(by rw [payL_lenP]; exact hk) ≤ its[k].opn := by
  obtain ⟨h1, h2⟩ := payE_okP h
  obtain ⟨_, hok, hnd⟩ := placesE_ok h2
  rw [payL_atP _ _ _ hk]; exact paid_bd hok (List.getElem_mem hk)
end Go.Proofs.YtbjjgnaojoaoiaaGreat
