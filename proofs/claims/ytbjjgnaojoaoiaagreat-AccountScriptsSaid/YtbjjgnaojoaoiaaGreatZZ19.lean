/- Laws. -/
import Derived.Test.YtbjjgnaojoaoiaaGreatZZ18
import Derived.Deep.DeepCutAuto
import Derived.Test.YtbjjgnaojoaoiaaGreatZZ7
namespace Go.Proofs.YtbjjgnaojoaoiaaGreat
open Go.RowKit Go
set_option linter.unusedVariables false
set_option linter.unusedSimpArgs false
set_option maxHeartbeats 6400000
set_option maxRecDepth 100000
theorem info_int : (Tryz.prog.info? 3).map (fun i => (i.zero, i.size, i.bytes)) = some (some (.int .i64 0), 1, 8) := by kernel_rfl
def PlacesOf (its : List Dq) (w : World) (e : Ending) (w' : World) : Prop := Below w.heap.size w w' ∧
 ((placesE its ≠ 0 ∧ e = .returned (.tuple #[.slice none 0 0, .int .i64 (placesE its)])) ∨
  (placesE its = 0 ∧ ∃ A' c' d, e = .returned (.tuple #[.slice A' its.length c', .int .i64 0]) ∧ Rd w' w'.heap.size 1 A' its.length (ints d) ∧ Pl its.length d ∧ Rise its d ∧ ∀ b off, A' = some ⟨b, off, none⟩ → w.heap.size ≤ b))
theorem PlacesOf.no1 {its : List Dq} {w w' : World} (h : placesE its = 1) (hb : Below w.heap.size w w') : PlacesOf its w (.returned (.tuple #[.slice none 0 0, .int .i64 1])) w' := ⟨hb, .inl ⟨by omega, by rw [h]⟩⟩
theorem PlacesOf.no5 {its : List Dq} {w w' : World} (h : placesE its = 5) (hb : Below w.heap.size w w') : PlacesOf its w (.returned (.tuple #[.slice none 0 0, .int .i64 5])) w' := ⟨hb, .inl ⟨by omega, by rw [h]⟩⟩
theorem placesE_long {its : List Dq} (h : 200 < its.length) : placesE its = 1 := by unfold placesE; rw [if_neg (by omega)]
theorem placesE_bad {its : List Dq} {k : Nat} (hk : k < its.length) (h : ¬ okI its[k] = true) : placesE its = 1 := by
 unfold placesE; rw [if_neg]; rintro ⟨_, ha⟩; rw [all_no okI its k hk h] at ha; cases ha
theorem placesE_two {its : List Dq} (hl : its.length ≤ 200) (hok : its.all okI = true) (h : ¬ (its.map keyI).Nodup) : placesE its = 5 := by
 unfold placesE; rw [if_pos ⟨hl, hok⟩, if_neg h]
theorem placesE_yes {its : List Dq} (hl : its.length ≤ 200) (hok : its.all okI = true) (h : (its.map keyI).Nodup) : placesE its = 0 := by
 unfold placesE; rw [if_pos ⟨hl, hok⟩, if_pos h]
theorem okI_no {x : Dq} (h : ¬ okI x = true) : ¬ (0 ≤ x.due ∧ x.due ≤ 3652058) ∨ ((0 ≤ x.due ∧ x.due ≤ 3652058) ∧ ¬ (0 ≤ x.kind ∧ x.kind ≤ 2)) ∨ ((0 ≤ x.due ∧ x.due ≤ 3652058) ∧ (0 ≤ x.kind ∧ x.kind ≤ 2) ∧ ¬ (1 ≤ x.per ∧ x.per ≤ 99999)) ∨
  ((0 ≤ x.due ∧ x.due ≤ 3652058) ∧ (0 ≤ x.kind ∧ x.kind ≤ 2) ∧ (1 ≤ x.per ∧ x.per ≤ 99999) ∧ ¬ (0 ≤ x.opn ∧ x.opn ≤ 4611686018427387904)) := by
 have : ¬ (0 ≤ x.due ∧ x.due ≤ 3652058 ∧ 0 ≤ x.kind ∧ x.kind ≤ 2 ∧ 1 ≤ x.per ∧ x.per ≤ 99999 ∧ 0 ≤ x.opn ∧ x.opn ≤ 4611686018427387904) := by simpa [okI] using h
 by_cases h1 : 0 ≤ x.due ∧ x.due ≤ 3652058
 · by_cases h2 : 0 ≤ x.kind ∧ x.kind ≤ 2
   · by_cases h3 : 1 ≤ x.per ∧ x.per ≤ 99999
     · exact .inr (.inr (.inr ⟨h1, h2, h3, fun h4 => this ⟨h1.1, h1.2, h2.1, h2.2, h3.1, h3.2, h4.1, h4.2⟩⟩))
     · exact .inr (.inr (.inl ⟨h1, h2, h3⟩))
   · exact .inr (.inl ⟨h1, h2⟩)
 · exact .inl h1
def upTo (k : Nat) : List Int := (List.range k).map fun (i : Nat) => (i : Int)
theorem upTo_succ (k : Nat) : ints (upTo (k + 1)) = ints (upTo k) ++ [.int .i64 (k : Int)] := by
 unfold upTo ints; rw [List.range_succ]; simp
theorem places_any (A : Option Addr) (its : List Dq) (c : Nat) (w : World) (hr : ItR w A its) (hm : its.length ≤ maxLen) :
  Calls Tryz.prog 44 #[.slice A its.length c] w (PlacesOf its w) := by
 unfold maxLen at hm
 obtain ⟨i0, hi, hz0, hz1, hz2⟩ := info_parts info_int
 obtain ⟨n, hn⟩ : ∃ n, its.length = n := ⟨_, rfl⟩
 by_cases h200 : n ≤ 200
 · have hb0 : Below w.heap.size w (w.alloc (.cells #[.slice A its.length c] 41)) := below_new _ _
   have hbox : (w.alloc (.cells #[.slice A its.length c] 41)).heap[w.heap.size]? = some (.cells #[.slice A its.length c] 41 (0, 0)) := blk_new _ _ rfl
   have HR := hyd ((hr.below hb0))
   have HB0 := hyd hb0; have HBOX := hyd hbox
   clear hr hb0 hbox
   rw [hn] at HR hm HB0 HBOX ⊢
   have HN := hyd hn; clear hn
   go_enter Tryz.func44, Tryz.ntmps44
   go_wp2_with fail
   have hzz : w.heap.size < (w.alloc (.cells #[.slice A n c] 41)).heap.size := by simp
   generalize hW : w.alloc (.cells #[.slice A n c] 41) = W at *
   clear hW
   go_loopw [4, 13] (fun out i wr => ∃ k : Nat, k ≤ n ∧ i = .int .i64 k ∧ wr.ownsRow W.heap.size 3 1 out k (ints (upTo k)) ∧ Below W.heap.size W wr ∧ (its.take k).all okI = true) (fun _ i _ => n - (intOf i).toNat)
   case atStart => exact ⟨0, by omega, rfl, World.ownsRow_nil W _ _ 1, Below.refl _ _, rfl⟩
   case round =>
    obtain ⟨k, hk, rfl, hown, hbr, hall⟩ := hrel
    have HB := hyd hbr; have HO := hyd hown; have HA := hyd hall
    have hzr := hbr.size
    have HR2 := hyd (HR.out.below (hbr.mono (by omega)))
    clear hbr hown hall
    by_cases hlt : k < n
    · have hlt' : k < its.length := by have := HN.out; omega
      obtain ⟨b, off, rfl, hb, x0, x1, x2, x3⟩ := HR2.out.it hlt'
      have i1 : (0 : Int) ≤ (k : Int) := by omega
      have i2 : (k : Int) < (n : Int) := by omega
      by_cases hx : okI its[k] = true
      · obtain ⟨b1, b2, b3, b4, b5, b6, b7, b8⟩ := okI_yes hx
        have HA2 : Hid ((its.take (k + 1)).all okI = true) := by show _ = _; rw [all_snoc _ _ _ hlt', HA.out, hx]; rfl
        clear hx
        generalize its[k] = x at *
        go_wp2_with fail
        refine (within_yes x.due 0 3652058 _ ⟨b1, b2⟩).mono ?_; rintro e w' ⟨rfl, rfl⟩
        go_wp2_with fail
        refine (within_yes x.kind 0 2 _ ⟨b3, b4⟩).mono ?_; rintro e w' ⟨rfl, rfl⟩
        go_wp2_with fail
        refine (within_yes x.per 1 99999 _ ⟨b5, b6⟩).mono ?_; rintro e w' ⟨rfl, rfl⟩
        go_wp2_with fail
        refine (within64_yes x.opn 0 4611686018427387904 _ ⟨b7, b8⟩).mono ?_; rintro e w' ⟨rfl, rfl⟩
        go_wp2_with (at_builtin; go_loud (refine wpList_app rfl (.tmp 40) (.tmp 42) _ rfl W.heap.size 3 i0 _ 1 8 Tryz.underlying76 hi hz0 hz1 hz2 rfl (by omega) _ _ _ rfl ((HO.out.alloc _).alloc _) _ _ 1 1 [.int .i64 k] rfl (Rd.new (cs := #[.int .i64 k]) (by simp) rfl) (by simp [Value.oneCell']) (by unfold maxLen; omega) (by omega) (by simp; omega) ?_); intro v2 w2 hown2 hg2 hat2)
        refine ⟨⟨k + 1, by omega, by go_num, by rw [upTo_succ]; exact hown2, ?_, HA2.out⟩, by simp [intOf]; omega⟩
        exact ((HB.out.alloc hzr _).alloc (by simp; omega) _).grown hg2 (by simp; omega) (fun k hk => (HO.out.lt k hk).1)
      · have HE := hyd (placesE_bad hlt' hx)
        rcases okI_no hx with h1 | ⟨h1, h2⟩ | ⟨h1, h2, h3⟩ | ⟨h1, h2, h3, h4⟩
        · clear hx
          generalize its[k] = x at *
          have H1 := hyd h1; clear h1
          go_wp2_with fail
          refine (within_no x.due 0 3652058 _ H1.out).mono ?_; rintro e w' ⟨rfl, rfl⟩
          go_wp2_with fail
          go_ret2
          exact PlacesOf.no1 HE.out (HB0.out.trans ((HB.out.alloc hzr _).mono (by omega)))
        · clear hx
          generalize its[k] = x at *
          have H1 := hyd h1; have H2 := hyd h2; clear h1 h2
          go_wp2_with fail
          refine (within_yes x.due 0 3652058 _ H1.out).mono ?_; rintro e w' ⟨rfl, rfl⟩
          go_wp2_with fail
          refine (within_no x.kind 0 2 _ H2.out).mono ?_; rintro e w' ⟨rfl, rfl⟩
          go_wp2_with fail
          go_ret2
          exact PlacesOf.no1 HE.out (HB0.out.trans ((HB.out.alloc hzr _).mono (by omega)))
        · clear hx
          generalize its[k] = x at *
          have H1 := hyd h1; have H2 := hyd h2; have H3 := hyd h3; clear h1 h2 h3
          go_wp2_with fail
          refine (within_yes x.due 0 3652058 _ H1.out).mono ?_; rintro e w' ⟨rfl, rfl⟩
          go_wp2_with fail
          refine (within_yes x.kind 0 2 _ H2.out).mono ?_; rintro e w' ⟨rfl, rfl⟩
          go_wp2_with fail
          refine (within_no x.per 1 99999 _ H3.out).mono ?_; rintro e w' ⟨rfl, rfl⟩
          go_wp2_with fail
          go_ret2
          exact PlacesOf.no1 HE.out (HB0.out.trans ((HB.out.alloc hzr _).mono (by omega)))
        · clear hx
          generalize its[k] = x at *
          have H1 := hyd h1; have H2 := hyd h2; have H3 := hyd h3; have H4 := hyd h4; clear h1 h2 h3 h4
          go_wp2_with fail
          refine (within_yes x.due 0 3652058 _ H1.out).mono ?_; rintro e w' ⟨rfl, rfl⟩
          go_wp2_with fail
          refine (within_yes x.kind 0 2 _ H2.out).mono ?_; rintro e w' ⟨rfl, rfl⟩
          go_wp2_with fail
          refine (within_yes x.per 1 99999 _ H3.out).mono ?_; rintro e w' ⟨rfl, rfl⟩
          go_wp2_with fail
          refine (within64_no x.opn 0 4611686018427387904 _ H4.out).mono ?_; rintro e w' ⟨rfl, rfl⟩
          go_wp2_with fail
          go_ret2
          exact PlacesOf.no1 HE.out (HB0.out.trans ((HB.out.alloc hzr _).mono (by omega)))
    · have hkn : k = n := by omega
      subst hkn
      have hown := HO.out
      have hall : its.all okI = true := by have := HA.out; rwa [List.take_of_length_le (by have := HN.out; omega)] at this
      have HOK := hyd hall
      clear hlt hk hall
      rcases Nat.eq_zero_or_pos k with h0 | h0
      · have HE : Hid (its = []) := hyd (List.eq_nil_of_length_eq_zero (by have := HN.out; omega))
        obtain ⟨A2, c2, rfl, _⟩ := own_form hown
        subst h0
        clear hown
        go_wp2_with fail
        refine (sort_none A2 c2 _ _).mono ?_; rintro e w1 ⟨rfl, rfl⟩
        go_wp2_with fail
        refine wp_loop_rounds 1 ?_
        rw [rounds_succ]
        go_wp2_with fail
        go_ret2
        have he := HE.out
        subst he
        exact ⟨HB0.out.trans (HB.out.mono (by omega)), .inr ⟨by decide, A2, c2, [], rfl, Rd.nil, List.Perm.refl _, List.Pairwise.nil, fun b off e => by subst e; have := (HO.out.lt b rfl).1; omega⟩⟩
      · obtain ⟨g, cap, rfl, hg1, hg2⟩ := hown.form h0
        have hboxr : wr.heap[w.heap.size]? = some (.cells #[.slice A k c] 41 (0, 0)) := blk_below HBOX.out HB.out hzz
        have hsort := sort_some its HOK.out A c w.heap.size g cap w.heap.size W.heap.size wr (by have := HN.out; omega) (by have := HN.out; omega) (by rw [HN.out]; exact blk_cell hboxr 0) (by rw [HN.out]; exact (HR.out.below (HB.out.mono (by omega)))) (by omega) (by omega) (by rw [HN.out]; exact hown)
        rw [HN.out] at hsort
        have HS := hyd hsort
        clear hsort hboxr hown
        go_wp2_with fail
        refine HS.out.mono ?_
        rintro e w1 ⟨rfl, d, hpl, hso, hrd, hbg, hsz, hoth⟩
        have HB1 := hyd (HB.out.trans (hbg.mono hg1))
        have HR1 := hyd (HR.out.below (HB1.out.mono (by omega)))
        have HBX : Hid (w1.heap[w.heap.size]? = some (.cells #[.slice A k c] 41 (0, 0))) := hyd (blk_below HBOX.out HB1.out hzz)
        have HRD := hyd hrd; have HPL := hyd hpl; have HSO := hyd hso
        have hz1' : w.heap.size < w1.heap.size := by omega
        have hdl : d.length = k := by rw [hpl.len, HN.out]
        have HDL := hyd hdl
        clear hrd hbg hoth HR2 HS hpl hso hdl
        rw [HN.out] at HRD
        go_wp2_with fail
        go_loopg [7] k (fun gh vi wx => ∃ j : Nat, gh = k - j ∧ vi = .int .i64 ((j : Int) + 1) ∧ (j = 0 ∨ j < k) ∧ (∀ t (h : t + 1 < (inOrd its d).length), t < j → keyI ((inOrd its d)[t]) ≠ keyI ((inOrd its d)[t + 1])) ∧ Below w1.heap.size w1 wx)
        case atStart => exact ⟨0, by omega, rfl, .inl rfl, fun t h ht => by omega, Below.refl _ _⟩
        case round =>
         obtain ⟨j, hgk, rfl, hj, hne, hbx⟩ := hrel
         have HG := hyd hgk; have HNE := hyd hne; have HX := hyd hbx
         clear hgk hne hbx
         by_cases hlt : j + 1 < k
         · have hj1 : j < d.length := by have := HDL.out; omega
           have hj2 : j + 1 < d.length := by have := HDL.out; omega
           obtain ⟨p, ep, hp⟩ := HPL.out.at hj1
           obtain ⟨q, eq, hq⟩ := HPL.out.at hj2
           have cd1 := (HRD.out.below HX.out).num2 hj1
           have cd2 := (HRD.out.below HX.out).num2 hj2
           rw [ep] at cd1; rw [eq] at cd2
           obtain ⟨b, off, hA, hb, x0, x1, x2, x3⟩ := (HR1.out.below (HX.out.mono (by omega))).it hp
           subst hA
           obtain ⟨y0, y1, y2, y3⟩ := (HR1.out.below (HX.out.mono (by omega))).it2 hq
           have cb : wr.cell? ⟨w.heap.size, 0, none⟩ = some (.slice (some ⟨b, off, none⟩) k c) := blk_cell (blk_below HBX.out HX.out (by omega)) 0
           have I1 : Hid ((inOrd its d)[j]'(by rw [inOrd_len]; exact hj1) = its[p]) := hyd (inOrd_at hj1 ep hp)
           have I2 : Hid ((inOrd its d)[j + 1]'(by rw [inOrd_len]; exact hj2) = its[q]) := hyd (inOrd_at hj2 eq hq)
           have HZ := hyd (ordI_zero_key (List.all_eq_true.1 HOK.out its[p] (List.getElem_mem _)) (List.all_eq_true.1 HOK.out its[q] (List.getElem_mem _)))
           have hpk : p < k := by have := HN.out; omega
           have hqk : q < k := by have := HN.out; omega
           rw [Nat.zero_add] at cd1 cd2
           clear ep eq
           generalize its[p] = x at *
           generalize its[q] = y at *
           obtain ⟨o, ho⟩ : ∃ o, ordI x y = o := ⟨_, rfl⟩
           rw [ho] at HZ
           have HO2 := hyd ho; clear ho
           have hsub : IntKind.i64.wrap ((j : Int) + 1 - 1) = (j : Int) := by rw [IntWalk.i64_in _ (by omega)]; omega
           have hsub2 : IntKind.i64.wrap (j : Int) = (j : Int) := IntWalk.i64_in _ (by omega)
           have hnat : ((j : Int) + 1).toNat = j + 1 := by omega
           have i1 : (0 : Int) ≤ (j : Int) := by omega
           have i2 : (j : Int) < (k : Int) := by omega
           have i3 : (0 : Int) ≤ (j : Int) + 1 := by omega
           have i4 : (j : Int) + 1 < (k : Int) := by omega
           have i5 : (0 : Int) ≤ (p : Int) := by omega
           have i6 : (p : Int) < (k : Int) := by omega
           have i7 : (0 : Int) ≤ (q : Int) := by omega
           have i8 : (q : Int) < (k : Int) := by omega
           have g1 : w.heap.size < wr.heap.size := World.block_lt_of_cell? _ _ cb
           have g2 : g < wr.heap.size := World.block_lt_of_cell? _ _ cd1
           have g3 : b < wr.heap.size := World.block_lt_of_cell? _ _ x0
           go_wp2_with fail
           go_region_held3 (fun w' => w'.cell? ⟨w.heap.size, 0, none⟩ = some (.slice (some ⟨b, off, none⟩) k c) ∧ w'.cell? ⟨g, j, none⟩ = some (.int .i64 (p : Int)) ∧ w'.cell? ⟨g, j + 1, none⟩ = some (.int .i64 (q : Int)) ∧
             w'.cell? ⟨b, off + p * 4, none⟩ = some (.int .i64 x.due) ∧ w'.cell? ⟨b, off + p * 4 + 1, none⟩ = some (.int .i64 x.kind) ∧ w'.cell? ⟨b, off + p * 4 + 2, none⟩ = some (.int .i64 x.per) ∧ w'.cell? ⟨b, off + p * 4 + 3, none⟩ = some (.int .i64 x.opn) ∧
             w'.cell? ⟨b, off + q * 4, none⟩ = some (.int .i64 y.due) ∧ w'.cell? ⟨b, off + q * 4 + 1, none⟩ = some (.int .i64 y.kind) ∧ w'.cell? ⟨b, off + q * 4 + 2, none⟩ = some (.int .i64 y.per) ∧ w'.cell? ⟨b, off + q * 4 + 3, none⟩ = some (.int .i64 y.opn))
            ((first | (with_reducible exact ⟨cb, cd1, cd2, x0, x1, x2, x3, y0, y1, y2, y3⟩) | exact ⟨cb, cd1, cd2, x0, x1, x2, x3, y0, y1, y2, y3⟩ | exact ⟨(hcB _ g1).trans cb, (hcB _ g2).trans cd1, (hcB _ g2).trans cd2, (hcB _ g3).trans x0, (hcB _ g3).trans x1, (hcB _ g3).trans x2, (hcB _ g3).trans x3, (hcB _ g3).trans y0, (hcB _ g3).trans y1, (hcB _ g3).trans y2, (hcB _ g3).trans y3⟩))
            ((go_at_call 103; refine (order_any x y wr.drew).mono ?_; rintro e w2 ⟨rfl, hw2⟩; have hcB := fun (a : Addr) (hp : a.block < wr.heap.size) => hw2.below.cell hp; have HW2 := hyd hw2.below; clear hw2; rw [HO2.out]))
           have HBW : Hid (Below w1.heap.size w1 w2) := HX.out.trans (((Below.refl _ _).drew.trans HW2.out).mono HX.out.size)
           clear hsub hsub2 hnat hcB cb cd1 cd2 x0 x1 x2 x3 y0 y1 y2 y3
           by_cases hz : o = 0
           · have hzb : (o == 0) = true := by simpa using hz
             have HE : Hid (placesE its = 5) := by
              refine placesE_two (by have := HN.out; omega) HOK.out (not_nodup HPL.out (k := j) (by rw [inOrd_len]; exact hj2) ?_)
              rw [I1.out, I2.out]; exact HZ.out.1 hz
             clear hz
             go_wp2_with fail
             go_ret2
             exact PlacesOf.no5 HE.out (HB0.out.trans ((HB1.out.trans (HBW.out.mono (by have := HB1.out.size; omega))).mono (by omega)))
           · have hzb : (o == 0) = false := by simpa using hz
             have HK : Hid (keyI x ≠ keyI y) := fun h => hz (HZ.out.2 h)
             clear hz
             go_wp2_with fail
             go_roundg (k - (j + 1))
             case measure => have := HG.out; omega
             case rel => exact ⟨j + 1, rfl, by go_num, .inr (by omega), fun t h ht => by
              by_cases e : t = j
              · subst e; rw [I1.out, I2.out]; exact HK.out
              · exact HNE.out t h (by omega), HBW.out⟩
         · have hrise : Rise its d := rise_of (HSO.out.imp (fun h => by omega)) (fun t h => HNE.out t h (by rw [inOrd_len] at h; have := HDL.out; omega))
           have HRI := hyd hrise; clear hrise
           go_wp2_with fail
           go_ret2
           refine ⟨HB0.out.trans ((HB1.out.trans (HX.out.mono (by have := HB1.out.size; omega))).mono (by omega)), .inr ⟨placesE_yes (by have := HN.out; omega) HOK.out (rise_nodup HPL.out HRI.out), some ⟨g, 0, none⟩, cap, d, by rw [HN.out]; rfl, ?_, HPL.out, HRI.out, fun b' off' e => by injection e with e; injection e with e _ _; omega⟩⟩
           rw [HN.out]; exact (HRD.out.below HX.out).wider HX.out.size
 · have HE := hyd (placesE_long (its := its) (by omega))
   rw [hn]
   rw [hn] at hm
   go_enter Tryz.func44, Tryz.ntmps44
   go_wp2_with fail
   go_ret2
   exact PlacesOf.no1 HE.out bly
def isD (n : Int) : Bool := decide (0 ≤ n ∧ n ≤ 3652058)
theorem isDay17_any (n : Int) (w : World) : Calls Tryz.prog 65 #[.int .i64 n] w fun e w' => e = .returned (.bool (isD n)) ∧ w = w' := by
 by_cases h1 : 0 ≤ n
 · by_cases h2 : n ≤ 3652058
   · have H : Hid (isD n = true) := hyd (by simp [isD]; omega)
     go_enter Tryz.func65, Tryz.ntmps65
     go_wp2_with fail
     go_ret
     exact ⟨by rw [H.out]; rfl, rfl⟩
   · have H : Hid (isD n = false) := hyd (by simp [isD]; omega)
     have h3 : 3652058 < n := by omega
     clear h2
     go_enter Tryz.func65, Tryz.ntmps65
     go_wp2_with fail
     go_ret
     exact ⟨by rw [H.out]; first | rfl | (simp; omega), rfl⟩
 · have H : Hid (isD n = false) := hyd (by simp [isD]; omega)
   have h3 : n < 0 := by omega
   clear h1
   go_enter Tryz.func65, Tryz.ntmps65
   go_wp2_with fail
   go_ret
   exact ⟨by rw [H.out]; first | rfl | (simp; omega), rfl⟩
theorem ahead_any (a b : Dq) (w : World) : Calls Tryz.prog 21 #[itV a, itV b] w fun e w' => e = .returned (.bool (aheadI a b)) ∧ Below w.heap.size w w' := by
 by_cases h1 : a.due = b.due
 · by_cases h2 : a.kind = b.kind
   · have H : Hid (aheadI a b = decide (a.per < b.per)) := hyd (by unfold aheadI; rw [if_neg (by omega), if_neg (by omega)])
     have g1 : (a.due != b.due) = false := by simp [h1]
     have g2 : (a.kind != b.kind) = false := by simp [h2]
     clear h1 h2
     go_enter Tryz.func21, Tryz.ntmps21
     go_wp2_with fail
     go_ret
     exact ⟨ret_bool (by rw [H.out]), bly⟩
   · have H : Hid (aheadI a b = decide (a.kind < b.kind)) := hyd (by unfold aheadI; rw [if_neg (by omega), if_pos (by omega)])
     have g1 : (a.due != b.due) = false := by simp [h1]
     have g2 : (a.kind != b.kind) = true := by simp [h2]
     clear h1 h2
     go_enter Tryz.func21, Tryz.ntmps21
     go_wp2_with fail
     go_ret
     exact ⟨ret_bool (by rw [H.out]), bly⟩
 · have H : Hid (aheadI a b = decide (a.due < b.due)) := hyd (by unfold aheadI; rw [if_pos (by omega)])
   have g1 : (a.due != b.due) = true := by simp [h1]
   clear h1
   go_enter Tryz.func21, Tryz.ntmps21
   go_wp2_with fail
   go_ret
   exact ⟨ret_bool (by rw [H.out]), bly⟩
theorem okI_bits {x : Dq} (h : okI x = true) : isD x.due = true ∧ 0 ≤ x.kind ∧ x.kind ≤ 2 ∧ 1 ≤ x.per ∧ x.per ≤ 99999 ∧ 0 ≤ x.opn ∧ x.opn ≤ 4611686018427387904 := by
 have := okI_yes h
 exact ⟨by simp [isD]; omega, by omega, by omega, by omega, by omega, by omega, by omega⟩
theorem okI_no7 {x : Dq} (h : ¬ okI x = true) : isD x.due = false ∨ (isD x.due = true ∧ (x.kind < 0 ∨ (0 ≤ x.kind ∧ (2 < x.kind ∨ (x.kind ≤ 2 ∧ (x.per < 1 ∨ (1 ≤ x.per ∧ (99999 < x.per ∨ (x.per ≤ 99999 ∧ (x.opn < 0 ∨ (0 ≤ x.opn ∧ 4611686018427387904 < x.opn)))))))))))  := by
 have : ¬ (0 ≤ x.due ∧ x.due ≤ 3652058 ∧ 0 ≤ x.kind ∧ x.kind ≤ 2 ∧ 1 ≤ x.per ∧ x.per ≤ 99999 ∧ 0 ≤ x.opn ∧ x.opn ≤ 4611686018427387904) := by simpa [okI] using h
 cases hd : isD x.due
 · exact .inl rfl
 · refine .inr ⟨rfl, ?_⟩
   have h1 : 0 ≤ x.due ∧ x.due ≤ 3652058 := by simpa [isD] using hd
   omega
theorem rightItem_any (x : Dq) (w : World) : Calls Tryz.prog 194 #[itV x] w fun e w' => e = .returned (.bool (okI x)) ∧ Below w.heap.size w w' := by
 have h0 := fun w => isDay17_any x.due w
 have HD := hyd h0; clear h0
 by_cases h : okI x = true
 · obtain ⟨b1, b2, b3, b4, b5, b6, b7⟩ := okI_bits h
   have H := hyd h; clear h
   rw [b1] at HD
   clear b1
   go_enter Tryz.func194, Tryz.ntmps194
   go_wp2_with fail
   refine (HD.out _).mono ?_; rintro e w1 ⟨rfl, rfl⟩
   go_wp2_with fail
   go_ret
   exact ⟨ret_bool (by rw [H.out]; try simp), bly⟩
 · have H : Hid (okI x = false) := hyd (Bool.eq_false_iff.2 h)
   rcases okI_no7 h with b1 | ⟨b1, b2 | ⟨b2, b3 | ⟨b3, b4 | ⟨b4, b5 | ⟨b5, b6 | ⟨b6, b7⟩⟩⟩⟩⟩⟩
   all_goals
    rw [b1] at HD
    clear b1 h
    go_enter Tryz.func194, Tryz.ntmps194
    go_wp2_with fail
    refine (HD.out _).mono ?_; rintro e w1 ⟨rfl, rfl⟩
    go_wp2_with fail
    go_ret
    exact ⟨ret_bool (by first | (rw [H.out]; done) | (rw [H.out]; rfl) | (rw [H.out]; simp; done) | (rw [H.out]; simp; omega)), bly⟩
theorem right17_any (A : Option Addr) (its : List Dq) (c : Nat) (w : World) (hr : ItR w A its) (hm : its.length ≤ maxLen) :
  Calls Tryz.prog 165 #[.slice A its.length c] w fun e w' => e = .returned (.int .i64 (placesE its)) ∧ Below w.heap.size w w' := by
 unfold maxLen at hm
 obtain ⟨n, hn⟩ : ∃ n, its.length = n := ⟨_, rfl⟩
 unfold ItR at hr
 have HR := hyd hr; clear hr
 rw [hn] at HR hm ⊢
 have HN := hyd hn
 by_cases h200 : n ≤ 200
 · clear hn
   go_enter Tryz.func165, Tryz.ntmps165
   go_wp2_with fail
   go_loopg [3] n (fun gh vi wr => ∃ k : Nat, gh = n - k ∧ k ≤ n ∧ vi = .int .i64 k ∧ (its.take k).all okI = true ∧ Below w.heap.size w wr)
   case atStart => exact ⟨0, rfl, by omega, rfl, rfl, Below.refl _ _⟩
   case round =>
    obtain ⟨k, hgk, hk, rfl, hall, hb⟩ := hrel
    have HG := hyd hgk; have HA := hyd hall; have HB := hyd hb
    clear hgk hall hb
    by_cases hlt : k < n
    · have hlt' : k < its.length := by have := HN.out; omega
      obtain ⟨b, off, rfl, hb, x0, x1, x2, x3⟩ := (HR.out.below HB.out).it hlt'
      have i1 : (0 : Int) ≤ (k : Int) := by omega
      have i2 : (k : Int) < (n : Int) := by omega
      by_cases hx : okI its[k] = true
      · have HA2 : Hid ((its.take (k + 1)).all okI = true) := by show _ = _; rw [all_snoc _ _ _ hlt', HA.out, hx]; rfl
        have HX := hyd hx; clear hx
        generalize its[k] = x at *
        go_wp2_with fail
        refine (rightItem_any x _).mono ?_; rintro e w1 ⟨rfl, hw1⟩
        rw [HX.out]
        have HB2 := hyd (HB.out.trans (hw1.mono HB.out.size)); clear hw1 x0 x1 x2 x3
        go_wp2_with fail
        go_roundg (n - (k + 1))
        case measure => have := HG.out; omega
        case rel => exact ⟨k + 1, rfl, by omega, by go_num, HA2.out, HB2.out⟩
      · have HE := hyd (placesE_bad hlt' hx)
        have HX : Hid (okI its[k] = false) := hyd (Bool.eq_false_iff.2 hx); clear hx
        generalize its[k] = x at *
        go_wp2_with fail
        refine (rightItem_any x _).mono ?_; rintro e w1 ⟨rfl, hw1⟩
        rw [HX.out]
        have HB2 := hyd (HB.out.trans (hw1.mono HB.out.size)); clear hw1 x0 x1 x2 x3
        go_wp2_with fail
        go_ret
        exact ⟨by rw [HE.out]; rfl, HB2.out⟩
    · have hkn : k = n := by omega
      subst hkn
      have hall : its.all okI = true := by have := HA.out; rwa [List.take_of_length_le (by have := HN.out; omega)] at this
      have HOK := hyd hall
      clear hlt hk hall HG
      go_wp2_with fail
      go_loopg [5] k (fun gh vi wx => ∃ i : Nat, gh = k - i ∧ i ≤ k ∧ vi = .int .i64 i ∧ (∀ p q (hp : p < its.length) (hq : q < p), p < i → keyI its[p] ≠ keyI its[q]) ∧ Below w.heap.size w wx)
      case atStart => exact ⟨0, rfl, by omega, rfl, fun p q hp hq h => by omega, HB.out⟩
      case round =>
       obtain ⟨i, hgk, hk, rfl, hne, hb⟩ := hrel
       have HG := hyd hgk; have HNE := hyd hne; have HBI := hyd hb
       clear hgk hne hb
       by_cases hlt : i < k
       · have hlt' : i < its.length := by have := HN.out; omega
         go_wp2_with fail
         go_loopg [6] i (fun gh vi wx => ∃ j : Nat, gh = i - j ∧ j ≤ i ∧ vi = .int .i64 j ∧ (∀ q (hq : q < its.length), q < j → keyI its[i] ≠ keyI its[q]) ∧ Below w.heap.size w wx)
         case atStart => exact ⟨0, rfl, by omega, rfl, fun q hq h => by omega, HBI.out⟩
         case round =>
          obtain ⟨j, hgj, hj, rfl, hnj, hb⟩ := hrel
          have HGJ := hyd hgj; have HNJ := hyd hnj; have HBJ := hyd hb
          clear hgj hnj hb
          by_cases hlj : j < i
          · have hlj' : j < its.length := by omega
            obtain ⟨b, off, rfl, hb, x0, x1, x2, x3⟩ := (HR.out.below HBJ.out).it hlt'
            obtain ⟨y0, y1, y2, y3⟩ := (HR.out.below HBJ.out).it2 hlj'
            have HK1 := hyd (aheadI_key (List.all_eq_true.1 HOK.out its[i] (List.getElem_mem _)) (List.all_eq_true.1 HOK.out its[j] (List.getElem_mem _)))
            have HK2 := hyd (aheadI_key (List.all_eq_true.1 HOK.out its[j] (List.getElem_mem _)) (List.all_eq_true.1 HOK.out its[i] (List.getElem_mem _)))
            have HDUP : Hid (keyI its[i] = keyI its[j] → placesE its = 5) := hyd (fun e => placesE_two (by have := HN.out; omega) HOK.out (two_nodup hlt' hlj' (by omega) e))
            have i1 : (0 : Int) ≤ (i : Int) := by omega
            have i2 : (i : Int) < (k : Int) := by omega
            have i3 : (0 : Int) ≤ (j : Int) := by omega
            have i4 : (j : Int) < (k : Int) := by omega
            have HKE : Hid (keyI its[i] ≠ keyI its[j] → ∀ q (hq : q < its.length), q < j + 1 → keyI its[i] ≠ keyI its[q]) := hyd (fun e q hq h => by
             by_cases h2 : q = j
             · subst h2; exact e
             · exact HNJ.out q hq (by omega))
            generalize its[i] = x at *
            generalize its[j] = y at *
            obtain ⟨t1, ht1⟩ : ∃ t, aheadI x y = t := ⟨_, rfl⟩
            obtain ⟨t2, ht2⟩ : ∃ t, aheadI y x = t := ⟨_, rfl⟩
            have HT1 := hyd ht1; have HT2 := hyd ht2
            rw [ht1] at HK1; rw [ht2] at HK2
            clear ht1 ht2
            have g3 : b < wr.heap.size := World.block_lt_of_cell? _ _ x0
            go_wp2_with fail
            go_region_held3 (fun w' => w'.cell? ⟨b, off + i * 4, none⟩ = some (.int .i64 x.due) ∧ w'.cell? ⟨b, off + i * 4 + 1, none⟩ = some (.int .i64 x.kind) ∧ w'.cell? ⟨b, off + i * 4 + 2, none⟩ = some (.int .i64 x.per) ∧ w'.cell? ⟨b, off + i * 4 + 3, none⟩ = some (.int .i64 x.opn) ∧
              w'.cell? ⟨b, off + j * 4, none⟩ = some (.int .i64 y.due) ∧ w'.cell? ⟨b, off + j * 4 + 1, none⟩ = some (.int .i64 y.kind) ∧ w'.cell? ⟨b, off + j * 4 + 2, none⟩ = some (.int .i64 y.per) ∧ w'.cell? ⟨b, off + j * 4 + 3, none⟩ = some (.int .i64 y.opn))
             ((first | (with_reducible exact ⟨x0, x1, x2, x3, y0, y1, y2, y3⟩) | exact ⟨x0, x1, x2, x3, y0, y1, y2, y3⟩ | exact ⟨(hcB _ g3).trans x0, (hcB _ g3).trans x1, (hcB _ g3).trans x2, (hcB _ g3).trans x3, (hcB _ g3).trans y0, (hcB _ g3).trans y1, (hcB _ g3).trans y2, (hcB _ g3).trans y3⟩))
             ((go_at_call 21; refine (ahead_any x y wr.drew).mono ?_; rintro e w2 ⟨rfl, hw2⟩; have hcB := fun (a : Addr) (hp : a.block < wr.heap.size) => hw2.cell hp; have HW2 := hyd hw2; clear hw2; rw [HT1.out]))
            have hb2 : Below w.heap.size w w2 := HBJ.out.trans (((Below.refl _ _).drew.trans HW2.out).mono HBJ.out.size)
            have HB2 := hyd hb2
            replace x0 := (hcB _ g3).trans x0; replace x1 := (hcB _ g3).trans x1; replace x2 := (hcB _ g3).trans x2; replace x3 := (hcB _ g3).trans x3
            replace y0 := (hcB _ g3).trans y0; replace y1 := (hcB _ g3).trans y1; replace y2 := (hcB _ g3).trans y2; replace y3 := (hcB _ g3).trans y3
            have g4 : b < w2.heap.size := by have h := HW2.out.size; have h' : wr.heap.size ≤ w2.heap.size := h; omega
            clear hcB hb2
            go_wp2_with fail
            go_region_held3 (fun w' => w'.cell? ⟨b, off + i * 4, none⟩ = some (.int .i64 x.due) ∧ w'.cell? ⟨b, off + i * 4 + 1, none⟩ = some (.int .i64 x.kind) ∧ w'.cell? ⟨b, off + i * 4 + 2, none⟩ = some (.int .i64 x.per) ∧ w'.cell? ⟨b, off + i * 4 + 3, none⟩ = some (.int .i64 x.opn) ∧
              w'.cell? ⟨b, off + j * 4, none⟩ = some (.int .i64 y.due) ∧ w'.cell? ⟨b, off + j * 4 + 1, none⟩ = some (.int .i64 y.kind) ∧ w'.cell? ⟨b, off + j * 4 + 2, none⟩ = some (.int .i64 y.per) ∧ w'.cell? ⟨b, off + j * 4 + 3, none⟩ = some (.int .i64 y.opn))
             ((first | (with_reducible exact ⟨x0, x1, x2, x3, y0, y1, y2, y3⟩) | exact ⟨x0, x1, x2, x3, y0, y1, y2, y3⟩ | exact ⟨(hcB _ g4).trans x0, (hcB _ g4).trans x1, (hcB _ g4).trans x2, (hcB _ g4).trans x3, (hcB _ g4).trans y0, (hcB _ g4).trans y1, (hcB _ g4).trans y2, (hcB _ g4).trans y3⟩))
             ((go_at_call 21; refine (ahead_any y x w2.drew).mono ?_; rintro e w3 ⟨rfl, hw3⟩; have hcB := fun (a : Addr) (hp : a.block < w2.heap.size) => hw3.cell hp; have HW3 := hyd hw3; clear hw3; rw [HT2.out]))
            have HB3 : Hid (Below w.heap.size w w3) := hyd (HB2.out.trans (((Below.refl _ _).drew.trans HW3.out).mono HB2.out.size))
            clear hcB x0 x1 x2 x3 y0 y1 y2 y3
            cases t1 with
            | true =>
              have HNE2 := hyd (HKE.out (by have := of_decide_eq_true HK1.out.symm; omega))
              go_wp2_with fail
              go_roundg (i - (j + 1))
              case measure => have := HGJ.out; omega
              case rel => exact ⟨j + 1, rfl, by omega, by go_num, HNE2.out, HB3.out⟩
            | false =>
              cases t2 with
              | true =>
                have HNE2 := hyd (HKE.out (by have := of_decide_eq_true HK2.out.symm; omega))
                go_wp2_with fail
                go_roundg (i - (j + 1))
                case measure => have := HGJ.out; omega
                case rel => exact ⟨j + 1, rfl, by omega, by go_num, HNE2.out, HB3.out⟩
              | false =>
                have HE := hyd (HDUP.out (by have := of_decide_eq_false HK2.out.symm; have := of_decide_eq_false HK1.out.symm; omega))
                go_wp2_with fail
                go_ret
                exact ⟨by rw [HE.out]; rfl, HB3.out⟩
          · have hji : j = i := by omega
            subst hji
            have HNE2 : Hid (∀ p q (hp : p < its.length) (hq : q < p), p < j + 1 → keyI its[p] ≠ keyI its[q]) := hyd (fun p q hp hq h => by
             by_cases h2 : p = j
             · subst h2; exact HNJ.out q (by omega) hq
             · exact HNE.out p q hp hq (by omega))
            go_wp2_with fail
            go_roundg (k - (j + 1))
            case measure => have := HG.out; omega
            case rel => exact ⟨j + 1, rfl, by omega, by go_num, HNE2.out, HBJ.out⟩
       · have hik : i = k := by omega
         subst hik
         have HE : Hid (placesE its = 0) := hyd (placesE_yes (by have := HN.out; omega) HOK.out (nodup_of (fun p q hp hq => HNE.out p q hp hq (by have := HN.out; omega))))
         go_wp2_with fail
         go_ret
         exact ⟨by rw [HE.out]; rfl, HBI.out⟩
 · have HE := hyd (placesE_long (its := its) (by omega))
   clear hn
   go_enter Tryz.func165, Tryz.ntmps165
   go_wp2_with fail
   go_ret
   exact ⟨by rw [HE.out]; rfl, Below.refl _ _⟩
end Go.Proofs.YtbjjgnaojoaoiaaGreat
