/- The reference's Order. -/
import Derived.Test.YtcojckgmmklffaaAW8
namespace Go.Proofs.Ytcojckgmmklffaa
open Go.RowKit Go
set_option linter.unusedVariables false
set_option linter.unusedSimpArgs false

theorem own_below {w w' : World} {base : Nat} {e : TypeId} {size n : Nat} {v : Value} {xs : List Value} (h : w.ownsRow base e size v n xs) (hb : Below w.heap.size w w') : w'.ownsRow base e size v n xs := by
  refine ⟨h.1, ?_⟩
  rcases h.2 with hn | ⟨g, cap, cur, e1, e2, e3, e4⟩
  · exact .inl hn
  · exact .inr ⟨g, cap, cur, e1, e2, blk_below e3 hb (blk_lt e3), e4⟩
def zeroI : Dq := ⟨0, 0, 0, 0⟩
/-- The places that the first i items have taken. -/
def filled (its : List Dq) (d : List Int) (i : Nat) : List Dq := d.map fun j => if j < (i : Int) then its.getD j.toNat zeroI else zeroI
theorem filled_len (its : List Dq) (d : List Int) (i : Nat) : (filled its d i).length = d.length := by simp [filled]
theorem filled_zero {its : List Dq} {d : List Int} (h : Pl its.length d) : filled its d 0 = List.replicate its.length zeroI := by
  apply List.ext_getElem (by simp [filled, h.len])
  intro t h1 h2
  obtain ⟨j, ej, hj⟩ := h.at (k := t) (by rw [filled_len] at h1; exact h1)
  simp only [filled, List.getElem_map, List.getElem_replicate, ej]
  rw [if_neg (by omega)]
theorem filled_all {its : List Dq} {d : List Int} (h : Pl its.length d) : filled its d its.length = inOrd its d := by
  unfold filled inOrd
  apply List.map_congr_left
  intro j hj
  obtain ⟨t, ht, rfl⟩ := List.mem_iff_getElem.1 hj
  obtain ⟨p, ep, hp⟩ := h.at ht
  rw [if_pos (by rw [ep]; omega)]; rfl
theorem filled_step {its : List Dq} {d : List Int} (h : Pl its.length d) {i t : Nat} (ht : t < d.length) (e : d[t] = (i : Int)) (hi : i < its.length) : filled its d (i + 1) = (filled its d i).set t its[i] := by
  apply List.ext_getElem (by simp [filled])
  intro s h1 h2
  rw [List.getElem_set]
  have hs : s < d.length := by rw [filled_len] at h1; exact h1
  simp only [filled, List.getElem_map]
  by_cases e2 : t = s
  · subst e2
    rw [if_pos rfl, if_pos (by rw [e]; omega), e]; simp [hi]
  · rw [if_neg e2]
    have hne : d[s] ≠ (i : Int) := by
      intro e3
      rcases Nat.lt_or_gt_of_ne e2 with h3 | h3
      · exact List.pairwise_iff_getElem.1 h.nodup t s ht hs h3 (by rw [e, e3])
      · exact List.pairwise_iff_getElem.1 h.nodup s t hs ht h3 (by rw [e, e3])
    by_cases h4 : d[s] < (i : Int)
    · rw [if_pos (by omega), if_pos h4]
    · rw [if_neg (by omega), if_neg h4]
theorem itCs_set4 (l : List Dq) (k : Nat) (h : k < l.length) (x : Dq) : ((((itCs l).set (k * 4) (.int .i64 x.due)).set (k * 4 + 1) (.int .i64 x.kind)).set (k * 4 + 2) (.int .i64 x.per)).set (k * 4 + 3) (.int .i64 x.opn) = itCs (l.set k x) := by
  induction l generalizing k with
  | nil => simp at h
  | cons y l ih =>
    have h1 : itCs (y :: l) = itC y ++ itCs l := List.flatMap_cons
    cases k with
    | zero =>
      rw [h1, List.set_cons_zero]
      have h2 : itCs (x :: l) = itC x ++ itCs l := List.flatMap_cons
      rw [h2]
      simp [itC]
    | succ k =>
      have hk : k < l.length := by simpa using h
      rw [h1, List.set_cons_succ]
      have h2 : itCs (y :: l.set k x) = itC y ++ itCs (l.set k x) := List.flatMap_cons
      have h3 : (itC y).length = 4 := rfl
      rw [h2, ← ih k hk]
      rw [List.set_append_right _ _ (by rw [h3]; omega), List.set_append_right _ _ (by rw [h3]; omega), List.set_append_right _ _ (by rw [h3]; omega), List.set_append_right _ _ (by rw [h3]; omega), h3]
      rw [show (k + 1) * 4 - 4 = k * 4 by omega, show (k + 1) * 4 + 1 - 4 = k * 4 + 1 by omega, show (k + 1) * 4 + 2 - 4 = k * 4 + 2 by omega, show (k + 1) * 4 + 3 - 4 = k * 4 + 3 by omega]
theorem made_its (n : Nat) : (madeCells (Value.agg #[.int .i64 0, .int .i64 0, .int .i64 0, .int .i64 0]).cells (n * 4)).toList = itCs (List.replicate n zeroI) := by
  have hc : (Value.agg #[.int .i64 0, .int .i64 0, .int .i64 0, .int .i64 0]).cells = #[.int .i64 0, .int .i64 0, .int .i64 0, .int .i64 0] := rfl
  have hz : ∀ j, j < n * 4 → (itCs (List.replicate n zeroI))[j]? = some (.int .i64 0) := by
    intro j hj
    obtain ⟨c0, c1, c2, c3⟩ := itCs_at (List.replicate n zeroI) (j / 4) (by simp; omega)
    simp only [List.getElem_replicate, zeroI] at c0 c1 c2 c3
    rcases (show j = j / 4 * 4 ∨ j = j / 4 * 4 + 1 ∨ j = j / 4 * 4 + 2 ∨ j = j / 4 * 4 + 3 by omega) with h | h | h | h
    · rw [h]; exact c0
    · rw [h]; exact c1
    · rw [h]; exact c2
    · rw [h]; exact c3
  rw [hc]
  apply List.ext_getElem?
  intro j
  unfold madeCells
  by_cases hj : j < n * 4
  · rw [hz j hj]
    have : j % 4 = 0 ∨ j % 4 = 1 ∨ j % 4 = 2 ∨ j % 4 = 3 := by omega
    rcases this with h | h | h | h <;> simp [hj, h]
  · rw [List.getElem?_eq_none (by simp; omega), List.getElem?_eq_none (by rw [itCs_len]; simp; omega)]
/-- How many of the first k are ahead. -/
def rank (its : List Dq) (x : Dq) (k : Nat) : Nat := (its.take k).countP fun y => decide (keyI y < keyI x)
theorem rank_succ (its : List Dq) (x : Dq) (k : Nat) (h : k < its.length) : rank its x (k + 1) = rank its x k + if keyI its[k] < keyI x then 1 else 0 := by
  unfold rank
  rw [List.take_succ_eq_append_getElem h, List.countP_append]
  simp [List.countP_cons]
theorem rank_le (its : List Dq) (x : Dq) (k : Nat) : rank its x k ≤ k := by
  unfold rank
  exact Nat.le_trans (List.countP_le_length) (List.length_take_le _ _)

set_option maxHeartbeats 6400000 in
set_option maxRecDepth 100000 in
theorem orderRef_any (A : Option Addr) (its : List Dq) (n c : Nat) (w : World) (hn : its.length = n) (hr : Rd w w.heap.size 4 A n (itCs its)) (hm : n ≤ maxLen) :
    Calls Try.prog 11 #[.slice A n c] w (OrderOf its w) := by
  unfold maxLen at hm
  obtain ⟨i0, hi, hz0, hz1', hz9⟩ := info_parts info_it
  have hp := right_any A its c w (by unfold ItR; rw [hn]; exact hr) (by unfold maxLen; omega)
  rw [hn] at hp
  have HN := Lib.hid hn; have HR := Lib.hid hr; have HP := Lib.hid hp
  clear hn hr hp
  go_enter Try.func11, Try.ntmps11
  go_wp2_with fail
  refine HP.out.mono ?_
  rintro e w1 ⟨rfl, hb1⟩
  have HB1 := Lib.hid hb1
  have hz1 := hb1.size
  have HR1 := Lib.hid (HR.out.below hb1)
  clear hb1 HP
  rcases placesE_cases its with he | he | he
  · have HE := Lib.hid he
    have h200 : n ≤ 200 := by have := (placesE_ok he).1; have := HN.out; omega
    obtain ⟨_, hok, hnd⟩ := placesE_ok he
    obtain ⟨d, hpd, hri⟩ := rise_ex hnd
    have HOK := Lib.hid hok; have HPD := Lib.hid hpd; have HRI := Lib.hid hri
    have HDL : Hid (d.length = n) := Lib.hid (by rw [hpd.len]; exact HN.out)
    have HF0 : Hid (itCs (filled its d 0) = (madeCells (Value.agg #[.int .i64 0, .int .i64 0, .int .i64 0, .int .i64 0]).cells (n * 4)).toList) := Lib.hid (by rw [made_its, filled_zero hpd, HN.out])
    rw [he]
    clear he hok hnd hpd hri
    go_wp2_with (at_make; refine wpList_make_full _ rfl _ _ 22 rfl w1.heap.size 37 i0 _ 4 Try.underlying22 hi hz0 hz1' .i64 .i64 _ _ n rfl rfl (by first | rfl | omega) (by first | rfl | omega) (by rw [hz9]; omega) (by unfold maxLen; omega) (Nat.le_refl _) ?_; intro w2 hown2 hg2)
    have HB2 : Hid (Below w1.heap.size w1 w2) := Lib.hid ((Below.refl _ _).grown hg2 (Nat.le_refl _) (fun k hk => by cases hk))
    have HO2 : Hid (w2.ownsRow w1.heap.size 37 4 (.slice (some ⟨w1.heap.size, 0, none⟩) n n) n (itCs (filled its d 0))) := Lib.hid (by rw [HF0.out]; exact hown2)
    clear hown2 hg2 HF0
    go_wp2_with fail
    go_loopg [6] n (fun gh vi wr => ∃ i : Nat, gh = n - i ∧ i ≤ n ∧ vi = .int .i64 i ∧ wr.ownsRow w1.heap.size 37 4 (.slice (some ⟨w1.heap.size, 0, none⟩) n n) n (itCs (filled its d i)) ∧ Below w1.heap.size w1 wr)
    case atStart => exact ⟨0, rfl, by omega, rfl, HO2.out, HB2.out⟩
    case round =>
      obtain ⟨i, hgi, hi', rfl, hown, hbr⟩ := hrel
      have HGI := Lib.hid hgi; have HO := Lib.hid hown; have HB := Lib.hid hbr
      clear hgi hown hbr
      by_cases hlt : i < n
      · have hil : i < its.length := by have := HN.out; omega
        go_wp2_with fail
        go_loopg [7, 8] n (fun gh va vk wx => ∃ k : Nat, gh = n - k ∧ k ≤ n ∧ vk = .int .i64 k ∧ va = .int .i64 (rank its its[i] k) ∧ Below wr.heap.size wr wx)
        case atStart => exact ⟨0, rfl, by omega, rfl, rfl, Below.refl _ _⟩
        case round =>
          obtain ⟨k, hgk, hk, rfl, rfl, hbx⟩ := hrel
          have HGK := Lib.hid hgk; have HX := Lib.hid hbx
          have hzx := hbx.size
          have hle := rank_le its its[i] k
          clear hgk hbx
          by_cases hlk : k < n
          · have hkl : k < its.length := by have := HN.out; omega
            obtain ⟨b, off, rfl, hb, x0, x1, x2, x3⟩ := ((HR1.out.below (HB.out.mono hz1)).below (HX.out.mono (by have := HB.out.size; omega))).it hkl
            obtain ⟨y0, y1, y2, y3⟩ := ((HR1.out.below (HB.out.mono hz1)).below (HX.out.mono (by have := HB.out.size; omega))).it2 hil
            have HAK := Lib.hid (aheadI_key (List.all_eq_true.1 HOK.out _ (List.getElem_mem hkl)) (List.all_eq_true.1 HOK.out _ (List.getElem_mem hil)))
            have HRS := Lib.hid (rank_succ its its[i] k hkl)
            generalize rank its its[i] k = R at *
            generalize hR1 : rank its its[i] (k + 1) = R1 at *
            generalize its[k] = x at *
            generalize its[i] = y at *
            obtain ⟨t, ht⟩ : ∃ t, aheadI x y = t := ⟨_, rfl⟩
            have HT := Lib.hid ht
            rw [ht] at HAK; clear ht
            have HR1' := Lib.hid hR1; clear hR1
            have j1 : (0 : Int) ≤ (i : Int) := by omega
            have j2 : (i : Int) < (n : Int) := by omega
            have j3 : (0 : Int) ≤ (k : Int) := by omega
            have j4 : (k : Int) < (n : Int) := by omega
            have g3 : b < wr.heap.size := World.block_lt_of_cell? _ _ x0
            go_wp2_with fail
            go_region_held3 (fun w' => w'.cell? ⟨b, off + k * 4, none⟩ = some (.int .i64 x.due) ∧ w'.cell? ⟨b, off + k * 4 + 1, none⟩ = some (.int .i64 x.kind) ∧ w'.cell? ⟨b, off + k * 4 + 2, none⟩ = some (.int .i64 x.per) ∧ w'.cell? ⟨b, off + k * 4 + 3, none⟩ = some (.int .i64 x.opn) ∧
                w'.cell? ⟨b, off + i * 4, none⟩ = some (.int .i64 y.due) ∧ w'.cell? ⟨b, off + i * 4 + 1, none⟩ = some (.int .i64 y.kind) ∧ w'.cell? ⟨b, off + i * 4 + 2, none⟩ = some (.int .i64 y.per) ∧ w'.cell? ⟨b, off + i * 4 + 3, none⟩ = some (.int .i64 y.opn))
              ((first | (with_reducible exact ⟨x0, x1, x2, x3, y0, y1, y2, y3⟩) | exact ⟨x0, x1, x2, x3, y0, y1, y2, y3⟩ | exact ⟨(hcB _ g3).trans x0, (hcB _ g3).trans x1, (hcB _ g3).trans x2, (hcB _ g3).trans x3, (hcB _ g3).trans y0, (hcB _ g3).trans y1, (hcB _ g3).trans y2, (hcB _ g3).trans y3⟩))
              ((go_at_call 18; refine (ahead_any x y wr.drew).mono ?_; rintro e w3 ⟨rfl, hw3⟩; have hcB := fun (a : Addr) (hp : a.block < wr.heap.size) => hw3.cell hp; have HW3 := Lib.hid hw3; clear hw3; rw [HT.out]))
            have HB3 := Lib.hid (HX.out.trans (((Below.refl _ _).drew.trans HW3.out).mono hzx))
            clear hcB x0 x1 x2 x3 y0 y1 y2 y3
            cases t with
            | true =>
              have HRR : Hid (R1 = R + 1) := Lib.hid (by rw [HRS.out, if_pos (of_decide_eq_true HAK.out.symm)])
              go_wp2_with fail
              go_roundg (n - (k + 1))
              case measure => have := HGK.out; omega
              case rel => exact ⟨k + 1, rfl, by omega, by go_num, by rw [HR1'.out, HRR.out]; go_num, HB3.out⟩
            | false =>
              have HRR : Hid (R1 = R) := Lib.hid (by rw [HRS.out, if_neg (of_decide_eq_false HAK.out.symm)]; rfl)
              go_wp2_with fail
              go_roundg (n - (k + 1))
              case measure => have := HGK.out; omega
              case rel => exact ⟨k + 1, rfl, by omega, by go_num, by rw [HR1'.out, HRR.out], HB3.out⟩
          · have hkn : k = n := by omega
            subst hkn
            obtain ⟨t, ht, et⟩ := HPD.out.all hil
            have hrk : rank its its[i] k = t := by
              unfold rank
              rw [List.take_of_length_le (by rw [HN.out]; exact Nat.le_refl _)]
              exact rank_at HPD.out HRI.out ht et hil
            rw [hrk]
            have htn : t < k := by have := HDL.out; omega
            have HO3 := Lib.hid (own_below HO.out HX.out)
            have hft : t < (filled its d i).length := by rw [filled_len]; exact ht
            obtain ⟨m0, m1, m2, m3⟩ := itCs_at (filled its d i) t hft
            obtain ⟨c0, f0⟩ := own_cell HO3.out m0
            obtain ⟨c1, f1⟩ := own_cell HO3.out m1
            obtain ⟨c2, f2⟩ := own_cell HO3.out m2
            obtain ⟨c3, f3⟩ := own_cell HO3.out m3
            obtain ⟨b, off, rfl, hb, x0, x1, x2, x3⟩ := ((HR1.out.below (HB.out.mono hz1)).below (HX.out.mono (by have := HB.out.size; omega))).it hil
            have HST : Hid (itCs (filled its d (i + 1)) = ((((itCs (filled its d i)).set (t * 4) (.int .i64 its[i].due)).set (t * 4 + 1) (.int .i64 its[i].kind)).set (t * 4 + 2) (.int .i64 its[i].per)).set (t * 4 + 3) (.int .i64 its[i].opn)) := Lib.hid (by rw [itCs_set4 _ _ hft, ← filled_step HPD.out ht et hil])
            have HBX := Lib.hid (HB.out.trans (HX.out.mono HB.out.size))
            generalize (filled its d i)[t] = old at *
            generalize its[i] = y at *
            clear m0 m1 m2 m3 et hrk hle
            have j1 : (0 : Int) ≤ (i : Int) := by omega
            have j2 : (i : Int) < (k : Int) := by omega
            have j3 : (0 : Int) ≤ (t : Int) := by omega
            have j4 : (t : Int) < (k : Int) := by omega
            have ne : b ≠ w1.heap.size := by omega
            go_wp2_with fail
            go_roundg (k - (i + 1))
            case measure => have := HGI.out; omega
            case rel =>
              refine ⟨i + 1, rfl, by omega, by go_num, ?_, ?_⟩
              · rw [HST.out]
                first
                | exact own_set (own_set (own_set (own_set HO3.out (by omega) _) (by omega) _) (by omega) _) (by omega) _
                | (have := own_set (own_set (own_set (own_set HO3.out (i := t * 4) (by omega) (.int .i64 y.due)) (i := t * 4 + 1) (by omega) (.int .i64 y.kind)) (i := t * 4 + 2) (by omega) (.int .i64 y.per)) (i := t * 4 + 3) (by omega) (.int .i64 y.opn); exact this)
              · exact (((HBX.out.setCell (p := ⟨w1.heap.size, t * 4, none⟩) (Nat.le_refl _) _).setCell (p := ⟨w1.heap.size, t * 4 + 1, none⟩) (Nat.le_refl _) _).setCell (p := ⟨w1.heap.size, t * 4 + 2, none⟩) (Nat.le_refl _) _).setCell (p := ⟨w1.heap.size, t * 4 + 3, none⟩) (Nat.le_refl _) _
      · have hin : i = n := by omega
        subst hin
        have hF : filled its d i = inOrd its d := by have := filled_all HPD.out; rwa [HN.out] at this
        have HRT := Lib.hid (Rd.of_own HO.out)
        rw [hF] at HRT
        have HBF := Lib.hid (HB1.out.trans (HB.out.mono hz1))
        clear hF
        go_wp2_with fail
        go_ret2
        refine ⟨HBF.out, .inr ⟨HE.out, some ⟨w1.heap.size, 0, none⟩, i, inOrd its d, by rw [HN.out]; rfl, by rw [HN.out]; exact HRT.out, IsOrd.of HPD.out HRI.out, by rw [HN.out]; exact Nat.le_refl _⟩⟩
  · rw [he]
    have HE := Lib.hid he; clear he
    go_wp2_with fail
    go_ret2
    exact ⟨HB1.out, .inl ⟨by rw [HE.out]; decide, by rw [HE.out]; rfl⟩⟩
  · rw [he]
    have HE := Lib.hid he; clear he
    go_wp2_with fail
    go_ret2
    exact ⟨HB1.out, .inl ⟨by rw [HE.out]; decide, by rw [HE.out]; rfl⟩⟩
end Go.Proofs.Ytcojckgmmklffaa
