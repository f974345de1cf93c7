/- The reference's: IsDay, Ahead, RightItem, Right. -/
import Derived.Test.YtcojckgmmklffaaAW4
import Derived.Test.YtcojckgmmklffaaR2
namespace Go.Proofs.Ytcojckgmmklffaa
open Go.RowKit Go
set_option linter.unusedVariables false
set_option linter.unusedSimpArgs false

def isD (n : Int) : Bool := decide (0 ≤ n ∧ n ≤ 3652058)
theorem isDay_any (n : Int) (w : World) : Calls Try.prog 41 #[.int .i64 n] w fun e w' => e = .returned (.bool (isD n)) ∧ w = w' := by
  by_cases h1 : 0 ≤ n
  · by_cases h2 : n ≤ 3652058
    · have H : Hid (isD n = true) := Lib.hid (by simp [isD]; omega)
      go_enter Try.func41, Try.ntmps41
      go_wp2_with fail
      go_ret
      exact ⟨by rw [H.out]; rfl, rfl⟩
    · have H : Hid (isD n = false) := Lib.hid (by simp [isD]; omega)
      have h3 : 3652058 < n := by omega
      clear h2
      go_enter Try.func41, Try.ntmps41
      go_wp2_with fail
      go_ret
      exact ⟨by rw [H.out]; first | rfl | (simp; omega), rfl⟩
  · have H : Hid (isD n = false) := Lib.hid (by simp [isD]; omega)
    have h3 : n < 0 := by omega
    clear h1
    go_enter Try.func41, Try.ntmps41
    go_wp2_with fail
    go_ret
    exact ⟨by rw [H.out]; first | rfl | (simp; omega), rfl⟩
theorem ahead_any (a b : Dq) (w : World) : Calls Try.prog 18 #[itV a, itV b] w fun e w' => e = .returned (.bool (aheadI a b)) ∧ Below w.heap.size w w' := by
  by_cases h1 : a.due = b.due
  · by_cases h2 : a.kind = b.kind
    · have H : Hid (aheadI a b = decide (a.per < b.per)) := Lib.hid (by unfold aheadI; rw [if_neg (by omega), if_neg (by omega)])
      have g1 : (a.due != b.due) = false := by simp [h1]
      have g2 : (a.kind != b.kind) = false := by simp [h2]
      clear h1 h2
      go_enter Try.func18, Try.ntmps18
      go_wp2_with fail
      go_ret
      exact ⟨ret_bool (by rw [H.out]), (by repeat' (first | (with_reducible exact Below.refl _ _) | (with_reducible refine Below.alloc ?_ ?_ _) | (with_reducible refine below_drewN ?_ _) | (with_reducible refine Below.drew ?_) | (with_reducible refine Below.setCell ?_ ?_ _) | (with_reducible refine Below.trans ?_ (Below.mono HW0.out ?_)) | (with_reducible refine Below.trans ?_ (Below.mono HW1.out ?_)) | (with_reducible refine Below.trans ?_ (Below.mono HW2.out ?_)) | (with_reducible refine Below.trans ?_ (Below.mono HW3.out ?_)) | (with_reducible refine Below.trans ?_ (Below.mono HW4.out ?_)) | (with_reducible refine Below.trans ?_ (Below.mono HW5.out ?_)) | (with_reducible refine Below.trans ?_ (Below.mono HW6.out ?_)) | (with_reducible refine Below.trans ?_ (Below.mono HW7.out ?_)) | (with_reducible exact Nat.le_refl _) | omega | (simp only [World.size_alloc, World.size_setCell, World.size_drew, size_drewN]; omega) | (simp; done) | (simp; omega)))⟩
    · have H : Hid (aheadI a b = decide (a.kind < b.kind)) := Lib.hid (by unfold aheadI; rw [if_neg (by omega), if_pos (by omega)])
      have g1 : (a.due != b.due) = false := by simp [h1]
      have g2 : (a.kind != b.kind) = true := by simp [h2]
      clear h1 h2
      go_enter Try.func18, Try.ntmps18
      go_wp2_with fail
      go_ret
      exact ⟨ret_bool (by rw [H.out]), (by repeat' (first | (with_reducible exact Below.refl _ _) | (with_reducible refine Below.alloc ?_ ?_ _) | (with_reducible refine below_drewN ?_ _) | (with_reducible refine Below.drew ?_) | (with_reducible refine Below.setCell ?_ ?_ _) | (with_reducible refine Below.trans ?_ (Below.mono HW0.out ?_)) | (with_reducible refine Below.trans ?_ (Below.mono HW1.out ?_)) | (with_reducible refine Below.trans ?_ (Below.mono HW2.out ?_)) | (with_reducible refine Below.trans ?_ (Below.mono HW3.out ?_)) | (with_reducible refine Below.trans ?_ (Below.mono HW4.out ?_)) | (with_reducible refine Below.trans ?_ (Below.mono HW5.out ?_)) | (with_reducible refine Below.trans ?_ (Below.mono HW6.out ?_)) | (with_reducible refine Below.trans ?_ (Below.mono HW7.out ?_)) | (with_reducible exact Nat.le_refl _) | omega | (simp only [World.size_alloc, World.size_setCell, World.size_drew, size_drewN]; omega) | (simp; done) | (simp; omega)))⟩
  · have H : Hid (aheadI a b = decide (a.due < b.due)) := Lib.hid (by unfold aheadI; rw [if_pos (by omega)])
    have g1 : (a.due != b.due) = true := by simp [h1]
    clear h1
    go_enter Try.func18, Try.ntmps18
    go_wp2_with fail
    go_ret
    exact ⟨ret_bool (by rw [H.out]), (by repeat' (first | (with_reducible exact Below.refl _ _) | (with_reducible refine Below.alloc ?_ ?_ _) | (with_reducible refine below_drewN ?_ _) | (with_reducible refine Below.drew ?_) | (with_reducible refine Below.setCell ?_ ?_ _) | (with_reducible refine Below.trans ?_ (Below.mono HW0.out ?_)) | (with_reducible refine Below.trans ?_ (Below.mono HW1.out ?_)) | (with_reducible refine Below.trans ?_ (Below.mono HW2.out ?_)) | (with_reducible refine Below.trans ?_ (Below.mono HW3.out ?_)) | (with_reducible refine Below.trans ?_ (Below.mono HW4.out ?_)) | (with_reducible refine Below.trans ?_ (Below.mono HW5.out ?_)) | (with_reducible refine Below.trans ?_ (Below.mono HW6.out ?_)) | (with_reducible refine Below.trans ?_ (Below.mono HW7.out ?_)) | (with_reducible exact Nat.le_refl _) | omega | (simp only [World.size_alloc, World.size_setCell, World.size_drew, size_drewN]; omega) | (simp; done) | (simp; omega)))⟩

theorem okI_bits {x : Dq} (h : okI x = true) : isD x.due = true ∧ 0 ≤ x.kind ∧ x.kind ≤ 2 ∧ 1 ≤ x.per ∧ x.per ≤ 99999 ∧ 0 ≤ x.opn ∧ x.opn ≤ 4611686018427387904 := by
  have := okI_yes h
  exact ⟨by simp [isD]; omega, by omega, by omega, by omega, by omega, by omega, by omega⟩
theorem okI_no7 {x : Dq} (h : ¬ okI x = true) : isD x.due = false ∨ (isD x.due = true ∧ (x.kind < 0 ∨ (0 ≤ x.kind ∧ (2 < x.kind ∨ (x.kind ≤ 2 ∧ (x.per < 1 ∨ (1 ≤ x.per ∧ (99999 < x.per ∨ (x.per ≤ 99999 ∧ (x.opn < 0 ∨ (0 ≤ x.opn ∧ 4611686018427387904 < x.opn)))))))))))  := by
  have : ¬ (0 ≤ x.due ∧ x.due ≤ 3652058 ∧ 0 ≤ x.kind ∧ x.kind ≤ 2 ∧ 1 ≤ x.per ∧ x.per ≤ 99999 ∧ 0 ≤ x.opn ∧ x.opn ≤ 4611686018427387904) := by simpa [okI] using h
  cases hd : isD x.due
  · exact .inl rfl
  · refine .inr ⟨rfl, ?_⟩
    have h1 : 0 ≤ x.due ∧ x.due ≤ 3652058 := by simpa [isD] using hd
    omega

set_option maxHeartbeats 1600000 in
theorem rightItem_any (x : Dq) (w : World) : Calls Try.prog 29 #[itV x] w fun e w' => e = .returned (.bool (okI x)) ∧ Below w.heap.size w w' := by
  have h0 := fun w => isDay_any x.due w
  have HD := Lib.hid h0; clear h0
  by_cases h : okI x = true
  · obtain ⟨b1, b2, b3, b4, b5, b6, b7⟩ := okI_bits h
    have H := Lib.hid h; clear h
    rw [b1] at HD
    clear b1
    go_enter Try.func29, Try.ntmps29
    go_wp2_with fail
    refine (HD.out _).mono ?_; rintro e w1 ⟨rfl, rfl⟩
    go_wp2_with fail
    go_ret
    exact ⟨ret_bool (by rw [H.out]; try simp), (by repeat' (first | (with_reducible exact Below.refl _ _) | (with_reducible refine Below.alloc ?_ ?_ _) | (with_reducible refine below_drewN ?_ _) | (with_reducible refine Below.drew ?_) | (with_reducible refine Below.setCell ?_ ?_ _) | (with_reducible refine Below.trans ?_ (Below.mono HW0.out ?_)) | (with_reducible refine Below.trans ?_ (Below.mono HW1.out ?_)) | (with_reducible refine Below.trans ?_ (Below.mono HW2.out ?_)) | (with_reducible refine Below.trans ?_ (Below.mono HW3.out ?_)) | (with_reducible refine Below.trans ?_ (Below.mono HW4.out ?_)) | (with_reducible refine Below.trans ?_ (Below.mono HW5.out ?_)) | (with_reducible refine Below.trans ?_ (Below.mono HW6.out ?_)) | (with_reducible refine Below.trans ?_ (Below.mono HW7.out ?_)) | (with_reducible exact Nat.le_refl _) | omega | (simp only [World.size_alloc, World.size_setCell, World.size_drew, size_drewN]; omega) | (simp; done) | (simp; omega)))⟩
  · have H : Hid (okI x = false) := Lib.hid (Bool.eq_false_iff.2 h)
    rcases okI_no7 h with b1 | ⟨b1, b2 | ⟨b2, b3 | ⟨b3, b4 | ⟨b4, b5 | ⟨b5, b6 | ⟨b6, b7⟩⟩⟩⟩⟩⟩
    all_goals
      rw [b1] at HD
      clear b1 h
      go_enter Try.func29, Try.ntmps29
      go_wp2_with fail
      refine (HD.out _).mono ?_; rintro e w1 ⟨rfl, rfl⟩
      go_wp2_with fail
      go_ret
      exact ⟨ret_bool (by first | (rw [H.out]; done) | (rw [H.out]; rfl) | (rw [H.out]; simp; done) | (rw [H.out]; simp; omega)), (by repeat' (first | (with_reducible exact Below.refl _ _) | (with_reducible refine Below.alloc ?_ ?_ _) | (with_reducible refine below_drewN ?_ _) | (with_reducible refine Below.drew ?_) | (with_reducible refine Below.setCell ?_ ?_ _) | (with_reducible refine Below.trans ?_ (Below.mono HW0.out ?_)) | (with_reducible refine Below.trans ?_ (Below.mono HW1.out ?_)) | (with_reducible refine Below.trans ?_ (Below.mono HW2.out ?_)) | (with_reducible refine Below.trans ?_ (Below.mono HW3.out ?_)) | (with_reducible refine Below.trans ?_ (Below.mono HW4.out ?_)) | (with_reducible refine Below.trans ?_ (Below.mono HW5.out ?_)) | (with_reducible refine Below.trans ?_ (Below.mono HW6.out ?_)) | (with_reducible refine Below.trans ?_ (Below.mono HW7.out ?_)) | (with_reducible exact Nat.le_refl _) | omega | (simp only [World.size_alloc, World.size_setCell, World.size_drew, size_drewN]; omega) | (simp; done) | (simp; omega)))⟩

set_option maxHeartbeats 3200000 in
theorem right_any (A : Option Addr) (its : List Dq) (c : Nat) (w : World) (hr : ItR w A its) (hm : its.length ≤ maxLen) :
    Calls Try.prog 20 #[.slice A its.length c] w fun e w' => e = .returned (.int .i64 (placesE its)) ∧ Below w.heap.size w w' := by
  unfold maxLen at hm
  obtain ⟨n, hn⟩ : ∃ n, its.length = n := ⟨_, rfl⟩
  unfold ItR at hr
  have HR := Lib.hid hr; clear hr
  rw [hn] at HR hm ⊢
  have HN := Lib.hid hn
  by_cases h200 : n ≤ 200
  · clear hn
    go_enter Try.func20, Try.ntmps20
    go_wp2_with fail
    go_loopg [3] n (fun gh vi wr => ∃ k : Nat, gh = n - k ∧ k ≤ n ∧ vi = .int .i64 k ∧ (its.take k).all okI = true ∧ Below w.heap.size w wr)
    case atStart => exact ⟨0, rfl, by omega, rfl, rfl, Below.refl _ _⟩
    case round =>
      obtain ⟨k, hgk, hk, rfl, hall, hb⟩ := hrel
      have HG := Lib.hid hgk; have HA := Lib.hid hall; have HB := Lib.hid hb
      clear hgk hall hb
      by_cases hlt : k < n
      · have hlt' : k < its.length := by have := HN.out; omega
        obtain ⟨b, off, rfl, hb, x0, x1, x2, x3⟩ := (HR.out.below HB.out).it hlt'
        have i1 : (0 : Int) ≤ (k : Int) := by omega
        have i2 : (k : Int) < (n : Int) := by omega
        by_cases hx : okI its[k] = true
        · have HA2 : Hid ((its.take (k + 1)).all okI = true) := by show _ = _; rw [all_snoc _ _ _ hlt', HA.out, hx]; rfl
          have HX := Lib.hid hx; clear hx
          generalize its[k] = x at *
          go_wp2_with fail
          refine (rightItem_any x _).mono ?_; rintro e w1 ⟨rfl, hw1⟩
          rw [HX.out]
          have HB2 := Lib.hid (HB.out.trans (hw1.mono HB.out.size)); clear hw1 x0 x1 x2 x3
          go_wp2_with fail
          go_roundg (n - (k + 1))
          case measure => have := HG.out; omega
          case rel => exact ⟨k + 1, rfl, by omega, by go_num, HA2.out, HB2.out⟩
        · have HE := Lib.hid (placesE_bad hlt' hx)
          have HX : Hid (okI its[k] = false) := Lib.hid (Bool.eq_false_iff.2 hx); clear hx
          generalize its[k] = x at *
          go_wp2_with fail
          refine (rightItem_any x _).mono ?_; rintro e w1 ⟨rfl, hw1⟩
          rw [HX.out]
          have HB2 := Lib.hid (HB.out.trans (hw1.mono HB.out.size)); clear hw1 x0 x1 x2 x3
          go_wp2_with fail
          go_ret
          exact ⟨by rw [HE.out]; rfl, HB2.out⟩
      · have hkn : k = n := by omega
        subst hkn
        have hall : its.all okI = true := by have := HA.out; rwa [List.take_of_length_le (by have := HN.out; omega)] at this
        have HOK := Lib.hid hall
        clear hlt hk hall HG
        go_wp2_with fail
        go_loopg [5] k (fun gh vi wx => ∃ i : Nat, gh = k - i ∧ i ≤ k ∧ vi = .int .i64 i ∧ (∀ p q (hp : p < its.length) (hq : q < p), p < i → keyI its[p] ≠ keyI its[q]) ∧ Below w.heap.size w wx)
        case atStart => exact ⟨0, rfl, by omega, rfl, fun p q hp hq h => by omega, HB.out⟩
        case round =>
          obtain ⟨i, hgk, hk, rfl, hne, hb⟩ := hrel
          have HG := Lib.hid hgk; have HNE := Lib.hid hne; have HBI := Lib.hid hb
          clear hgk hne hb
          by_cases hlt : i < k
          · have hlt' : i < its.length := by have := HN.out; omega
            go_wp2_with fail
            go_loopg [6] i (fun gh vi wx => ∃ j : Nat, gh = i - j ∧ j ≤ i ∧ vi = .int .i64 j ∧ (∀ q (hq : q < its.length), q < j → keyI its[i] ≠ keyI its[q]) ∧ Below w.heap.size w wx)
            case atStart => exact ⟨0, rfl, by omega, rfl, fun q hq h => by omega, HBI.out⟩
            case round =>
              obtain ⟨j, hgj, hj, rfl, hnj, hb⟩ := hrel
              have HGJ := Lib.hid hgj; have HNJ := Lib.hid hnj; have HBJ := Lib.hid hb
              clear hgj hnj hb
              by_cases hlj : j < i
              · have hlj' : j < its.length := by omega
                obtain ⟨b, off, rfl, hb, x0, x1, x2, x3⟩ := (HR.out.below HBJ.out).it hlt'
                obtain ⟨y0, y1, y2, y3⟩ := (HR.out.below HBJ.out).it2 hlj'
                have HK1 := Lib.hid (aheadI_key (List.all_eq_true.1 HOK.out its[i] (List.getElem_mem _)) (List.all_eq_true.1 HOK.out its[j] (List.getElem_mem _)))
                have HK2 := Lib.hid (aheadI_key (List.all_eq_true.1 HOK.out its[j] (List.getElem_mem _)) (List.all_eq_true.1 HOK.out its[i] (List.getElem_mem _)))
                have HDUP : Hid (keyI its[i] = keyI its[j] → placesE its = 5) := Lib.hid (fun e => placesE_two (by have := HN.out; omega) HOK.out (two_nodup hlt' hlj' (by omega) e))
                have i1 : (0 : Int) ≤ (i : Int) := by omega
                have i2 : (i : Int) < (k : Int) := by omega
                have i3 : (0 : Int) ≤ (j : Int) := by omega
                have i4 : (j : Int) < (k : Int) := by omega
                have HKE : Hid (keyI its[i] ≠ keyI its[j] → ∀ q (hq : q < its.length), q < j + 1 → keyI its[i] ≠ keyI its[q]) := Lib.hid (fun e q hq h => by
                  by_cases h2 : q = j
                  · subst h2; exact e
                  · exact HNJ.out q hq (by omega))
                generalize its[i] = x at *
                generalize its[j] = y at *
                obtain ⟨t1, ht1⟩ : ∃ t, aheadI x y = t := ⟨_, rfl⟩
                obtain ⟨t2, ht2⟩ : ∃ t, aheadI y x = t := ⟨_, rfl⟩
                have HT1 := Lib.hid ht1; have HT2 := Lib.hid ht2
                rw [ht1] at HK1; rw [ht2] at HK2
                clear ht1 ht2
                have g3 : b < wr.heap.size := World.block_lt_of_cell? _ _ x0
                go_wp2_with fail
                go_region_held3 (fun w' => w'.cell? ⟨b, off + i * 4, none⟩ = some (.int .i64 x.due) ∧ w'.cell? ⟨b, off + i * 4 + 1, none⟩ = some (.int .i64 x.kind) ∧ w'.cell? ⟨b, off + i * 4 + 2, none⟩ = some (.int .i64 x.per) ∧ w'.cell? ⟨b, off + i * 4 + 3, none⟩ = some (.int .i64 x.opn) ∧
                    w'.cell? ⟨b, off + j * 4, none⟩ = some (.int .i64 y.due) ∧ w'.cell? ⟨b, off + j * 4 + 1, none⟩ = some (.int .i64 y.kind) ∧ w'.cell? ⟨b, off + j * 4 + 2, none⟩ = some (.int .i64 y.per) ∧ w'.cell? ⟨b, off + j * 4 + 3, none⟩ = some (.int .i64 y.opn))
                  ((first | (with_reducible exact ⟨x0, x1, x2, x3, y0, y1, y2, y3⟩) | exact ⟨x0, x1, x2, x3, y0, y1, y2, y3⟩ | exact ⟨(hcB _ g3).trans x0, (hcB _ g3).trans x1, (hcB _ g3).trans x2, (hcB _ g3).trans x3, (hcB _ g3).trans y0, (hcB _ g3).trans y1, (hcB _ g3).trans y2, (hcB _ g3).trans y3⟩))
                  ((go_at_call 18; refine (ahead_any x y wr.drew).mono ?_; rintro e w2 ⟨rfl, hw2⟩; have hcB := fun (a : Addr) (hp : a.block < wr.heap.size) => hw2.cell hp; have HW2 := Lib.hid hw2; clear hw2; rw [HT1.out]))
                have hb2 : Below w.heap.size w w2 := HBJ.out.trans (((Below.refl _ _).drew.trans HW2.out).mono HBJ.out.size)
                have HB2 := Lib.hid hb2
                replace x0 := (hcB _ g3).trans x0; replace x1 := (hcB _ g3).trans x1; replace x2 := (hcB _ g3).trans x2; replace x3 := (hcB _ g3).trans x3
                replace y0 := (hcB _ g3).trans y0; replace y1 := (hcB _ g3).trans y1; replace y2 := (hcB _ g3).trans y2; replace y3 := (hcB _ g3).trans y3
                have g4 : b < w2.heap.size := by have h := HW2.out.size; have h' : wr.heap.size ≤ w2.heap.size := h; omega
                clear hcB hb2
                go_wp2_with fail
                go_region_held3 (fun w' => w'.cell? ⟨b, off + i * 4, none⟩ = some (.int .i64 x.due) ∧ w'.cell? ⟨b, off + i * 4 + 1, none⟩ = some (.int .i64 x.kind) ∧ w'.cell? ⟨b, off + i * 4 + 2, none⟩ = some (.int .i64 x.per) ∧ w'.cell? ⟨b, off + i * 4 + 3, none⟩ = some (.int .i64 x.opn) ∧
                    w'.cell? ⟨b, off + j * 4, none⟩ = some (.int .i64 y.due) ∧ w'.cell? ⟨b, off + j * 4 + 1, none⟩ = some (.int .i64 y.kind) ∧ w'.cell? ⟨b, off + j * 4 + 2, none⟩ = some (.int .i64 y.per) ∧ w'.cell? ⟨b, off + j * 4 + 3, none⟩ = some (.int .i64 y.opn))
                  ((first | (with_reducible exact ⟨x0, x1, x2, x3, y0, y1, y2, y3⟩) | exact ⟨x0, x1, x2, x3, y0, y1, y2, y3⟩ | exact ⟨(hcB _ g4).trans x0, (hcB _ g4).trans x1, (hcB _ g4).trans x2, (hcB _ g4).trans x3, (hcB _ g4).trans y0, (hcB _ g4).trans y1, (hcB _ g4).trans y2, (hcB _ g4).trans y3⟩))
                  ((go_at_call 18; refine (ahead_any y x w2.drew).mono ?_; rintro e w3 ⟨rfl, hw3⟩; have hcB := fun (a : Addr) (hp : a.block < w2.heap.size) => hw3.cell hp; have HW3 := Lib.hid hw3; clear hw3; rw [HT2.out]))
                have HB3 : Hid (Below w.heap.size w w3) := Lib.hid (HB2.out.trans (((Below.refl _ _).drew.trans HW3.out).mono HB2.out.size))
                clear hcB x0 x1 x2 x3 y0 y1 y2 y3
                cases t1 with
                | true =>
                  have HNE2 := Lib.hid (HKE.out (by have := of_decide_eq_true HK1.out.symm; omega))
                  go_wp2_with fail
                  go_roundg (i - (j + 1))
                  case measure => have := HGJ.out; omega
                  case rel => exact ⟨j + 1, rfl, by omega, by go_num, HNE2.out, HB3.out⟩
                | false =>
                  cases t2 with
                  | true =>
                    have HNE2 := Lib.hid (HKE.out (by have := of_decide_eq_true HK2.out.symm; omega))
                    go_wp2_with fail
                    go_roundg (i - (j + 1))
                    case measure => have := HGJ.out; omega
                    case rel => exact ⟨j + 1, rfl, by omega, by go_num, HNE2.out, HB3.out⟩
                  | false =>
                    have HE := Lib.hid (HDUP.out (by have := of_decide_eq_false HK2.out.symm; have := of_decide_eq_false HK1.out.symm; omega))
                    go_wp2_with fail
                    go_ret
                    exact ⟨by rw [HE.out]; rfl, HB3.out⟩
              · have hji : j = i := by omega
                subst hji
                have HNE2 : Hid (∀ p q (hp : p < its.length) (hq : q < p), p < j + 1 → keyI its[p] ≠ keyI its[q]) := Lib.hid (fun p q hp hq h => by
                  by_cases h2 : p = j
                  · subst h2; exact HNJ.out q (by omega) hq
                  · exact HNE.out p q hp hq (by omega))
                go_wp2_with fail
                go_roundg (k - (j + 1))
                case measure => have := HG.out; omega
                case rel => exact ⟨j + 1, rfl, by omega, by go_num, HNE2.out, HBJ.out⟩
          · have hik : i = k := by omega
            subst hik
            have HE : Hid (placesE its = 0) := Lib.hid (placesE_yes (by have := HN.out; omega) HOK.out (nodup_of (fun p q hp hq => HNE.out p q hp hq (by have := HN.out; omega))))
            go_wp2_with fail
            go_ret
            exact ⟨by rw [HE.out]; rfl, HBI.out⟩
  · have HE := Lib.hid (placesE_long (its := its) (by omega))
    clear hn
    go_enter Try.func20, Try.ntmps20
    go_wp2_with fail
    go_ret
    exact ⟨by rw [HE.out]; rfl, Below.refl _ _⟩
end Go.Proofs.Ytcojckgmmklffaa
