/- The walk of AccrueRuns. -/
import Derived.Test.YtpfcajekbkpabaaT3
namespace Go.Proofs.Ytpfcajekbkpabaa
open Go.RowKit Go
set_option linter.unusedVariables false
set_option linter.unusedSimpArgs false

theorem principal_any (g : Nat) (s : St) (w : World) (hr : RunIs w g 61 s) : Calls Try.prog 21 #[.pointer (some ⟨g, 0, none⟩)] w fun e w' => e = .returned (.int .i64 s.P) ∧ w' = w := by
  obtain ⟨c0, c1, c2, c3, c4⟩ := cells4 hr
  go_enter Try.func21, Try.ntmps21
  go_wp2_with fail
  go_ret
  exact ⟨rfl, rfl⟩
theorem since_any (g : Nat) (s : St) (w : World) (hr : RunIs w g 61 s) : Calls Try.prog 16 #[.pointer (some ⟨g, 0, none⟩)] w fun e w' => e = .returned (.int .i64 s.S) ∧ w' = w := by
  obtain ⟨c0, c1, c2, c3, c4⟩ := cells4 hr
  go_enter Try.func16, Try.ntmps16
  go_wp2_with fail
  go_ret
  exact ⟨rfl, rfl⟩

/-- Steps that came in: four numbers each. -/
structure Stp where
  o : Int
  d : Int
  p : Int
  b : Int
def StpsAt (w : World) (B : Nat) (A : Option Addr) (l : List Stp) : Prop :=
  0 < l.length → ∃ b off, A = some ⟨b, off, none⟩ ∧ b < B ∧ ∀ k (h : k < l.length), w.cell? ⟨b, off + k * 4, none⟩ = some (.int .i64 l[k].o) ∧ w.cell? ⟨b, off + k * 4 + 1, none⟩ = some (.int .i64 l[k].d) ∧ w.cell? ⟨b, off + k * 4 + 2, none⟩ = some (.int .i64 l[k].p) ∧ w.cell? ⟨b, off + k * 4 + 3, none⟩ = some (.int .i64 l[k].b)
theorem StpsAt.below {w w' : World} {B : Nat} {A : Option Addr} {l : List Stp} (h : StpsAt w B A l) (hb : Below B w w') : StpsAt w' B A l := fun h0 => by
  obtain ⟨b, off, e, hlt, hc⟩ := h h0
  refine ⟨b, off, e, hlt, fun k hk => ?_⟩
  obtain ⟨a1, a2, a3, a4⟩ := hc k hk
  exact ⟨(hb.cell (p := ⟨b, _, none⟩) hlt).trans a1, (hb.cell (p := ⟨b, _, none⟩) hlt).trans a2, (hb.cell (p := ⟨b, _, none⟩) hlt).trans a3, (hb.cell (p := ⟨b, _, none⟩) hlt).trans a4⟩

/-- Both runs stand the same. -/
def Both (w : World) (g1 g2 T1 T2 : Nat) (s : St) (wr : World) : Prop :=
  RunIs wr g1 T1 s ∧ RunIs wr g2 T2 s ∧ w.heap.size ≤ g1 ∧ w.heap.size ≤ g2 ∧ g1 ≠ g2 ∧ (0 ≤ s.S ∧ s.S ≤ 3652058) ∧ Below w.heap.size w wr
theorem Both.below {w wr w' : World} {g1 g2 T1 T2 : Nat} {s : St} (h : Both w g1 g2 T1 T2 s wr) (hb : Below wr.heap.size wr w') : Both w g1 g2 T1 T2 s w' := by
  obtain ⟨h1, h2, h3, h4, h5, h6, h7⟩ := h
  exact ⟨blk_below h1 hb (blk_lt h1), blk_below h2 hb (blk_lt h2), h3, h4, h5, h6, h7.trans (hb.mono h7.size)⟩

theorem Both.drewN {w wr : World} {g1 g2 T1 T2 : Nat} {s : St} (h : Both w g1 g2 T1 T2 s wr) (n : Nat) : Both w g1 g2 T1 T2 s (wr.drewN n) :=
  ⟨h.1, h.2.1, h.2.2.1, h.2.2.2.1, h.2.2.2.2.1, h.2.2.2.2.2.1, below_drewN h.2.2.2.2.2.2 n⟩

theorem at_ok {s : St} {n : Int} (h : (s.at_ n).2 = 0) : 0 ≤ n ∧ n ≤ 3652058 := by
  by_cases hd : okD n = true
  · exact okD_yes hd
  · rw [St.at_, atS, if_neg hd] at h; simp at h
theorem change_S {s : St} {p n : Int} (hS : 0 ≤ s.S ∧ s.S ≤ 3652058) : 0 ≤ (s.change p n).1.S ∧ (s.change p n).1.S ≤ 3652058 := by
  unfold St.change; split
  · split
    · split
      · exact hS
      · exact at_ok ‹_›
    · exact hS
  · exact hS
theorem rate_S {s : St} {p n : Int} (hS : 0 ≤ s.S ∧ s.S ≤ 3652058) : 0 ≤ (s.rate p n).1.S ∧ (s.rate p n).1.S ≤ 3652058 := by
  unfold St.rate; split
  · split
    · split
      · exact hS
      · exact at_ok ‹_›
    · exact hS
  · exact hS

theorem keep2 {w : World} {a b : Addr} {x y : Value} (h1 : w.cell? a = some x) (h2 : w.cell? b = some y) : w.drew.cell? a = some x ∧ w.drew.cell? b = some y := ⟨h1, h2⟩
/-- A step on the one run, then the same on the other one. -/
theorem Both.one {w w5 w6 : World} {g1 g2 T1 T2 : Nat} {s s' : St} (h : Both w g1 g2 T1 T2 s w5) (h1 : RunIs w6 g1 T1 s') (hg : w5.drew.grownBy w6 (some g1)) : RunIs w6 g2 T2 s ∧ Below w.heap.size w w6 := by
  obtain ⟨a1, a2, a3, a4, a5, a6, a7⟩ := h
  refine ⟨(hg.block g2 (blk_lt a2) (fun e => a5 (by injection e with e; exact e.symm))).trans a2, ?_⟩
  exact a7.drew.grown hg a7.size (fun k hk => by injection hk with hk; omega)
theorem Both.two {w w5 w6 w7 : World} {g1 g2 T1 T2 : Nat} {s s' : St} (h : Both w g1 g2 T1 T2 s w5) (h1 : RunIs w6 g1 T1 s') (hg : w5.drew.grownBy w6 (some g1)) (h2 : RunIs w7 g2 T2 s') (hg2 : w6.drew.grownBy w7 (some g2)) (hS : 0 ≤ s'.S ∧ s'.S ≤ 3652058) : Both w g1 g2 T1 T2 s' w7 := by
  have o := h.one h1 hg
  obtain ⟨a1, a2, a3, a4, a5, a6, a7⟩ := h
  refine ⟨(hg2.block g1 (blk_lt h1) (fun e => a5 (by injection e))).trans h1, h2, a3, a4, a5, hS, ?_⟩
  exact o.2.drew.grown hg2 o.2.size (fun k hk => by injection hk with hk; omega)

set_option maxRecDepth 100000 in
set_option maxHeartbeats 3200000 in
theorem accrueRuns_walk (o d p b : Int) (A : Option Addr) (l : List Stp) (c : Nat) (w : World) (hl : StpsAt w w.heap.size A l) (hm : l.length ≤ maxLen) :
    Calls Try.prog 7 #[.agg #[.int .i64 o, .int .i64 d, .int .i64 p, .int .i64 b], .slice A l.length c] w fun e w' => e = .returned (.bool true) ∧ Below w.heap.size w w' := by
  unfold maxLen at hm
  go_enter Try.func7, Try.ntmps7
  go_wp2_with fail
  refine (awake_any _).mono ?_; rintro e w1 ⟨rfl, hw1⟩; obtain ⟨hc1, hf1⟩ := bcell hw1; have hz1 := hw1.size; (try simp only [World.size_alloc, World.size_setCell, World.size_drew, size_drewN, Nat.add_one_le_iff] at hz1); (try have hy1 : w.heap.size < w1.heap.size := by omega); (try have hx1 : w.heap.size + 1 < w1.heap.size := by omega); have HW1 := Lib.hid hw1; clear hw1
  go_wp2_with fail
  refine (new_any p b d _).mono ?_; rintro e w2 (⟨hp, hb, hd, ⟨g1, rfl, hg1, hr1⟩, hw2⟩ | ⟨hno, rfl, hw2⟩)
  · obtain ⟨hc2, hf2⟩ := bcell hw2; have hz2 := hw2.size; (try simp only [World.size_alloc, World.size_setCell, World.size_drew, size_drewN, Nat.add_one_le_iff] at hz2); (try have hy2 : w.heap.size < w2.heap.size := by omega); (try have hx2 : w.heap.size + 1 < w2.heap.size := by omega); have HW2 := Lib.hid hw2; clear hw2
    go_wp2_with fail
    refine (new_ref p b d _).mono ?_; rintro e w3 (⟨_, _, _, ⟨g2, rfl, hg2, hr2⟩, hw3⟩ | ⟨hno, rfl, hw3⟩)
    · have hg12 : g1 ≠ g2 := by have := blk_lt hr1; omega
      have hBoth : Both w g1 g2 61 46 ⟨p, b, d, 0⟩ w3 := by
        refine ⟨blk_below hr1 hw3 (blk_lt hr1), hr2, by omega, by omega, hg12, okD_yes hd, ?_⟩
        have HW3 := Lib.hid hw3
        exact (by repeat' (first | (with_reducible exact Below.refl _ _) | (with_reducible refine Below.alloc ?_ ?_ _) | (with_reducible refine below_drewN ?_ _) | (with_reducible refine Below.drew ?_) | (with_reducible refine Below.setCell ?_ ?_ _) | (with_reducible refine Below.trans ?_ (Below.mono HW0.out ?_)) | (with_reducible refine Below.trans ?_ (Below.mono HW1.out ?_)) | (with_reducible refine Below.trans ?_ (Below.mono HW2.out ?_)) | (with_reducible refine Below.trans ?_ (Below.mono HW3.out ?_)) | (with_reducible refine Below.trans ?_ (Below.mono HW4.out ?_)) | (with_reducible refine Below.trans ?_ (Below.mono HW5.out ?_)) | (with_reducible refine Below.trans ?_ (Below.mono HW6.out ?_)) | (with_reducible refine Below.trans ?_ (Below.mono HW7.out ?_)) | (with_reducible exact Nat.le_refl _) | omega | (simp only [World.size_alloc, World.size_setCell, World.size_drew, size_drewN]; omega) | (simp; done) | (simp; omega)))
      have HBoth := Lib.hid hBoth
      clear hBoth hr1 hr2
      obtain ⟨hc3, hf3⟩ := bcell hw3; have hz3 := hw3.size; (try simp only [World.size_alloc, World.size_setCell, World.size_drew, size_drewN, Nat.add_one_le_iff] at hz3); (try have hy3 : w.heap.size < w3.heap.size := by omega); (try have hx3 : w.heap.size + 1 < w3.heap.size := by omega); have HW3 := Lib.hid hw3; clear hw3
      go_wp2_with fail
      clear hp hb hd hg1 hg2 hc1 hf1 hc2 hf2 hc3 hf3
      go_loopw [10] (fun i wr => ∃ (k : Nat) (s : St), k ≤ l.length ∧ k ≤ 100 ∧ i = .int .i64 k ∧ Both w g1 g2 61 46 s wr) (fun i _ => 100 - (intOf i).toNat)
      case atStart => exact ⟨0, _, by omega, by omega, rfl, HBoth.out⟩
      case round =>
        obtain ⟨k, s, hk, hk2, rfl, hB⟩ := hrel
        have HB := Lib.hid hB; clear hB HBoth
        by_cases hlt : k < l.length
        · by_cases h100 : k < 100
          · obtain ⟨b', off, rfl, hb', hc⟩ := hl (by omega)
            obtain ⟨q0, q1, q2, q3⟩ := hc k hlt
            have HQ : Hid (∀ wx, Below w.heap.size w wx → wx.cell? ⟨b', off + k * 4, none⟩ = some (.int .i64 l[k].o) ∧ wx.cell? ⟨b', off + k * 4 + 1, none⟩ = some (.int .i64 l[k].d) ∧ wx.cell? ⟨b', off + k * 4 + 2, none⟩ = some (.int .i64 l[k].p) ∧ wx.cell? ⟨b', off + k * 4 + 3, none⟩ = some (.int .i64 l[k].b)) :=
              fun wx hx => ⟨(hx.cell (p := ⟨b', _, none⟩) hb').trans q0, (hx.cell (p := ⟨b', _, none⟩) hb').trans q1, (hx.cell (p := ⟨b', _, none⟩) hb').trans q2, (hx.cell (p := ⟨b', _, none⟩) hb').trans q3⟩
            clear q0 q1 q2 q3 hc
            obtain ⟨x0, x1, x2, x3⟩ := HQ.out wr HB.out.2.2.2.2.2.2
            go_wp2_with fail
            refine (at_any g1 s.P s.B s.S s.D l[k].d wr HB.out.1 HB.out.2.2.2.2.2.1).mono ?_; rintro e w4 ⟨rfl, hw4⟩
            have HB4 := Lib.hid (HB.out.below hw4)
            clear hw4 x0 x1 x2 x3
            obtain ⟨x0, x1, x2, x3⟩ := HQ.out w4 HB4.out.2.2.2.2.2.2
            go_wp2_with fail
            refine (at_ref g2 s.P s.B s.S s.D l[k].d w4 HB4.out.2.1 HB4.out.2.2.2.2.2.1).mono ?_; rintro e w5 ⟨rfl, hw5⟩
            have HB5 := Lib.hid (HB4.out.below hw5)
            clear hw5 x0 x1 x2 x3
            obtain ⟨x0, x1, x2, x3⟩ := HQ.out w5 HB5.out.2.2.2.2.2.2
            obtain ⟨m, e0, hs⟩ : ∃ m e0, atS s.P s.B s.S s.D l[k].d = (m, e0) := ⟨_, _, rfl⟩
            rw [hs]; clear hs
            by_cases ho1 : l[k].o = 1
            · have q1 : (l[k].o == 1) = true := by simp [ho1]
              have q2 : (l[k].o == 2) = false := by simp [ho1]
              clear ho1
              have hS' := change_S (s := s) (p := l[k].p) (n := l[k].d) HB5.out.2.2.2.2.2.1
              go_wp2_with fail
              go_region_held3 (fun w' => w'.cell? ⟨b', off + k * 4 + 2, none⟩ = some (.int .i64 l[k].p) ∧ w'.cell? ⟨b', off + k * 4 + 1, none⟩ = some (.int .i64 l[k].d))
                ((first | (with_reducible exact keep2 x2 x1) | (exact ⟨y2, y1⟩)))
                ((go_at_call 14; refine (change_any g1 s l[k].p l[k].d w5.drew (show RunIs w5.drew g1 _ s from HB5.out.1) HB5.out.2.2.2.2.2.1).mono ?_; rintro e w6 ⟨rfl, h1, h2⟩; have H1 := Lib.hid h1; have H2 := Lib.hid h2; have H3 := Lib.hid (HB5.out.one h1 h2); clear h1 h2; obtain ⟨y0, y1, y2', y3'⟩ := HQ.out w6 H3.out.2; have y2 := y2'))
              clear x0 x1 x2 x3
              obtain ⟨x0, x1, x2, x3⟩ := HQ.out w6 H3.out.2
              clear y0 y1 y2 y2' y3'
              go_wp2_with fail
              go_region_held3 (fun w' => w'.cell? ⟨b', off + k * 4 + 2, none⟩ = some (.int .i64 l[k].p) ∧ w'.cell? ⟨b', off + k * 4 + 1, none⟩ = some (.int .i64 l[k].d))
                ((first | (with_reducible exact keep2 x2 x1) | (exact ⟨y2, y1⟩)))
                ((go_at_call 19; refine (change_ref g2 s l[k].p l[k].d w6.drew (show RunIs w6.drew g2 _ s from H3.out.1) HB5.out.2.2.2.2.2.1).mono ?_; rintro e w7 ⟨rfl, h1, h2⟩; have HZ := Lib.hid (HB5.out.two H1.out H2.out h1 h2 hS'); clear h1 h2; obtain ⟨y0, y1, y2', y3'⟩ := HQ.out w7 HZ.out.2.2.2.2.2.2; have y2 := y2'))
              clear x0 x1 x2 x3 hS'
              obtain ⟨x0, x1, x2, x3⟩ := HQ.out w7 HZ.out.2.2.2.2.2.2
              obtain ⟨z0, z1, z2, z3, z4⟩ := cells4 HZ.out.2.1
              clear y0 y1 y2 y2' y3'
              go_wp2_with fail
              go_quiet ((first
                | (go_at_call 21; exact Calls.quiet_of_same (principal_any g1 _ _ HZ.out.1))
                | (go_at_call 16; exact Calls.quiet_of_same (since_any g1 _ _ HZ.out.1))))
              go_wp2_with fail
              exact ⟨⟨k + 1, _, by omega, by omega, by go_num, HZ.out.drewN _⟩, by first | (simp [intOf]; done) | (simp [intOf]; omega)⟩
            · by_cases ho2 : l[k].o = 2
              · have q1 : (l[k].o == 1) = false := by simp [ho2]
                have q2 : (l[k].o == 2) = true := by simp [ho2]
                clear ho1 ho2
                have hS' := rate_S (s := s) (p := l[k].b) (n := l[k].d) HB5.out.2.2.2.2.2.1
                go_wp2_with fail
                go_region_held3 (fun w' => w'.cell? ⟨b', off + k * 4 + 3, none⟩ = some (.int .i64 l[k].b) ∧ w'.cell? ⟨b', off + k * 4 + 1, none⟩ = some (.int .i64 l[k].d))
                  ((first | (with_reducible exact keep2 x3 x1) | (exact ⟨y2, y1⟩)))
                  ((go_at_call 15; refine (rate_any g1 s l[k].b l[k].d w5.drew (show RunIs w5.drew g1 _ s from HB5.out.1) HB5.out.2.2.2.2.2.1).mono ?_; rintro e w6 ⟨rfl, h1, h2⟩; have H1 := Lib.hid h1; have H2 := Lib.hid h2; have H3 := Lib.hid (HB5.out.one h1 h2); clear h1 h2; obtain ⟨y0, y1, y2', y3'⟩ := HQ.out w6 H3.out.2; have y2 := y3'))
                clear x0 x1 x2 x3
                obtain ⟨x0, x1, x2, x3⟩ := HQ.out w6 H3.out.2
                clear y0 y1 y2 y2' y3'
                go_wp2_with fail
                go_region_held3 (fun w' => w'.cell? ⟨b', off + k * 4 + 3, none⟩ = some (.int .i64 l[k].b) ∧ w'.cell? ⟨b', off + k * 4 + 1, none⟩ = some (.int .i64 l[k].d))
                  ((first | (with_reducible exact keep2 x3 x1) | (exact ⟨y2, y1⟩)))
                  ((go_at_call 20; refine (rate_ref g2 s l[k].b l[k].d w6.drew (show RunIs w6.drew g2 _ s from H3.out.1) HB5.out.2.2.2.2.2.1).mono ?_; rintro e w7 ⟨rfl, h1, h2⟩; have HZ := Lib.hid (HB5.out.two H1.out H2.out h1 h2 hS'); clear h1 h2; obtain ⟨y0, y1, y2', y3'⟩ := HQ.out w7 HZ.out.2.2.2.2.2.2; have y2 := y3'))
                clear x0 x1 x2 x3 hS'
                obtain ⟨x0, x1, x2, x3⟩ := HQ.out w7 HZ.out.2.2.2.2.2.2
                obtain ⟨z0, z1, z2, z3, z4⟩ := cells4 HZ.out.2.1
                clear y0 y1 y2 y2' y3'
                go_wp2_with fail
                go_quiet ((first
                  | (go_at_call 21; exact Calls.quiet_of_same (principal_any g1 _ _ HZ.out.1))
                  | (go_at_call 16; exact Calls.quiet_of_same (since_any g1 _ _ HZ.out.1))))
                go_wp2_with fail
                exact ⟨⟨k + 1, _, by omega, by omega, by go_num, HZ.out.drewN _⟩, by first | (simp [intOf]; done) | (simp [intOf]; omega)⟩
              · have q1 : (l[k].o == 1) = false := by simpa using ho1
                have q2 : (l[k].o == 2) = false := by simpa using ho2
                clear ho1 ho2
                have HZ := HB5
                obtain ⟨z0, z1, z2, z3, z4⟩ := cells4 HZ.out.2.1
                go_wp2_with fail
                go_quiet ((first
                  | (go_at_call 21; exact Calls.quiet_of_same (principal_any g1 _ _ HZ.out.1))
                  | (go_at_call 16; exact Calls.quiet_of_same (since_any g1 _ _ HZ.out.1))))
                go_wp2_with fail
                exact ⟨⟨k + 1, _, by omega, by omega, by go_num, HZ.out.drewN _⟩, by first | (simp [intOf]; done) | (simp [intOf]; omega)⟩
          · go_wp2_with fail
            go_ret
            exact ⟨rfl, HB.out.2.2.2.2.2.2⟩
        · go_wp2_with fail
          go_ret
          exact ⟨rfl, HB.out.2.2.2.2.2.2⟩
    · exact absurd ⟨hp, hb, hd⟩ hno
  · obtain ⟨hc2, hf2⟩ := bcell hw2; have hz2 := hw2.size; (try simp only [World.size_alloc, World.size_setCell, World.size_drew, size_drewN, Nat.add_one_le_iff] at hz2); (try have hy2 : w.heap.size < w2.heap.size := by omega); (try have hx2 : w.heap.size + 1 < w2.heap.size := by omega); have HW2 := Lib.hid hw2; clear hw2
    go_wp2_with fail
    refine (new_ref p b d _).mono ?_; rintro e w3 (⟨hp, hb, hd, ⟨g2, rfl, hg2, hr2⟩, hw3⟩ | ⟨_, rfl, hw3⟩)
    · exact absurd ⟨hp, hb, hd⟩ hno
    · obtain ⟨hc3, hf3⟩ := bcell hw3; have hz3 := hw3.size; (try simp only [World.size_alloc, World.size_setCell, World.size_drew, size_drewN, Nat.add_one_le_iff] at hz3); (try have hy3 : w.heap.size < w3.heap.size := by omega); (try have hx3 : w.heap.size + 1 < w3.heap.size := by omega); have HW3 := Lib.hid hw3; clear hw3
      go_wp2_with fail
      refine wp_loop_rounds 1 ?_
      rw [rounds_succ]
      go_wp2_with fail
      all_goals go_ret
      all_goals exact ⟨rfl, (by repeat' (first | (with_reducible exact Below.refl _ _) | (with_reducible refine Below.alloc ?_ ?_ _) | (with_reducible refine below_drewN ?_ _) | (with_reducible refine Below.drew ?_) | (with_reducible refine Below.setCell ?_ ?_ _) | (with_reducible refine Below.trans ?_ (Below.mono HW0.out ?_)) | (with_reducible refine Below.trans ?_ (Below.mono HW1.out ?_)) | (with_reducible refine Below.trans ?_ (Below.mono HW2.out ?_)) | (with_reducible refine Below.trans ?_ (Below.mono HW3.out ?_)) | (with_reducible refine Below.trans ?_ (Below.mono HW4.out ?_)) | (with_reducible refine Below.trans ?_ (Below.mono HW5.out ?_)) | (with_reducible refine Below.trans ?_ (Below.mono HW6.out ?_)) | (with_reducible refine Below.trans ?_ (Below.mono HW7.out ?_)) | (with_reducible exact Nat.le_refl _) | omega | (simp only [World.size_alloc, World.size_setCell, World.size_drew, size_drewN]; omega) | (simp; done) | (simp; omega)))⟩
end Go.Proofs.Ytpfcajekbkpabaa
