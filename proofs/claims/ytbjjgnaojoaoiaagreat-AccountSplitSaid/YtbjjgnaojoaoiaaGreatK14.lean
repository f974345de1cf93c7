/- payment; add; interest; settle; set. -/
import Derived.Test.YtbjjgnaojoaoiaaGreatK9
import Derived.Test.YtbjjgnaojoaoiaaGreatK0
import Derived.WalkLawsBesides
import Derived.Deep.RegionLaw
namespace Go.Proofs.YtbjjgnaojoaoiaaGreat
open Go.RowKit Go
set_option linter.unusedVariables false
set_option linter.unusedSimpArgs false

@[reducible] def pmV (q : PmE) : Value := .agg #[.int .i64 q.p.id, .int .i64 q.p.day, .int .i64 q.p.amt, q.v, .int .i64 q.p.rest, .bool q.p.rev]
theorem payment1_any (q : PmE) (n : Int) (gn : Nat) (w : World) (hn : w.cell? ⟨gn, 0, none⟩ = some (.int .i64 n)) (hl : gn < w.heap.size) :
    Calls Tryz.prog 110 #[pmV q, .pointer (some ⟨gn, 0, none⟩)] w fun e w' => e = .returned (.bool (decide (q.p.id = n))) ∧ Below w.heap.size w w' := by
  have hne : gn ≠ w.heap.size := by omega
  go_enter Tryz.func110, Tryz.ntmps110
  go_wp2_with fail
  go_ret
  exact ⟨by first | rfl | (congr 2; exact beq_eq_decide _ _), (Below.refl _ _).alloc (Nat.le_refl _) _⟩
set_option maxHeartbeats 1600000 in
set_option maxRecDepth 100000 in
theorem indexPm_any (A : Option Addr) (N c : Nat) (ps : List PmE) (n : Int) (gn : Nat) (w : World) (hl : ps.length = N) (hr : Rd w w.heap.size 6 A N (pmCs ps)) (hN : N ≤ 1099511627776) (hn : w.cell? ⟨gn, 0, none⟩ = some (.int .i64 n)) (hg : gn < w.heap.size) :
    Calls Tryz.prog 109 #[.slice A N c, .func (.func 110) #[] #[.pointer (some ⟨gn, 0, none⟩)]] w fun e w' => e = .returned (.int .i64 (idxI (fun q : PmE => decide (q.p.id = n)) 0 ps)) ∧ Below w.heap.size w w' := by
  have HW := Lib.hid (fun q (wx : World) (hb : Below w.heap.size w wx) => payment1_any q n gn wx ((hb.cell (p := ⟨gn, 0, none⟩) hg).trans hn) (Nat.lt_of_lt_of_le hg hb.size))
  have HL := Lib.hid hl; have HR := Lib.hid hr
  clear hl hr hn hg
  go_enter Tryz.func109, Tryz.ntmps109
  go_wp2_with fail
  go_loopg [5, 8] N (fun g' v5 v8 wr => ∃ k : Nat, g' = N - k ∧ k ≤ N ∧ v8 = .int .i64 k ∧ idxI (fun q : PmE => decide (q.p.id = n)) 0 ps = idxI (fun q : PmE => decide (q.p.id = n)) k (ps.drop k) ∧ Below w.heap.size w wr)
  case atStart => exact ⟨0, rfl, by omega, rfl, rfl, Below.refl _ _⟩
  case round =>
    obtain ⟨k, hgk, hk, rfl, hf, hbr⟩ := hrel
    have HG := Lib.hid hgk; have HF := Lib.hid hf; have HB := Lib.hid hbr
    clear hgk hf
    by_cases hlt : k < N
    · have hl1 : k < ps.length := by rw [HL.out]; exact hlt
      obtain ⟨b, off, rfl, hb, c0, c1, c2, c3, c4, c5⟩ := (HR.out.below hbr).pm hl1
      have hd : ps.drop k = ps[k] :: ps.drop (k + 1) := List.drop_eq_getElem_cons hl1
      rw [hd] at HF
      clear hd hbr
      generalize ps[k] = q at *
      have i1 : (0 : Int) ≤ (k : Int) := by omega
      have i2 : (k : Int) < (N : Int) := by omega
      have HWM := Lib.hid (HW.out q wr HB.out)
      by_cases hx : q.p.id = n
      · rw [decide_eq_true hx] at HWM
        have HF2 : Hid (idxI (fun q : PmE => decide (q.p.id = n)) 0 ps = k) := Lib.hid (by rw [HF.out, idxI, if_pos (by simpa using hx)])
        clear hx HF
        go_wp2_with fail
        refine HWM.out.mono ?_; rintro e w1 ⟨rfl, hw1⟩
        have HW1 := Lib.hid hw1; clear hw1
        go_wp2_with fail
        go_ret
        exact ⟨by rw [HF2.out]; first | done | rfl, HB.out.trans (HW1.out.mono HB.out.size)⟩
      · rw [decide_eq_false hx] at HWM
        have HF2 : Hid (idxI (fun q : PmE => decide (q.p.id = n)) 0 ps = idxI (fun q : PmE => decide (q.p.id = n)) (k + 1) (ps.drop (k + 1))) := Lib.hid (by rw [HF.out, idxI, if_neg (by simpa using hx)])
        clear hx HF
        go_wp2_with fail
        refine HWM.out.mono ?_; rintro e w1 ⟨rfl, hw1⟩
        have HW1 := Lib.hid hw1; clear hw1
        go_wp2_with fail
        go_roundg (N - (k + 1))
        case measure => have := HG.out; omega
        case rel => exact ⟨k + 1, rfl, by omega, by go_num, HF2.out, HB.out.trans (HW1.out.mono HB.out.size)⟩
    · have hkN : k = N := by omega
      subst hkN
      have HF2 : Hid (idxI (fun q : PmE => decide (q.p.id = n)) 0 ps = -1) := Lib.hid (by
        rw [HF.out, List.drop_of_length_le (by rw [HL.out]; exact Nat.le_refl _)]; rfl)
      clear HF hbr
      go_wp2_with fail
      go_ret
      exact ⟨by rw [HF2.out]; first | done | rfl, HB.out⟩
/-- Where a payment stands. -/
def Ac.pay (S : Ac) (n : Int) : Int := idxI (fun p : Pm => decide (p.id = n)) 0 S.ms
theorem idxI_map {α β : Type} (g : α → β) (f : β → Bool) : ∀ (l : List α) (k : Nat), idxI (fun x => f (g x)) k l = idxI f k (l.map g)
  | [], _ => rfl
  | x :: l, k => by simp only [idxI, List.map_cons, idxI_map g f l (k + 1)]
theorem payment_any (g B : Nat) (S : Ac) (vp vq : Value) (qs : List PmE) (n : Int) (w : World) (h : OwnV w B g S vp vq qs) (hN : S.ms.length ≤ 1000) :
    Calls Tryz.prog 50 #[.pointer (some ⟨g, 0, none⟩), .int .i64 n] w fun e w' => e = .returned (.int .i64 (S.pay n)) ∧ Below w.heap.size w w' := by
  obtain ⟨A, c, rfl, hc, hr⟩ := h.rdq
  obtain ⟨a0, a1, a2, a3, a4, a5⟩ := cells5U h.hg
  have hgl := blk_lt h.hg
  have hne : g ≠ w.heap.size := by omega
  have HI := Lib.hid (fun (wx : World) h1 h2 h3 => indexPm_any A S.ms.length c qs n w.heap.size wx h.len h1 (by omega) h2 h3)
  have HP : Hid (idxI (fun q : PmE => decide (q.p.id = n)) 0 qs = S.pay n) := Lib.hid (by rw [idxI_map PmE.p (fun p : Pm => decide (p.id = n)) qs 0, h.hm]; rfl)
  have HR := Lib.hid (hr.below ((Below.refl _ _).alloc (Nat.le_refl _) (.cells #[.int .i64 n] 3)))
  clear h hr
  go_enter Tryz.func50, Tryz.ntmps50
  go_wp2_with fail
  refine (HI.out _ (HR.out.wider (by simp)) (by simp [go_sem]) (by simp)).mono ?_; rintro e w1 ⟨rfl, hw1⟩
  rw [HP.out]
  have HW1 := Lib.hid hw1; clear hw1
  go_wp2_with fail
  go_ret
  exact ⟨rfl, ((Below.refl _ _).alloc (Nat.le_refl _) _).trans (HW1.out.mono (by simp))⟩

/-- What a step that found something wrong ends with. -/
@[reducible] def pan (c : Int) : Ending := .panicked [{ v := .iface 28 (.int .i64 c), recovered := false }]
theorem uadd_yes (a b : Int) (w : World) (h : (addS a b).2 = 0) : Calls Tryz.prog 43 #[.int .i64 a, .int .i64 b] w fun e w' => e = .returned (.int .i64 (addS a b).1) ∧ Below w.heap.size w w' := by
  obtain ⟨s, e, hs⟩ : ∃ s e, addS a b = (s, e) := ⟨_, _, rfl⟩
  rw [hs] at h
  simp only at h
  subst h
  have HA := Lib.hid (add_any a b w)
  rw [hs] at HA ⊢
  clear hs
  go_enter Tryz.func43, Tryz.ntmps43
  go_wp2_with fail
  refine HA.out.mono ?_; rintro e w1 ⟨rfl, hw1⟩
  have HW1 := Lib.hid hw1; clear hw1
  go_wp2_with fail
  go_ret
  exact ⟨rfl, HW1.out⟩
theorem uadd_no (a b : Int) (w : World) (h : (addS a b).2 ≠ 0) : Calls Tryz.prog 43 #[.int .i64 a, .int .i64 b] w fun e w' => e = pan 2 ∧ Below w.heap.size w w' := by
  obtain ⟨s, e, hs⟩ : ∃ s e, addS a b = (s, e) := ⟨_, _, rfl⟩
  rw [hs] at h
  have he : (e != 0) = true := by simpa using h
  have HA := Lib.hid (add_any a b w)
  rw [hs] at HA
  clear hs h
  go_enter Tryz.func43, Tryz.ntmps43
  go_wp2_with fail
  refine HA.out.mono ?_; rintro e w1 ⟨rfl, hw1⟩
  have HW1 := Lib.hid hw1; clear hw1
  go_wp2_with fail
  exact ⟨rfl, rfl, HW1.out⟩

/-- The interest of a period, up to a day. -/
def interestS (day bp : Int) (p : Per) : Int × Int := if day < p.since then (0, 0) else if (simpleS p.o2 bp (day - p.since)).2 = 0 then addS p.done (simpleS p.o2 bp (day - p.since)).1 else (0, (simpleS p.o2 bp (day - p.since)).2)
theorem PerAt.open_ {w : World} {b off : Nat} {p : Per} (h : PerAt w b off p) : w.cell? ⟨b, off + 5, none⟩ = some (.int .i64 p.o0) ∧ w.cell? ⟨b, off + 6, none⟩ = some (.int .i64 p.o1) ∧ w.cell? ⟨b, off + 7, none⟩ = some (.int .i64 p.o2) ∧ w.cell? ⟨b, off + 8, none⟩ = some (.int .i64 p.since) ∧ w.cell? ⟨b, off + 9, none⟩ = some (.int .i64 p.done) ∧ w.cell? ⟨b, off + 10, none⟩ = some (.int .i64 p.acc) :=
  ⟨h.c 5 (by omega), h.c 6 (by omega), h.c 7 (by omega), h.c 8 (by omega), h.c 9 (by omega), h.c 10 (by omega)⟩
theorem PerAt.free {w : World} {b off : Nat} {p : Per} (h : PerAt w b off p) : w.frozen? ⟨b, off + 5, none⟩ = false ∧ w.frozen? ⟨b, off + 6, none⟩ = false ∧ w.frozen? ⟨b, off + 7, none⟩ = false ∧ w.frozen? ⟨b, off + 8, none⟩ = false ∧ w.frozen? ⟨b, off + 9, none⟩ = false ∧ w.frozen? ⟨b, off + 10, none⟩ = false :=
  ⟨h.f 5 (by omega), h.f 6 (by omega), h.f 7 (by omega), h.f 8 (by omega), h.f 9 (by omega), h.f 10 (by omega)⟩
theorem PerAt.lt {w : World} {b off : Nat} {p : Per} (h : PerAt w b off p) : b < w.heap.size := by
  have := h.c 0 (by omega)
  rcases Nat.lt_or_ge b w.heap.size with h' | h'
  · exact h'
  · simp [World.cell?, Array.getElem?_eq_none h', perC] at this
theorem PerAt.below {w w' : World} {b off : Nat} {p : Per} (h : PerAt w b off p) (hb : Below w.heap.size w w') : PerAt w' b off p :=
  ⟨fun j hj => (hb.cell (p := ⟨b, off + j, none⟩) h.lt).trans (h.c j hj), fun j hj => (hb.frozen (p := ⟨b, off + j, none⟩) h.lt).trans (h.f j hj)⟩
set_option maxHeartbeats 1600000 in
set_option maxRecDepth 100000 in
theorem interest_any (g b off : Nat) (day bp : Int) (cr vp vq : Value) (T : Nat) (p : Per) (w : World) (hg : w.heap[g]? = some (.cells #[.int .i64 day, .int .i64 bp, cr, vp, vq] T (0, 0))) (hp : PerAt w b off p)
    (h1 : 0 ≤ day ∧ day ≤ 3652058) (h2 : 0 ≤ p.since ∧ p.since ≤ 3652058) :
    Calls Tryz.prog 84 #[.pointer (some ⟨g, 0, none⟩), .pointer (some ⟨b, off, none⟩)] w fun e w' => e = .returned (pr (interestS day bp p)) ∧ Below w.heap.size w w' := by
  obtain ⟨a0, a1, a2, a3, a4, a5⟩ := cells5U hg
  obtain ⟨c5, c6, c7, c8, c9, c10⟩ := hp.open_
  have hgl := blk_lt hg
  have hbl := hp.lt
  by_cases hd : day < p.since
  · have H : Hid (interestS day bp p = (0, 0)) := Lib.hid (by rw [interestS, if_pos hd])
    clear hg hp a1 a2 a3 a4 c5 c6 c7 c9 c10
    go_enter Tryz.func84, Tryz.ntmps84
    go_wp2_with fail
    go_quiet (fail)
    go_wp2_with fail
    go_ret2
    exact ⟨by rw [H.out]; rfl, (by repeat' (first | (with_reducible exact Below.refl _ _) | (with_reducible refine Below.alloc ?_ ?_ _) | (with_reducible refine below_drewN ?_ _) | (with_reducible refine Below.drew ?_) | (with_reducible refine Below.setCell ?_ ?_ _) | (with_reducible refine Below.trans ?_ (Below.mono HW0.out ?_)) | (with_reducible refine Below.trans ?_ (Below.mono HW1.out ?_)) | (with_reducible refine Below.trans ?_ (Below.mono HW2.out ?_)) | (with_reducible refine Below.trans ?_ (Below.mono HW3.out ?_)) | (with_reducible refine Below.trans ?_ (Below.mono HW4.out ?_)) | (with_reducible refine Below.trans ?_ (Below.mono HW5.out ?_)) | (with_reducible refine Below.trans ?_ (Below.mono HW6.out ?_)) | (with_reducible refine Below.trans ?_ (Below.mono HW7.out ?_)) | (with_reducible exact Nat.le_refl _) | omega | (simp only [World.size_alloc, World.size_setCell, World.size_drew, size_drewN]; omega) | (simp; done) | (simp; omega)))⟩
  · have hd' : p.since ≤ day := by omega
    have HS := Lib.hid (fun wx => simple_any p.o2 bp (day - p.since) wx)
    obtain ⟨s, e0, hs⟩ : ∃ s e0, simpleS p.o2 bp (day - p.since) = (s, e0) := ⟨_, _, rfl⟩
    rw [hs] at HS
    have hsb : IntKind.i64.wrap (day - p.since) = day - p.since := IntWalk.i64_in _ (by omega)
    by_cases he : e0 = 0
    · subst he
      have H : Hid (interestS day bp p = addS p.done s) := Lib.hid (by rw [interestS, if_neg hd, hs]; rfl)
      have HA := Lib.hid (fun wx => add_any p.done s wx)
      clear hg hp hd a2 a3 a4 c5 c6 c10 hs
      go_enter Tryz.func84, Tryz.ntmps84
      go_wp2_with fail
      go_quiet (fail)
      go_wp2_with fail
      go_region_held3 (fun w' => w'.cell? ⟨b, off + 7, none⟩ = some (.int .i64 p.o2) ∧ w'.cell? ⟨g, 1, none⟩ = some (.int .i64 bp) ∧ w'.cell? ⟨g, 0, none⟩ = some (.int .i64 day) ∧ w'.cell? ⟨b, off + 8, none⟩ = some (.int .i64 p.since) ∧ w'.cell? ⟨b, off + 9, none⟩ = some (.int .i64 p.done))
        ((first | (with_reducible exact ⟨c7, a1, a0, c8, c9⟩) | exact ⟨c7, a1, a0, c8, c9⟩ | exact ⟨(hc1 _ _ hbl).trans c7, (hc1 _ _ hgl).trans a1, (hc1 _ _ hgl).trans a0, (hc1 _ _ hbl).trans c8, (hc1 _ _ hbl).trans c9⟩))
        ((go_at_call 137; refine (HS.out _).mono ?_; rintro e w1 ⟨rfl, hw1⟩; obtain ⟨hc1, hf1⟩ := bcell hw1; have hz1 := hw1.size; (try simp only [World.size_alloc, World.size_setCell, World.size_drew, size_drewN, Nat.add_one_le_iff] at hz1); (try have hy1 : w.heap.size < w1.heap.size := by omega); (try have hx1 : w.heap.size + 1 < w1.heap.size := by omega); have HW1 := Lib.hid hw1; clear hw1))
      all_goals go_wp2_with fail
      all_goals (refine (HA.out _).mono ?_; rintro e w2 ⟨rfl, hw2⟩; obtain ⟨hc2, hf2⟩ := bcell hw2; have hz2 := hw2.size; (try simp only [World.size_alloc, World.size_setCell, World.size_drew, size_drewN, Nat.add_one_le_iff] at hz2); (try have hy2 : w.heap.size < w2.heap.size := by omega); (try have hx2 : w.heap.size + 1 < w2.heap.size := by omega); have HW2 := Lib.hid hw2; clear hw2)
      all_goals go_wp2_with fail
      all_goals go_ret2
      all_goals exact ⟨by rw [H.out]; first | done | rfl, (by repeat' (first | (with_reducible exact Below.refl _ _) | (with_reducible refine Below.alloc ?_ ?_ _) | (with_reducible refine below_drewN ?_ _) | (with_reducible refine Below.drew ?_) | (with_reducible refine Below.setCell ?_ ?_ _) | (with_reducible refine Below.trans ?_ (Below.mono HW0.out ?_)) | (with_reducible refine Below.trans ?_ (Below.mono HW1.out ?_)) | (with_reducible refine Below.trans ?_ (Below.mono HW2.out ?_)) | (with_reducible refine Below.trans ?_ (Below.mono HW3.out ?_)) | (with_reducible refine Below.trans ?_ (Below.mono HW4.out ?_)) | (with_reducible refine Below.trans ?_ (Below.mono HW5.out ?_)) | (with_reducible refine Below.trans ?_ (Below.mono HW6.out ?_)) | (with_reducible refine Below.trans ?_ (Below.mono HW7.out ?_)) | (with_reducible exact Nat.le_refl _) | omega | (simp only [World.size_alloc, World.size_setCell, World.size_drew, size_drewN]; omega) | (simp; done) | (simp; omega)))⟩
    · have H : Hid (interestS day bp p = (0, e0)) := Lib.hid (by rw [interestS, if_neg hd, hs]; simp [he])
      have he' : (e0 != 0) = true := by simpa using he
      clear hg hp hd a2 a3 a4 c5 c6 c10 hs he
      go_enter Tryz.func84, Tryz.ntmps84
      go_wp2_with fail
      go_quiet (fail)
      go_wp2_with fail
      go_region_held3 (fun w' => w'.cell? ⟨b, off + 7, none⟩ = some (.int .i64 p.o2) ∧ w'.cell? ⟨g, 1, none⟩ = some (.int .i64 bp) ∧ w'.cell? ⟨g, 0, none⟩ = some (.int .i64 day) ∧ w'.cell? ⟨b, off + 8, none⟩ = some (.int .i64 p.since) ∧ w'.cell? ⟨b, off + 9, none⟩ = some (.int .i64 p.done))
        ((first | (with_reducible exact ⟨c7, a1, a0, c8, c9⟩) | exact ⟨c7, a1, a0, c8, c9⟩ | exact ⟨(hc1 _ _ hbl).trans c7, (hc1 _ _ hgl).trans a1, (hc1 _ _ hgl).trans a0, (hc1 _ _ hbl).trans c8, (hc1 _ _ hbl).trans c9⟩))
        ((go_at_call 137; refine (HS.out _).mono ?_; rintro e w1 ⟨rfl, hw1⟩; obtain ⟨hc1, hf1⟩ := bcell hw1; have hz1 := hw1.size; (try simp only [World.size_alloc, World.size_setCell, World.size_drew, size_drewN, Nat.add_one_le_iff] at hz1); (try have hy1 : w.heap.size < w1.heap.size := by omega); (try have hx1 : w.heap.size + 1 < w1.heap.size := by omega); have HW1 := Lib.hid hw1; clear hw1))
      all_goals go_wp2_with fail
      go_ret2
      exact ⟨by rw [H.out]; rfl, (by repeat' (first | (with_reducible exact Below.refl _ _) | (with_reducible refine Below.alloc ?_ ?_ _) | (with_reducible refine below_drewN ?_ _) | (with_reducible refine Below.drew ?_) | (with_reducible refine Below.setCell ?_ ?_ _) | (with_reducible refine Below.trans ?_ (Below.mono HW0.out ?_)) | (with_reducible refine Below.trans ?_ (Below.mono HW1.out ?_)) | (with_reducible refine Below.trans ?_ (Below.mono HW2.out ?_)) | (with_reducible refine Below.trans ?_ (Below.mono HW3.out ?_)) | (with_reducible refine Below.trans ?_ (Below.mono HW4.out ?_)) | (with_reducible refine Below.trans ?_ (Below.mono HW5.out ?_)) | (with_reducible refine Below.trans ?_ (Below.mono HW6.out ?_)) | (with_reducible refine Below.trans ?_ (Below.mono HW7.out ?_)) | (with_reducible exact Nat.le_refl _) | omega | (simp only [World.size_alloc, World.size_setCell, World.size_drew, size_drewN]; omega) | (simp; done) | (simp; omega)))⟩
end Go.Proofs.YtbjjgnaojoaoiaaGreat
