/- Laws. -/
import Derived.Test.YtbjjgnaojoaoiaaGreatChecked
import Derived.Test.YtbjjgnaojoaoiaaGreatZZ0
import Derived.Test.YtbjjgnaojoaoiaaGreatZZ1
import Derived.Deep.RegionHeld3
import Derived.Deep.LoopGhost
import Derived.Sort.Grow
import Derived.Shelf.Small.Wraps
namespace Go.Proofs.YtbjjgnaojoaoiaaGreat
open Go.RowKit Go
open Go.Sort (grow grow_empty grow_grow alloc_eq_grow heap_grow_old)
set_option linter.unusedVariables false
set_option linter.unusedSimpArgs false
set_option maxHeartbeats 1600000
set_option maxRecDepth 100000
@[reducible] def itV (x : Dq) : Value := .agg #[.int .i64 x.due, .int .i64 x.kind, .int .i64 x.per, .int .i64 x.opn]
def itC (x : Dq) : List Value := [.int .i64 x.due, .int .i64 x.kind, .int .i64 x.per, .int .i64 x.opn]
def itCs (its : List Dq) : List Value := its.flatMap itC
theorem itCs_len (qs : List Dq) : (itCs qs).length = qs.length * 4 := by
 unfold itCs
 induction qs with
 | nil => rfl
 | cons q qs ih => rw [List.flatMap_cons, List.length_append, ih]; simp [itC]; omega
theorem itCs_app (a b : List Dq) : itCs (a ++ b) = itCs a ++ itCs b := by simp [itCs]
theorem itCs_drop (qs : List Dq) (k : Nat) : (itCs qs).drop (k * 4) = itCs (qs.drop k) := by
 induction qs generalizing k with
 | nil => simp [itCs]
 | cons q qs ih =>
   cases k with
   | zero => simp [itCs]
   | succ k =>
     have h1 : itCs (q :: qs) = itC q ++ itCs qs := by simp [itCs]
     rw [List.drop_succ_cons, h1, ← ih k, List.drop_append]
     have : (itC q).length = 4 := rfl
     rw [this, show (k + 1) * 4 - 4 = k * 4 by omega, List.drop_of_length_le (by rw [this]; omega), List.nil_append]
theorem itCs_at (qs : List Dq) (k : Nat) (h : k < qs.length) : (itCs qs)[k * 4]? = some (.int .i64 qs[k].due) ∧ (itCs qs)[k * 4 + 1]? = some (.int .i64 qs[k].kind) ∧ (itCs qs)[k * 4 + 2]? = some (.int .i64 qs[k].per) ∧ (itCs qs)[k * 4 + 3]? = some (.int .i64 qs[k].opn) := by
 have h1 := itCs_drop qs k
 rw [List.drop_eq_getElem_cons h] at h1
 have h2 : ∀ j, (itCs qs)[k * 4 + j]? = (itCs (qs[k] :: qs.drop (k + 1)))[j]? := fun j => by rw [← h1, List.getElem?_drop]
 have h3 : itCs (qs[k] :: qs.drop (k + 1)) = itC qs[k] ++ itCs (qs.drop (k + 1)) := List.flatMap_cons
 rw [h3] at h2
 exact ⟨(h2 0).trans rfl, (h2 1).trans rfl, (h2 2).trans rfl, (h2 3).trans rfl⟩
theorem itCs_one (qs : List Dq) : ∀ u ∈ itCs qs, u.oneCell' = true := by
 intro u hu
 obtain ⟨q, _, hq⟩ := List.mem_flatMap.1 hu
 simp [itC] at hq
 rcases hq with rfl | rfl | rfl | rfl <;> rfl
abbrev ItR (w : World) (A : Option Addr) (its : List Dq) : Prop := Rd w w.heap.size 4 A its.length (itCs its)
theorem Rd.it {w : World} {B n : Nat} {A : Option Addr} {its : List Dq} (h : Rd w B 4 A n (itCs its)) {k : Nat} (hk : k < its.length) : ∃ b off, A = some ⟨b, off, none⟩ ∧ b < B ∧
  w.cell? ⟨b, off + k * 4, none⟩ = some (.int .i64 its[k].due) ∧ w.cell? ⟨b, off + k * 4 + 1, none⟩ = some (.int .i64 its[k].kind) ∧ w.cell? ⟨b, off + k * 4 + 2, none⟩ = some (.int .i64 its[k].per) ∧ w.cell? ⟨b, off + k * 4 + 3, none⟩ = some (.int .i64 its[k].opn) := by
 have hn : its.length * 4 = n * 4 := by rw [← itCs_len]; exact h.1
 obtain ⟨b, off, e, hb, hc⟩ := h.2 (by omega)
 obtain ⟨h0, h1, h2, h3⟩ := itCs_at its k hk
 refine ⟨b, off, e, hb, (hc _ (by omega)).trans h0, ?_, ?_, ?_⟩
 · have := hc (k * 4 + 1) (by omega); rw [← Nat.add_assoc] at this; exact this.trans h1
 · have := hc (k * 4 + 2) (by omega); rw [← Nat.add_assoc] at this; exact this.trans h2
 · have := hc (k * 4 + 3) (by omega); rw [← Nat.add_assoc] at this; exact this.trans h3
theorem Rd.it2 {w : World} {B n b off : Nat} {its : List Dq} (h : Rd w B 4 (some ⟨b, off, none⟩) n (itCs its)) {k : Nat} (hk : k < its.length) : 
  w.cell? ⟨b, off + k * 4, none⟩ = some (.int .i64 its[k].due) ∧ w.cell? ⟨b, off + k * 4 + 1, none⟩ = some (.int .i64 its[k].kind) ∧ w.cell? ⟨b, off + k * 4 + 2, none⟩ = some (.int .i64 its[k].per) ∧ w.cell? ⟨b, off + k * 4 + 3, none⟩ = some (.int .i64 its[k].opn) := by
 obtain ⟨b', off', e, _, hc⟩ := h.it hk
 injection e with e; injection e with e1 e2; subst e1 e2; exact hc
theorem Rd.num {w : World} {B n : Nat} {A : Option Addr} {d : List Int} (h : Rd w B 1 A n (ints d)) {k : Nat} (hk : k < d.length) : ∃ b off, A = some ⟨b, off, none⟩ ∧ b < B ∧ w.cell? ⟨b, off + k, none⟩ = some (.int .i64 d[k]) := by
 have hn : d.length = n * 1 := by rw [← ints_len]; exact h.1
 obtain ⟨b, off, e, hb, hc⟩ := h.2 (by omega)
 exact ⟨b, off, e, hb, (hc k (by omega)).trans (ints_at d k hk)⟩
theorem Rd.num2 {w : World} {B n b off : Nat} {d : List Int} (h : Rd w B 1 (some ⟨b, off, none⟩) n (ints d)) {k : Nat} (hk : k < d.length) : w.cell? ⟨b, off + k, none⟩ = some (.int .i64 d[k]) := by
 obtain ⟨b', off', e, _, hc⟩ := h.num hk
 injection e with e; injection e with e1 e2; subst e1 e2; exact hc
def Lays (w w' : World) : Prop := ∃ q os, w' = grow (w.drewN q) os
theorem Lays.refl (w : World) : Lays w w := ⟨0, #[], by rw [grow_empty]; rfl⟩
theorem Lays.drew {w w' : World} (h : Lays w w') : Lays w w'.drew := by
 obtain ⟨q, os, rfl⟩ := h
 exact ⟨q + 1, os, rfl⟩
theorem Lays.alloc {w w' : World} (h : Lays w w') (o : Obj) : Lays w (w'.alloc o) := by
 obtain ⟨q, os, rfl⟩ := h
 exact ⟨q, os ++ #[o], by rw [alloc_eq_grow, grow_grow]⟩
theorem Lays.trans {w w' w'' : World} (h : Lays w w') (k : Lays w' w'') : Lays w w'' := by
 obtain ⟨q, os, rfl⟩ := h
 obtain ⟨q', os', rfl⟩ := k
 refine ⟨q + q', os ++ os', ?_⟩
 rw [← grow_grow]
 unfold grow World.drewN
 simp [Nat.add_assoc]
theorem Lays.below {w w' : World} (h : Lays w w') : Below w.heap.size w w' := by
 obtain ⟨q, os, rfl⟩ := h
 refine ⟨rfl, rfl, rfl, by simp [grow], fun b hb => ?_⟩
 exact heap_grow_old (w.drewN q) os hb
def or3 (x y z : Int) : Int := if x = 0 then (if y = 0 then z else y) else x
theorem or3_blk (g t : Nat) (x y z : Int) (w : World) (h : w.heap[g]? = some (.cells #[.int .i64 x, .int .i64 y, .int .i64 z] t (0, 0))) :
  Calls Tryz.prog 146 #[.slice (some ⟨g, 0, none⟩) 3 3] w fun e w' => e = .returned (.int .i64 (or3 x y z)) ∧ w' = w := by
 have c0 : w.cell? ⟨g, 0, none⟩ = some (.int .i64 x) := by simp [World.cell?, h]
 have c1 : w.cell? ⟨g, 1, none⟩ = some (.int .i64 y) := by simp [World.cell?, h]
 have c2 : w.cell? ⟨g, 2, none⟩ = some (.int .i64 z) := by simp [World.cell?, h]
 clear h
 by_cases hx : x = 0
 · subst hx
   by_cases hy : y = 0
   · subst hy
     by_cases hz : z = 0
     · subst hz
       go_enter Tryz.func146, Tryz.ntmps146
       go_wp2_with fail
       refine wp_loop_rounds 4 ?_
       rw [rounds_succ]; go_wp2_with fail
       rw [rounds_succ]; go_wp2_with fail
       rw [rounds_succ]; go_wp2_with fail
       rw [rounds_succ]; go_wp2_with fail
       all_goals go_ret
       all_goals exact ⟨rfl, rfl⟩
     · have hz' : (z != 0) = true := by simpa using hz
       go_enter Tryz.func146, Tryz.ntmps146
       go_wp2_with fail
       refine wp_loop_rounds 4 ?_
       rw [rounds_succ]; go_wp2_with fail
       rw [rounds_succ]; go_wp2_with fail
       rw [rounds_succ]; go_wp2_with fail
       all_goals go_ret
       all_goals exact ⟨rfl, rfl⟩
   · have hy' : (y != 0) = true := by simpa using hy
     have e : or3 0 y z = y := by unfold or3; rw [if_pos rfl, if_neg hy]
     have E := hyd e; clear e
     go_enter Tryz.func146, Tryz.ntmps146
     go_wp2_with fail
     refine wp_loop_rounds 4 ?_
     rw [rounds_succ]; go_wp2_with fail
     rw [rounds_succ]; go_wp2_with fail
     all_goals go_ret
     all_goals exact ⟨by rw [E.out]; rfl, rfl⟩
 · have hx' : (x != 0) = true := by simpa using hx
   have e : or3 x y z = x := by unfold or3; rw [if_neg hx]
   have E := hyd e; clear e
   go_enter Tryz.func146, Tryz.ntmps146
   go_wp2_with fail
   refine wp_loop_rounds 4 ?_
   rw [rounds_succ]; go_wp2_with fail
   all_goals go_ret
   all_goals exact ⟨by rw [E.out]; rfl, rfl⟩
theorem cI_lt {x y : Int} (h : x < y) : Lib.compareInt x y = -1 := by unfold Lib.compareInt; rw [if_pos h]
theorem cI_gt {x y : Int} (h : y < x) : Lib.compareInt x y = 1 := by unfold Lib.compareInt; rw [if_neg (by omega), if_pos h]
theorem cI_eq {x y : Int} (h1 : ¬ x < y) (h2 : ¬ y < x) : Lib.compareInt x y = 0 := by unfold Lib.compareInt; rw [if_neg h1, if_neg (by omega)]
theorem cInt (x y : Int) (w : World) : Calls Tryz.prog 147 #[.int .i64 x, .int .i64 y] w fun e w' => e = .returned (.int .i64 (Lib.compareInt x y)) ∧ w' = w := by
 by_cases h1 : x < y
 · rw [cI_lt h1]
   go_enter Tryz.func147, Tryz.ntmps147
   go_wp2
   go_ret
   exact ⟨rfl, rfl⟩
 · by_cases h2 : y < x
   · rw [cI_gt h2]
     go_enter Tryz.func147, Tryz.ntmps147
     go_wp2
     go_ret
     exact ⟨rfl, rfl⟩
   · rw [cI_eq h1 h2]
     go_enter Tryz.func147, Tryz.ntmps147
     go_wp2
     go_ret
     exact ⟨rfl, rfl⟩
def ordI (a b : Dq) : Int := or3 (Lib.compareInt a.due b.due) (Lib.compareInt a.kind b.kind) (Lib.compareInt a.per b.per)
theorem cI_cases (x y : Int) : (x < y ∧ Lib.compareInt x y = -1) ∨ (y < x ∧ Lib.compareInt x y = 1) ∨ (x = y ∧ Lib.compareInt x y = 0) := by
 rcases Int.lt_trichotomy x y with h | h | h
 · exact .inl ⟨h, cI_lt h⟩
 · exact .inr (.inr ⟨h, cI_eq (by omega) (by omega)⟩)
 · exact .inr (.inl ⟨h, cI_gt h⟩)
theorem or3_0 (y z : Int) : or3 0 y z = if y = 0 then z else y := rfl
theorem or3_1 {x : Int} (h : ¬ x = 0) (y z : Int) : or3 x y z = x := if_neg h
theorem ordI_neg {a b : Dq} : ordI a b < 0 ↔ aheadI a b = true := by
 unfold ordI aheadI
 rcases cI_cases a.due b.due with ⟨h1, e1⟩ | ⟨h1, e1⟩ | ⟨h1, e1⟩
 · rw [e1, or3_1 (by decide), if_pos (by omega), decide_eq_true_eq]; omega
 · rw [e1, or3_1 (by decide), if_pos (by omega), decide_eq_true_eq]; omega
 · rw [e1, or3_0, if_neg (c := a.due ≠ b.due) (by omega)]
   rcases cI_cases a.kind b.kind with ⟨h2, e2⟩ | ⟨h2, e2⟩ | ⟨h2, e2⟩
   · rw [e2, if_neg (by decide), if_pos (by omega), decide_eq_true_eq]; omega
   · rw [e2, if_neg (by decide), if_pos (by omega), decide_eq_true_eq]; omega
   · rw [e2, if_pos rfl, if_neg (by omega), decide_eq_true_eq]
     rcases cI_cases a.per b.per with ⟨h3, e3⟩ | ⟨h3, e3⟩ | ⟨h3, e3⟩ <;> rw [e3] <;> omega
theorem ordI_key {a b : Dq} (ha : okI a = true) (hb : okI b = true) : ordI a b < 0 ↔ keyI a < keyI b := by
 rw [ordI_neg, aheadI_key ha hb, decide_eq_true_eq]
theorem ordI_zero {a b : Dq} : ordI a b = 0 ↔ (a.due = b.due ∧ a.kind = b.kind ∧ a.per = b.per) := by
 unfold ordI or3
 rcases cI_cases a.due b.due with ⟨h1, e1⟩ | ⟨h1, e1⟩ | ⟨h1, e1⟩
 · rw [e1, if_neg (by decide)]; constructor <;> intro h <;> omega
 · rw [e1, if_neg (by decide)]; constructor <;> intro h <;> omega
 · rw [e1, if_pos rfl]
   rcases cI_cases a.kind b.kind with ⟨h2, e2⟩ | ⟨h2, e2⟩ | ⟨h2, e2⟩
   · rw [e2, if_neg (by decide)]; constructor <;> intro h <;> omega
   · rw [e2, if_neg (by decide)]; constructor <;> intro h <;> omega
   · rw [e2, if_pos rfl]
     rcases cI_cases a.per b.per with ⟨h3, e3⟩ | ⟨h3, e3⟩ | ⟨h3, e3⟩ <;> rw [e3] <;> constructor <;> intro h <;> omega
theorem ordI_zero_key {a b : Dq} (ha : okI a = true) (hb : okI b = true) : ordI a b = 0 ↔ keyI a = keyI b := by
 rw [ordI_zero]
 have := okI_yes ha; have := okI_yes hb
 unfold keyI
 constructor
 · rintro ⟨h1, h2, h3⟩; rw [h1, h2, h3]
 · intro h; omega
theorem order_any (a b : Dq) (w : World) : Calls Tryz.prog 103 #[itV a, itV b] w fun e w' => e = .returned (.int .i64 (ordI a b)) ∧ Lays w w' := by
 have f1 : ((w.alloc (.cells #[.int .i64 a.due, .int .i64 a.kind, .int .i64 a.per, .int .i64 a.opn] 58)).alloc (.cells #[.int .i64 b.due, .int .i64 b.kind, .int .i64 b.per, .int .i64 b.opn] 58)).heap[w.heap.size]? = some (.cells #[.int .i64 a.due, .int .i64 a.kind, .int .i64 a.per, .int .i64 a.opn] 58 (0, 0)) := blk_alloc (blk_new w _ rfl) _
 have f2 : ((w.alloc (.cells #[.int .i64 a.due, .int .i64 a.kind, .int .i64 a.per, .int .i64 a.opn] 58)).alloc (.cells #[.int .i64 b.due, .int .i64 b.kind, .int .i64 b.per, .int .i64 b.opn] 58)).heap[w.heap.size + 1]? = some (.cells #[.int .i64 b.due, .int .i64 b.kind, .int .i64 b.per, .int .i64 b.opn] 58 (0, 0)) := blk_new _ _ (by simp)
 have HL := hyd (((Lays.refl w).alloc (.cells #[.int .i64 a.due, .int .i64 a.kind, .int .i64 a.per, .int .i64 a.opn] 58)).alloc (.cells #[.int .i64 b.due, .int .i64 b.kind, .int .i64 b.per, .int .i64 b.opn] 58))
 have HO : Hid (ordI a b = or3 (Lib.compareInt a.due b.due) (Lib.compareInt a.kind b.kind) (Lib.compareInt a.per b.per)) := hyd rfl
 go_enter Tryz.func103, Tryz.ntmps103
 go_wp2_with fail
 generalize (w.alloc (.cells #[.int .i64 a.due, .int .i64 a.kind, .int .i64 a.per, .int .i64 a.opn] 58)).alloc (.cells #[.int .i64 b.due, .int .i64 b.kind, .int .i64 b.per, .int .i64 b.opn] 58) = W at *
 have c0 : W.cell? ⟨w.heap.size, 0, none⟩ = some (.int .i64 a.due) := blk_cell f1 0
 have c1 : W.cell? ⟨w.heap.size, 1, none⟩ = some (.int .i64 a.kind) := blk_cell f1 1
 have c2 : W.cell? ⟨w.heap.size, 2, none⟩ = some (.int .i64 a.per) := blk_cell f1 2
 have d0 : W.cell? ⟨w.heap.size + 1, 0, none⟩ = some (.int .i64 b.due) := blk_cell f2 0
 have d1 : W.cell? ⟨w.heap.size + 1, 1, none⟩ = some (.int .i64 b.kind) := blk_cell f2 1
 have d2 : W.cell? ⟨w.heap.size + 1, 2, none⟩ = some (.int .i64 b.per) := blk_cell f2 2
 have z2 : w.heap.size + 1 < W.heap.size := blk_lt f2
 have z1 : w.heap.size < W.heap.size := by omega
 clear f1 f2
 obtain ⟨x1, h1⟩ : ∃ x, Lib.compareInt a.due b.due = x := ⟨_, rfl⟩
 obtain ⟨x2, h2⟩ : ∃ x, Lib.compareInt a.kind b.kind = x := ⟨_, rfl⟩
 obtain ⟨x3, h3⟩ : ∃ x, Lib.compareInt a.per b.per = x := ⟨_, rfl⟩
 rw [h1, h2, h3] at HO
 have H1 : Hid (∀ w, Calls Tryz.prog 147 #[.int .i64 a.due, .int .i64 b.due] w fun e w' => e = .returned (.int .i64 x1) ∧ w' = w) := hyd (fun w => h1 ▸ cInt a.due b.due w)
 have H2 : Hid (∀ w, Calls Tryz.prog 147 #[.int .i64 a.kind, .int .i64 b.kind] w fun e w' => e = .returned (.int .i64 x2) ∧ w' = w) := hyd (fun w => h2 ▸ cInt a.kind b.kind w)
 have H3 : Hid (∀ w, Calls Tryz.prog 147 #[.int .i64 a.per, .int .i64 b.per] w fun e w' => e = .returned (.int .i64 x3) ∧ w' = w) := hyd (fun w => h3 ▸ cInt a.per b.per w)
 clear h1 h2 h3
 generalize a.due = a0 at *
 generalize a.kind = a1 at *
 generalize a.per = a2 at *
 generalize b.due = b0 at *
 generalize b.kind = b1 at *
 generalize b.per = b2 at *
 go_region_held3 (fun w' => w'.cell? ⟨w.heap.size, 0, none⟩ = some (.int .i64 a0) ∧ w'.cell? ⟨w.heap.size, 1, none⟩ = some (.int .i64 a1) ∧ w'.cell? ⟨w.heap.size, 2, none⟩ = some (.int .i64 a2) ∧ w'.cell? ⟨w.heap.size + 1, 0, none⟩ = some (.int .i64 b0) ∧ w'.cell? ⟨w.heap.size + 1, 1, none⟩ = some (.int .i64 b1) ∧ w'.cell? ⟨w.heap.size + 1, 2, none⟩ = some (.int .i64 b2))
  ((first | (with_reducible exact ⟨c0, c1, c2, d0, d1, d2⟩) | exact ⟨c0, c1, c2, d0, d1, d2⟩ | exact ⟨(World.cell?_alloc_lt _ _ _ (by simpa using z1)).trans c0, (World.cell?_alloc_lt _ _ _ (by simpa using z1)).trans c1, (World.cell?_alloc_lt _ _ _ (by simpa using z1)).trans c2, (World.cell?_alloc_lt _ _ _ (by simpa using z2)).trans d0, (World.cell?_alloc_lt _ _ _ (by simpa using z2)).trans d1, (World.cell?_alloc_lt _ _ _ (by simpa using z2)).trans d2⟩))
  ((first
    | (go_at_call 147; first | ((with_reducible refine (H1.out _).mono ?_); rintro e w' ⟨rfl, rfl⟩) | ((with_reducible refine (H2.out _).mono ?_); rintro e w' ⟨rfl, rfl⟩) | ((with_reducible refine (H3.out _).mono ?_); rintro e w' ⟨rfl, rfl⟩))
    | (go_at_call 146; refine (or3_blk W.heap.size 3 x1 x2 x3 (W.alloc (.cells #[.int .i64 x1, .int .i64 x2, .int .i64 x3] 3)).drew (blk_new W (.cells #[.int .i64 x1, .int .i64 x2, .int .i64 x3] 3) rfl)).mono ?_; rintro e w' ⟨rfl, rfl⟩)))
 all_goals go_wp2_with fail
 all_goals go_ret
 all_goals exact ⟨by rw [HO.out]; rfl, (HL.out.alloc _).drew⟩
section
open Go.RowKit Go
theorem info_it : (Tryz.prog.info? 58).map (fun i => (i.zero, i.size, i.bytes)) = some (some (.agg #[.int .i64 0, .int .i64 0, .int .i64 0, .int .i64 0]), 4, 32) := by kernel_rfl
theorem rise_uniq : ∀ {s t : List Dq}, s.Perm t → (s.Pairwise fun a b => keyI a < keyI b) → (t.Pairwise fun a b => keyI a < keyI b) → s = t
 | [], t, h, _, _ => (List.Perm.nil_eq h)
 | x :: s, [], h, _, _ => by have := h.length_eq; simp at this
 | x :: s, y :: t, h, h1, h2 => by
   rw [List.pairwise_cons] at h1 h2
   have e : x = y := by
    have hx : x ∈ y :: t := h.mem_iff.1 (by simp)
    have hy : y ∈ x :: s := h.mem_iff.2 (by simp)
    rcases List.mem_cons.1 hx with e | hx
    · exact e
    · rcases List.mem_cons.1 hy with e | hy
      · exact e.symm
      · have a := h1.1 y hy; have b := h2.1 x hx; omega
   subst e
   rw [rise_uniq (List.Perm.cons_inv h) h1.2 h2.2]
def IsOrd (its s : List Dq) : Prop := s.Perm its ∧ s.Pairwise fun a b => keyI a < keyI b
theorem IsOrd.of {its : List Dq} {d : List Int} (h : Pl its.length d) (hr : Rise its d) : IsOrd its (inOrd its d) := ⟨inOrd_perm h, hr⟩
theorem IsOrd.same {its s t : List Dq} (h : IsOrd its s) (k : IsOrd its t) : s = t := rise_uniq (h.1.trans k.1.symm) h.2 k.2
theorem IsOrd.len {its s : List Dq} (h : IsOrd its s) : s.length = its.length := h.1.length_eq
theorem maxLen_le : (1099511627776 : Nat) ≤ maxLen := by unfold maxLen; omega
theorem own_below {w w' : World} {base : Nat} {e : TypeId} {size n : Nat} {v : Value} {xs : List Value} (h : w.ownsRow base e size v n xs) (hb : Below w.heap.size w w') : w'.ownsRow base e size v n xs := by
 refine ⟨h.1, ?_⟩
 rcases h.2 with hn | ⟨g, cap, cur, e1, e2, e3, e4⟩
 · exact .inl hn
 · exact .inr ⟨g, cap, cur, e1, e2, blk_below e3 hb (blk_lt e3), e4⟩
theorem own_set {w : World} {base g cap n s i : Nat} {e : TypeId} {xs : List Value} (h : w.ownsRow base e s (.slice (some ⟨g, 0, none⟩) n cap) n xs) (hi : i < n * s) (u : Value) :
  (w.setCell ⟨g, i, none⟩ u).ownsRow base e s (.slice (some ⟨g, 0, none⟩) n cap) n (xs.set i u) := by
 refine ⟨by rw [List.length_set]; exact h.1, ?_⟩
 rcases h.2 with ⟨h1, _⟩ | ⟨g', cap', cur, h1, h2, h3, h4, h5, h6, h7⟩
 · cases h1
 · injection h1 with h1 _ h8; injection h1 with h1; injection h1 with h1 _ _; subst h1; subst h8
   refine .inr ⟨g, cap, cur.setIfInBounds i u, rfl, h2, blk_set h3 i u, h4, h5, by simpa using h6, ?_⟩
   rw [Array.toList_setIfInBounds, List.take_set, h7]
theorem own_cell {w : World} {base g cap n s i : Nat} {e : TypeId} {xs : List Value} (h : w.ownsRow base e s (.slice (some ⟨g, 0, none⟩) n cap) n xs) {u : Value} (hu : xs[i]? = some u) : w.cell? ⟨g, i, none⟩ = some u ∧ w.frozen? ⟨g, i, none⟩ = false := by
 have hc := h.cells (g := g) rfl i u hu
 have he : (⟨g, 0, none⟩ : Addr).add i = ⟨g, i, none⟩ := by unfold Addr.add; split <;> simp_all
 rw [he] at hc
 refine ⟨hc, ?_⟩
 rcases h.2 with ⟨h1, _⟩ | ⟨g', cap', cur, h1, h2, h3, _⟩
 · cases h1
 · injection h1 with h1 _ _; injection h1 with h1; injection h1 with h1 _ _; subst h1
   exact blk_free h3 i
theorem own_block_type {w : World} {base : Nat} {e : TypeId} {size n : Nat} {v : Value} {xs : List Value} (h : w.ownsRow base e size v n xs) {b : Nat} (hb : v.ownBlock = some b) : base ≤ b ∧ ∃ cs, w.heap[b]? = some (.cells cs e (0, 0)) := by
 rcases h.2 with ⟨rfl, _⟩ | ⟨g, cap, cur, rfl, e2, e3, _⟩
 · simp [Value.ownBlock] at hb
 · simp [Value.ownBlock] at hb; subst hb; exact ⟨e2, cur, e3⟩
theorem own_far {w : World} {B n s : Nat} {e : TypeId} {v : Value} {xs : List Value} (h : w.ownsRow B e s v n xs) {p : Addr} (hp : v.ownBlock ≠ some p.block) (u : Value) : (w.setCell p u).ownsRow B e s v n xs := by
 refine ⟨h.1, ?_⟩
 rcases h.2 with h2 | ⟨g, cap, cur, rfl, hb, hg, r⟩
 · exact .inl h2
 · exact .inr ⟨g, cap, cur, rfl, hb, (Below.heap_setCell w p u g (fun e => hp (by rw [← e]; rfl))).trans hg, r⟩
theorem own_drew {w : World} {B n s : Nat} {v : Value} {xs : List Value} {e : TypeId} (h : w.ownsRow B e s v n xs) : w.drew.ownsRow B e s v n xs := h
theorem own_mono {w : World} {B B' n s : Nat} {v : Value} {xs : List Value} {e : TypeId} (h : w.ownsRow B e s v n xs) (hb : B' ≤ B) : w.ownsRow B' e s v n xs :=
 ⟨h.1, h.2.imp id fun ⟨g, cap, cur, h1, h2, h3⟩ => ⟨g, cap, cur, h1, Nat.le_trans hb h2, h3⟩⟩
theorem below_drewN {B : Nat} {a w : World} (h : Below B a w) (n : Nat) : Below B a (w.drewN n) := ⟨h.os, h.tape, h.output, h.size, h.block⟩
end
end Go.Proofs.YtbjjgnaojoaoiaaGreat
