/- Laws. -/
import Derived.Test.YtbjjgnaojoaoiaaGreatZZ40
import Derived.Test.YtbjjgnaojoaoiaaGreatZZ42
import Derived.Test.YtbjjgnaojoaoiaaGreatZZT
namespace Go.Proofs.YtbjjgnaojoaoiaaGreat
open Go.RowKit Go
set_option linter.unusedVariables false
set_option linter.unusedSimpArgs false
set_option maxHeartbeats 12800000
set_option maxRecDepth 100000
theorem isP_refR (a : Int) (w : World) : Calls Tryz.prog 160 #[.int .i64 a] w fun e w' => e = .returned (.bool (okP a)) ∧ w = w' := by
 by_cases h : okP a = true
 · have h1 := okP_yes h
   have H := hyd h; clear h
   go_enter Tryz.func160, Tryz.ntmps160
   go_wp2
   go_ret
   exact ⟨ret_bool H.out.symm, rfl⟩
 · have h1 := okP_no h
   have H := hyd h; clear h
   rcases h1 with h1 | h1
   all_goals
    go_enter Tryz.func160, Tryz.ntmps160
    go_wp2
    all_goals go_ret
    all_goals have e := Bool.eq_false_iff.2 H.out
    all_goals exact ⟨ret_bool (by first | (rw [e]; done) | (rw [e]; simp; omega)), rfl⟩
theorem isR_refR (a : Int) (w : World) : Calls Tryz.prog 66 #[.int .i64 a] w fun e w' => e = .returned (.bool (okR a)) ∧ w = w' := by
 by_cases h : okR a = true
 · have h1 := okR_yes h
   have H := hyd h; clear h
   go_enter Tryz.func66, Tryz.ntmps66
   go_wp2
   go_ret
   exact ⟨ret_bool H.out.symm, rfl⟩
 · have h1 := okR_no h
   have H := hyd h; clear h
   rcases h1 with h1 | h1
   all_goals
    go_enter Tryz.func66, Tryz.ntmps66
    go_wp2
    all_goals go_ret
    all_goals have e := Bool.eq_false_iff.2 H.out
    all_goals exact ⟨ret_bool (by first | (rw [e]; done) | (rw [e]; simp; omega)), rfl⟩
theorem bill_err (s : Sch) (r : Ret) : (billS s r).2 = 0 ∨ (billS s r).2 = 1 := by
 by_cases hs : OkS s
 · by_cases hrr : retB r = true
   · rw [billS_yes hs hrr]; exact .inl rfl
   · rw [billS_no2 hrr]; exact .inr rfl
 · rw [billS_no1 hs]; exact .inr rfl
theorem bill_good {s : Sch} {r : Ret} {b : Bl} (h : billS s r = (b, 0)) : retB r = true ∧ (0 ≤ b.prin ∧ b.prin ≤ 1125899906842624) ∧ (0 ≤ b.pen ∧ b.pen ≤ b.prin) ∧ (0 ≤ b.exc ∧ b.exc ≤ 1125899906842624) := by
 by_cases hs : OkS s
 · by_cases hrr : retB r = true
   · rw [billS_yes hs hrr] at h
     have h3 := bill_bd hs hrr
     injection h with h _
     rw [h] at h3
     exact ⟨hrr, h3.2.1, h3.2.2.1, h3.2.2.2.1⟩
   · rw [billS_no2 hrr] at h; injection h with _ h; omega
 · rw [billS_no1 hs] at h; injection h with _ h; omega
theorem newPer_0 {day bp : Int} {r : Ret} {b : Bl} (hb : 0 ≤ bp ∧ bp ≤ 100000) (hr : retB r = true) (hp : 0 ≤ b.prin ∧ b.prin ≤ 1125899906842624) (hq : 0 ≤ b.pen ∧ b.pen ≤ b.prin) : ∃ d0, d0 ≤ day ∧ PerOk d0 bp (newPer r b) := by
 have hd := dayB_yes (retB_yes hr).2.1
 have key : ∀ d0, d0 ≤ r.due → PerOk d0 bp (newPer r b) := fun d0 h0 => by
  refine ⟨hr, ⟨hq.1, by show b.pen ≤ _; omega⟩, ⟨Int.le_refl _, by show (0 : Int) ≤ _; decide⟩, ⟨hp.1, by show b.prin ≤ _; omega⟩, ⟨Int.le_refl _, hd.2⟩, .inl rfl, ⟨Int.le_refl _, by show (0 : Int) ≤ _; decide⟩, ⟨Int.le_refl _, by show (0 : Int) ≤ _; decide⟩, fun hle => ?_, fun _ => ⟨rfl, rfl⟩⟩
  have e : d0 = r.due := by have h : r.due ≤ d0 := hle; omega
  subst e
  unfold interestS
  have h1 : (newPer r b).since = r.due := rfl
  rw [h1, if_neg (by omega), Int.sub_self, simple_zero (p := (newPer r b).o2) ⟨hp.1, by show b.prin ≤ _; omega⟩ hb]
  rfl
 by_cases h : day ≤ r.due
 · exact ⟨day, Int.le_refl _, key day h⟩
 · exact ⟨r.due, by omega, key _ (Int.le_refl _)⟩
theorem insP_at {ps : List Per} {i : Nat} {p : Per} (h : i ≤ ps.length) : (insP ps i p)[i]'(by simp [insP]; omega) = p := by
 unfold insP
 rw [List.getElem_append_right (by simp; omega)]
 simp [List.length_take, Nat.min_eq_left h]
theorem insP_set {ps : List Per} {i : Nat} {p q : Per} (h : i ≤ ps.length) : (insP ps i p).set i q = insP ps i q := by
 unfold insP
 rw [List.set_append_right _ _ (by simp; omega)]
 simp [List.length_take, Nat.min_eq_left h]
theorem perRCs_ins (bp : Int) (ps : List Per) (i : Nat) (p : Per) : perRCs bp (insP ps i p) = (perRCs bp (ps.take i) ++ perRC bp p) ++ perRCs bp (ps.drop i) := by
 unfold insP
 rw [perRCs_app, show p :: ps.drop i = [p] ++ ps.drop i from rfl, perRCs_app]
 simp [perRCs]
theorem file1_take {S : Ac} {r : Ret} {b : Bl} (hcr : 0 ≤ S.cr ∧ S.cr ≤ 4611686018427387904) (hex : 0 ≤ b.exc ∧ b.exc ≤ 1125899906842624) {se more : Int} {q : Per} (hs : settleS S.day S.bp (newPer r b) = (se, more, q)) :
  file1 S r b = takeS S { S with ps := insP S.ps (aheadP r.per S.ps) q, cr := S.cr + b.exc } ⟨b.pen, more, b.prin, 0, b.exc, 0⟩ se := by
 unfold file1
 rw [hs]
 simp only
 by_cases h0 : se ≠ 0
 · rw [if_pos h0]; unfold takeS; rw [if_pos h0]
 · have h0' : se = 0 := by omega
   subst h0'
   rw [if_neg h0, add_pos hcr (by omega)]
   by_cases h1 : S.cr + b.exc ≤ 4611686018427387904
   · rw [if_pos h1, if_neg (by simp), takeS_ok (by exact h1)]
   · rw [if_neg h1, if_pos (by simp), takeS_over (by exact h1)]
theorem new_refR (p bp d : Int) (w : World) (hp : okP p = true) (hb : okR bp = true) (hd : okD d = true) : Calls Tryz.prog 121 #[.int .i64 p, .int .i64 bp, .int .i64 d] w fun e w' => ∃ gr, e = .returned (.tuple #[.pointer (some ⟨gr, 0, none⟩), .int .i64 0]) ∧ w.heap.size ≤ gr ∧ w'.heap[gr]? = some (.cells #[.int .i64 p, .int .i64 bp, .int .i64 d, .int .i64 0] 167 (0, 0)) ∧ Below w.heap.size w w' := by
 go_enter Tryz.func121, Tryz.ntmps121
 go_wp2_with fail
 refine (isP_refR p _).mono ?_; rintro e w' ⟨rfl, rfl⟩
 rw [hp]
 go_wp2_with fail
 refine (isR_refR bp _).mono ?_; rintro e w' ⟨rfl, rfl⟩
 rw [hb]
 go_wp2_with fail
 refine (isDay_refR d _).mono ?_; rintro e w' ⟨rfl, rfl⟩
 rw [hd]
 go_wp2_with fail
 go_ret2
 exact ⟨_, rfl, Nat.le_refl _, blk_new _ _ rfl, bnewU _ _⟩
section
def rawK (m0 m2 : Int) (p : Per) : Nat → Int × Mv × Per
 | 0 => (0, Mv.zero, p)
 | k + 1 => if (rawK m0 m2 p k).1 ≠ 0 then (2, Mv.zero, p) else
     if 4611686018427387904 < (rawK m0 m2 p k).2.2.opn (k : Int) + moreK m0 m2 k then (2, Mv.zero, p) else
     (0, (rawK m0 m2 p k).2.1.putK k (max 0 ((rawK m0 m2 p k).2.2.opn (k : Int) + moreK m0 m2 k) - (rawK m0 m2 p k).2.2.opn (k : Int)) (max 0 (-((rawK m0 m2 p k).2.2.opn (k : Int) + moreK m0 m2 k))),
       (rawK m0 m2 p k).2.2.putO (k : Int) (max 0 ((rawK m0 m2 p k).2.2.opn (k : Int) + moreK m0 m2 k)))
theorem rawK_err {m0 m2 : Int} {p : Per} {k : Nat} (h : (rawK m0 m2 p k).1 ≠ 0) : ∀ n, (rawK m0 m2 p (k + n)).1 ≠ 0
 | 0 => h
 | n + 1 => by
   have ih := rawK_err h n
   rw [← Nat.add_assoc, rawK, if_pos ih]
   exact (by decide : (2 : Int) ≠ 0)
theorem add_raw {o x : Int} (ho : 0 ≤ o ∧ o ≤ 4611686018427387904) (hx : -4611686018427387904 ≤ x ∧ x ≤ 4611686018427387904) (hs : 0 ≤ o + x) : addS o x = if o + x ≤ 4611686018427387904 then (o + x, 0) else (0, 2) := by
 rw [addS, if_pos (by simp [amt]; omega)]
 unfold told
 by_cases hc : o + x ≤ 4611686018427387904
 · rw [if_pos (by simp [amt]; omega), if_pos hc]
 · rw [if_neg (by simp [amt]; omega), if_neg hc]
theorem amd1_raw {day k more : Int} {p : Per} (hb : 0 ≤ p.opn k ∧ p.opn k ≤ 4611686018427387904) (hm : -2251799813685248 ≤ more ∧ more ≤ 2251799813685248) :
  amd1 day k more p = if 4611686018427387904 < p.opn k + more then (2, 0, 0, p) else (0, max 0 (p.opn k + more) - p.opn k, max 0 (-(p.opn k + more)), Per.setO day p k (max 0 (p.opn k + more))) := by
 unfold amd1
 rw [add_raw hb (x := max more (-p.opn k)) (by omega) (by omega)]
 have e : p.opn k + max more (-p.opn k) = max 0 (p.opn k + more) := by omega
 rw [e]
 by_cases h : 4611686018427387904 < p.opn k + more
 · rw [if_pos h, if_neg (by omega : ¬ max 0 (p.opn k + more) ≤ 4611686018427387904), if_pos (by simp)]
 · rw [if_neg h, if_pos (by omega : max 0 (p.opn k + more) ≤ 4611686018427387904), if_neg (by simp)]
   have e2 : max 0 (-more - p.opn k) = max 0 (-(p.opn k + more)) := by omega
   rw [e2]
structure RawOk (p : Per) (k : Nat) (r : Int × Mv × Per) : Prop where
 b0 : 0 ≤ r.2.2.o0 ∧ r.2.2.o0 ≤ 4611686018427387904
 b1 : 0 ≤ r.2.2.o1 ∧ r.2.2.o1 ≤ 4611686018427387904
 b2 : 0 ≤ r.2.2.o2 ∧ r.2.2.o2 ≤ 4611686018427387904
 ret : r.2.2.ret = p.ret
 since : r.2.2.since = p.since
 done : r.2.2.done = p.done
 acc : r.2.2.acc = p.acc
 cr : 0 ≤ r.2.1.cr ∧ r.2.1.cr ≤ (k : Int) * 2251799813685248
 e2 : k ≤ 2 → r.2.2.o2 = p.o2
theorem raw_opn {p : Per} {k : Nat} {r : Int × Mv × Per} (h : RawOk p k r) {j : Nat} : 0 ≤ r.2.2.opn (j : Int) ∧ r.2.2.opn (j : Int) ≤ 4611686018427387904 := by
 unfold Per.opn
 split
 · exact h.b0
 · split
   · exact h.b1
   · exact h.b2
theorem moreK_bd {m0 m2 : Int} (h0 : -2251799813685248 ≤ m0 ∧ m0 ≤ 2251799813685248) (h2 : -2251799813685248 ≤ m2 ∧ m2 ≤ 2251799813685248) (k : Nat) : -2251799813685248 ≤ moreK m0 m2 k ∧ moreK m0 m2 k ≤ 2251799813685248 := by
 unfold moreK; split
 · omega
 · split <;> omega
theorem rawK_step {m0 m2 : Int} {p : Per} {k : Nat} {m : Mv} {q : Per} (h : rawK m0 m2 p k = (0, m, q)) (h1 : ¬ 4611686018427387904 < q.opn (k : Int) + moreK m0 m2 k) :
  rawK m0 m2 p (k + 1) = (0, m.putK k (max 0 (q.opn (k : Int) + moreK m0 m2 k) - q.opn (k : Int)) (max 0 (-(q.opn (k : Int) + moreK m0 m2 k))), q.putO (k : Int) (max 0 (q.opn (k : Int) + moreK m0 m2 k))) := by
 rw [rawK, h, if_neg (by simp)]
 simp only
 rw [if_neg h1]
theorem rawK_over {m0 m2 : Int} {p : Per} {k : Nat} {m : Mv} {q : Per} (h : rawK m0 m2 p k = (0, m, q)) (h1 : 4611686018427387904 < q.opn (k : Int) + moreK m0 m2 k) (hk : k < 3) : (rawK m0 m2 p 3).1 ≠ 0 := by
 have h2 : (rawK m0 m2 p (k + 1)).1 ≠ 0 := by
  rw [rawK, h, if_neg (by simp)]
  simp only
  rw [if_pos h1]
  exact (by decide : (2 : Int) ≠ 0)
 have h3 := rawK_err h2 (2 - k)
 rw [show k + 1 + (2 - k) = 3 by omega] at h3
 exact h3
theorem rawK_ok {m0 m2 : Int} {p : Per} (hb0 : 0 ≤ p.o0 ∧ p.o0 ≤ 4611686018427387904) (hb1 : 0 ≤ p.o1 ∧ p.o1 ≤ 4611686018427387904) (hb2 : 0 ≤ p.o2 ∧ p.o2 ≤ 4611686018427387904)
  (h0 : -2251799813685248 ≤ m0 ∧ m0 ≤ 2251799813685248) (h2 : -2251799813685248 ≤ m2 ∧ m2 ≤ 2251799813685248) : ∀ k, k ≤ 3 → (rawK m0 m2 p k).1 = 0 → RawOk p k (rawK m0 m2 p k)
 | 0, _, _ => ⟨hb0, hb1, hb2, rfl, rfl, rfl, rfl, ⟨Int.le_refl _, by show (0 : Int) ≤ 0 * _; omega⟩, fun _ => rfl⟩
 | k + 1, hk, he => by
   by_cases g0 : (rawK m0 m2 p k).1 ≠ 0
   · rw [rawK, if_pos g0] at he; simp at he
   · have g0' : (rawK m0 m2 p k).1 = 0 := by omega
     have ih := rawK_ok hb0 hb1 hb2 h0 h2 k (by omega) g0'
     obtain ⟨e, m, q, hr⟩ : ∃ e m q, rawK m0 m2 p k = (e, m, q) := ⟨_, _, _, rfl⟩
     rw [hr] at ih g0'
     simp only at g0'
     subst g0'
     by_cases g1 : 4611686018427387904 < q.opn (k : Int) + moreK m0 m2 k
     · rw [rawK, hr, if_neg (by simp)] at he
       simp only at he
       rw [if_pos g1] at he; simp at he
     · rw [rawK_step hr g1]
       have ho := raw_opn ih (j := k)
       have hmo := moreK_bd h0 h2 k
       simp only at ho
       obtain ⟨i0, i1, i2, i3, i4, i5, i6, i7, i8⟩ := ih
       simp only at i0 i1 i2 i3 i4 i5 i6 i7 i8
       generalize q.opn (k : Int) = o at *
       generalize moreK m0 m2 k = mo at *
       rcases (show k = 0 ∨ k = 1 ∨ k = 2 by omega) with rfl | rfl | rfl
       · refine ⟨?_, ?_, ?_, ?_, ?_, ?_, ?_, ?_, fun h => ?_⟩ <;> simp [Per.putO, Mv.putK] at * <;> first | assumption | omega
       · refine ⟨?_, ?_, ?_, ?_, ?_, ?_, ?_, ?_, fun h => ?_⟩ <;> simp [Per.putO, Mv.putK] at * <;> first | assumption | omega
       · refine ⟨?_, ?_, ?_, ?_, ?_, ?_, ?_, ?_, fun h => ?_⟩ <;> simp [Per.putO, Mv.putK] at * <;> first | assumption | omega
theorem opn_with (q : Per) (r : Ret) (k : Int) : (q.with_ r).opn k = q.opn k := rfl
theorem putO_with (q : Per) (r : Ret) (k v : Int) : (q.with_ r).putO k v = (q.putO k v).with_ r := by
 unfold Per.putO Per.with_
 split
 · rfl
 · split <;> rfl
theorem rawK_with {m0 m2 : Int} {p : Per} (r : Ret) : ∀ k, rawK m0 m2 (p.with_ r) k = ((rawK m0 m2 p k).1, (rawK m0 m2 p k).2.1, (rawK m0 m2 p k).2.2.with_ r)
 | 0 => rfl
 | k + 1 => by
   have ih := rawK_with (m0 := m0) (m2 := m2) (p := p) r k
   rw [rawK, rawK, ih]
   simp only [opn_with, putO_with]
   split
   · rfl
   · split <;> rfl
theorem amdK_raw {day m0 m2 : Int} {p : Per} (hb0 : 0 ≤ p.o0 ∧ p.o0 ≤ 4611686018427387904) (hb1 : 0 ≤ p.o1 ∧ p.o1 ≤ 4611686018427387904) (hb2 : 0 ≤ p.o2 ∧ p.o2 ≤ 4611686018427387904)
  (h0 : -2251799813685248 ≤ m0 ∧ m0 ≤ 2251799813685248) (h2 : -2251799813685248 ≤ m2 ∧ m2 ≤ 2251799813685248) : ∀ k, k ≤ 2 → amdK day m0 m2 p k = rawK m0 m2 p k
 | 0, _ => rfl
 | k + 1, hk => by
   have ih := amdK_raw hb0 hb1 hb2 h0 h2 (day := day) k (by omega)
   rw [amdK, rawK, ih]
   by_cases g0 : (rawK m0 m2 p k).1 ≠ 0
   · rw [if_pos g0, if_pos g0]
   · have hok := rawK_ok hb0 hb1 hb2 h0 h2 k (by omega) (by omega)
     rw [if_neg g0, if_neg g0, amd1_raw (raw_opn hok) (moreK_bd h0 h2 k)]
     by_cases g1 : 4611686018427387904 < (rawK m0 m2 p k).2.2.opn (k : Int) + moreK m0 m2 k
     · rw [if_pos g1, if_pos g1, if_pos (by simp)]
     · rw [if_neg g1, if_neg g1, if_neg (by simp)]
       have e : ∀ (q : Per) (v : Int), Per.setO day q (k : Int) v = q.putO (k : Int) v := fun q v => by
        unfold Per.setO; rw [if_neg (by omega)]
       simp only [e]
theorem amd3_raw {day m0 m2 : Int} {p : Per} (hb0 : 0 ≤ p.o0 ∧ p.o0 ≤ 4611686018427387904) (hb1 : 0 ≤ p.o1 ∧ p.o1 ≤ 4611686018427387904) (hb2 : 0 ≤ p.o2 ∧ p.o2 ≤ 4611686018427387904)
  (h0 : -2251799813685248 ≤ m0 ∧ m0 ≤ 2251799813685248) (h2 : -2251799813685248 ≤ m2 ∧ m2 ≤ 2251799813685248) :
  amd3 day m0 m2 p = if (rawK m0 m2 p 3).1 ≠ 0 then (2, Mv.zero, p) else (0, (rawK m0 m2 p 3).2.1, prinP day (rawK m0 m2 p 3).2.2 p.o2) := by
 unfold amd3
 rw [amdK, rawK, amdK_raw hb0 hb1 hb2 h0 h2 2 (Nat.le_refl _)]
 by_cases g0 : (rawK m0 m2 p 2).1 ≠ 0
 · rw [if_pos g0, if_pos g0]; simp
 · have hok := rawK_ok hb0 hb1 hb2 h0 h2 2 (by omega) (by omega)
   rw [if_neg g0, if_neg g0, amd1_raw (raw_opn hok) (moreK_bd h0 h2 2)]
   by_cases g1 : 4611686018427387904 < (rawK m0 m2 p 2).2.2.opn ((2 : Nat) : Int) + moreK m0 m2 2
   · rw [if_pos g1, if_pos g1, if_pos (by simp)]; simp
   · rw [if_neg g1, if_neg g1, if_neg (by simp)]
     simp only
     rw [if_neg (by simp), ← hok.e2 (Nat.le_refl _), prinP_setO (by omega)]
theorem change_err0 (s : Sch) (p : Ret) (inc wh : Int) : (changeS s p (p.other2 inc wh)).2 = 0 ∨ (changeS s p (p.other2 inc wh)).2 = 1 := by
 by_cases h1 : okS s = true ∧ retB p = true
 · by_cases h2 : retB (p.other2 inc wh) = true
   · exact .inl (by rw [change_yes h1.1 h1.2 h2 (by simp [Ret.other2])])
   · exact .inr (by rw [change_no2 h2])
 · exact .inr (by rw [change_no1 h1])
theorem amend1_take {S : Ac} {s : Sch} {i : Nat} {p : Per} {inc wh : Int} {ch : Bl} (hcr : 0 ≤ S.cr ∧ S.cr ≤ 4611686018427387904) (hp : PerOk S.day S.bp p) (hc : changeS s p.ret (p.ret.other2 inc wh) = (ch, 0)) {e : Int} {m : Mv} {q : Per} (hr : rawK ch.pen (ch.prin - ch.exc) p 3 = (e, m, q)) :
  amend1 S s i p inc wh = if e ≠ 0 then (S, Mv.zero, 2) else takeS S { S with ps := S.ps.set i (prinP S.day (q.with_ (p.ret.other2 inc wh)) p.o2), cr := S.cr + m.cr } m 0 := by
 have hch := change_ok (s := s) (p := p.ret) (inc := inc) (wh := wh) (by rw [hc])
 rw [hc] at hch
 simp only at hch
 obtain ⟨_, _, h3, h4, h5, h6⟩ := hch
 have a0 : -2251799813685248 ≤ ch.pen ∧ ch.pen ≤ 2251799813685248 := by omega
 have a2 : -2251799813685248 ≤ ch.prin - ch.exc ∧ ch.prin - ch.exc ≤ 2251799813685248 := by omega
 have h7 := amd3_raw (day := S.day) (p := p.with_ (p.ret.other2 inc wh)) hp.b0 hp.b1 hp.b2 a0 a2
 rw [rawK_with, hr] at h7
 simp only at h7
 unfold amend1
 rw [hc, if_neg (by simp)]
 simp only
 rw [h7]
 by_cases g0 : e ≠ 0
 · rw [if_pos g0, if_pos g0, if_pos (by simp)]
 · rw [if_neg g0, if_neg g0, if_neg (by simp)]
   simp only
   have hok := rawK_ok hp.b0 hp.b1 hp.b2 a0 a2 3 (Nat.le_refl _) (by rw [hr]; show e = 0; omega)
   rw [hr] at hok
   have hmc := hok.cr
   simp only at hmc
   rw [add_pos hcr (by omega)]
   by_cases h1 : S.cr + m.cr ≤ 4611686018427387904
   · rw [if_pos h1, if_neg (by simp), takeS_ok (by exact h1)]; rfl
   · rw [if_neg h1, if_pos (by simp), takeS_over (by exact h1)]
end
theorem rtake_end3 (g gb gm : Nat) (S S' : Ac) (m : Mv) (er : Int) (w X Y : World) (h : RefAt X 0 g S) (hX : Below w.heap.size w X) (hY : Below X.heap.size X Y) (hgm : w.heap.size ≤ gm) (hm : X.heap[gm]? = some mvZ0) (hb : er = 0 → RefAt Y 0 gb S' ∧ S'.bp = S.bp ∧ S'.ps.length ≤ 1000 ∧ LowP S'.ps) (hne : g ≠ gb) (hgg : g < w.heap.size) :
  Calls Tryz.prog 123 #[.pointer (some ⟨g, 0, none⟩), .pointer (some ⟨gb, 0, none⟩), mvV m, .int .i64 er] Y fun e w' => ∃ m' er', e = .returned (mvR m' er') ∧ (∃ x0 x1 x2 x3 x4 x5, w'.heap[gm]? = some (.cells #[x0, x1, x2, x3, x4, x5] 33 (0, 0))) ∧ RDoesOf w g S (takeS S S' m er) (.returned (mvR m' er')) (put6 w' gm m') ∧ (put6 w' gm m').heap[gm]? = some (.cells #[.int .i64 m'.c0, .int .i64 m'.c1, .int .i64 m'.c2, .int .i64 m'.paid, .int .i64 m'.cr, .int .i64 m'.cash] 33 (0, 0)) ∧ ∀ (k : Nat) (o : Obj), Y.heap[k]? = some o → k ≠ g → w'.heap[k]? = some o := by
 have hT := rtake_any g gb S S' m er Y (h.below hY) hb hne
 refine hT.mono ?_
 intro e w' hd
 obtain ⟨m', er', rfl⟩ := hd.form
 have hm1 := rmove_keeps hd (blk_below hm hY (blk_lt hm)) (by omega)
 exact ⟨m', er', rfl, ⟨_, _, _, _, _, _, hm1⟩, hd.wrap (hX.trans (hY.mono hX.size)) hm1 hgm, put6_at hm1 m', fun k o hk hne => rmove_keeps hd hk hne⟩
theorem rsum_enter (u : Value) (w : World) : (callFunc 129 #[u]).run Tryz.prog w = .ok (.enter 129 #[u]) w := by kernel_rfl
theorem rev_is {S : Ac} (hG : Good S) {i : Nat} (hi : i < S.ms.length) (hc : ¬ S.cr < S.ms[i].rest) : ∃ ps er, ((giveS S.day 1 S.ps S.ms[i].parts = some ps ∧ er = 0) ∨ (giveS S.day 1 S.ps S.ms[i].parts = none ∧ er = (2 : Int))) ∧ (er = 0 → (∀ p ∈ ps, PerOk S.day S.bp p) ∧ ps.length = S.ps.length) ∧
  reverse1 S i S.ms[i] = takeS S { S with ps := ps, cr := S.cr - S.ms[i].rest, ms := S.ms.set i S.ms[i].back } ⟨0, 0, 0, S.ms[i].rest - S.ms[i].amt, -S.ms[i].rest, -S.ms[i].amt⟩ er := by
 have hm := hG.pm _ (List.getElem_mem hi)
 cases hg : giveS S.day 1 S.ps S.ms[i].parts with
 | some ps =>
   obtain ⟨q1, q2, q3⟩ := giveS_ok hG.day hG.bp _ hG.rise hG.per (fun x hx => (hm.placed x hx).1) (fun y hy => by have := (hm.placed y hy).2.2; omega) (.inl rfl) hg
   refine ⟨ps, 0, .inl ⟨rfl, rfl⟩, fun _ => ⟨q1, ret_len q3⟩, ?_⟩
   have h1 := hG.cr; have h2 := hm.rest
   rw [takeS_ok (by show S.cr - S.ms[i].rest ≤ 4611686018427387904; omega)]
   unfold reverse1; rw [hg]
 | none =>
   refine ⟨S.ps, 2, .inr ⟨rfl, rfl⟩, fun h => by omega, ?_⟩
   unfold reverse1 takeS; rw [hg, if_pos (by decide)]
theorem pm_sums {ps : List Per} {m : Pm} (h : PmOk ps m) : ∀ k, k ≤ m.parts.length → 0 ≤ opens (m.parts.take k) ∧ opens (m.parts.take k) ≤ 4611686018427387904 := fun k hk => by
 have hnn : ∀ y ∈ m.parts, 0 ≤ y.opn := fun y hy => by have := (h.placed y hy).2.2; omega
 have h1 := opens_nn (l := m.parts.take k) (fun y hy => hnn y (List.mem_of_mem_take hy))
 have h2 := opens_nn (l := m.parts.drop k) (fun y hy => hnn y (List.mem_of_mem_drop hy))
 have h3 : opens m.parts = opens (m.parts.take k) + opens (m.parts.drop k) := by rw [← opens_app, List.take_append_drop]
 have h4 := h.sum; have h5 := h.rest; have h6 := h.amt
 omega
theorem rreverse_any (g : Nat) (S : Ac) (id : Int) (w : World) (h : RefAt w 0 g S) (hG : Good S) :
  Calls Tryz.prog 70 #[.pointer (some ⟨g, 0, none⟩), .int .i64 id] w (RDoesOf w g S (reverseS S id)) := by
 have HV := hyd h
 have hgl := h.lt
 have hb0 : Below w.heap.size w (w.alloc mvZ0) := bnewU _ _
 have HB0 := hyd hb0; have HM0 := hyd (blk_new w mvZ0 rfl)
 have HVX := hyd (h.below hb0)
 have hcr := hG.cr
 have HG := hyd hG
 have HEG : Hid (∀ er : Int, er ≠ 0 → ∀ X : World, Below w.heap.size w X → RDoesOf w g S (S, Mv.zero, er) (.returned (mvR Mv.zero er)) (put6 X w.heap.size Mv.zero)) := hyd (fun er he X hb => take_bad (S' := S) (m := Mv.zero) (gm := w.heap.size) HV.out hb (Nat.le_refl _) he)
 have HPM := hyd (rpayment_any g 0 S id (w.alloc mvZ0) HVX.out (by have := HG.out.nm; omega))
 clear h hb0 hG
 by_cases h0 : S.pay id < 0
 · have HO : Hid (reverseS S id = (S, Mv.zero, 4)) := hyd (by unfold reverseS; rw [if_pos h0])
   rw [HO.out]
   have hd : decide (S.pay id < 0) = true := by simpa using h0
   clear h0
   go_enter Tryz.func70, Tryz.ntmps70
   go_upto_region 1 with fail
   generalize w.alloc mvZ0 = X at *
   obtain ⟨z0, z1, z2, z3, z4, z5, z6⟩ := cells6U HM0.out
   have hmx := blk_lt HM0.out
   have HE := hyd (HEG.out 4 (by decide) X HB0.out)
   have HM := hyd (put6_at HM0.out Mv.zero)
   go_wp2_with fail
   refine HPM.out.mono ?_; rintro e w' ⟨rfl, rfl⟩
   go_wp2_with fail
   exact mv_ret Mv.zero 4 w.heap.size rfl rfl rfl HM.out HE.out
 · obtain ⟨i, hi, e1, e2, e3⟩ := pay_at h0
   have hmo := HG.out.pm _ (List.getElem_mem hi)
   have hrevis := fun hc => rev_is HG.out hi hc
   have hfac := reverse_factsR HG.out hi
   have hmap : ∀ qs : List PmE, qs.map PmE.p = S.ms → ∀ hq : i < qs.length, qs[i].p = S.ms[i]'hi := fun qs hm hq => by simp only [← hm, List.getElem_map]
   obtain ⟨m, hme⟩ : ∃ m, S.ms[i]'hi = m := ⟨_, rfl⟩
   rw [hme] at e2 e3 hmo
   simp only [hme] at hrevis hmap hfac
   have hO : reverseS S id = if m.rev = true then (S, Mv.zero, 5) else if S.cr < m.rest then (S, Mv.zero, 2) else reverse1 S i m := by
    unfold reverseS; rw [if_neg h0, e3, e1, Int.toNat_natCast]
   rw [e1] at HPM
   have hd : decide ((i : Int) < 0) = false := by simp
   have i1 : (0 : Int) ≤ (i : Int) := by omega
   obtain ⟨nm, hnm⟩ : ∃ nm, S.ms.length = nm := ⟨_, rfl⟩
   have HNM := hyd hnm
   have i2 : (i : Int) < (nm : Int) := by omega
   have HPA : Hid (∀ (W : World) (B gg : Nat) (vp vq : Value) (qs : List PmE) (S2 : Ac), S2.ms = S.ms → RefW W B gg S2 vp vq qs → qs.map PmE.p = S.ms → ∃ gq cap, ∃ hq : i < qs.length, vq = .slice (some ⟨gq, 0, none⟩) nm cap ∧ B ≤ gq ∧ qs[i].p = m ∧ PartsAt W qs[i].v m.parts ∧ W.cell? ⟨gq, i * 6, none⟩ = some (.int .i64 m.id) ∧ W.cell? ⟨gq, i * 6 + 1, none⟩ = some (.int .i64 m.day) ∧ W.cell? ⟨gq, i * 6 + 2, none⟩ = some (.int .i64 m.amt) ∧ W.cell? ⟨gq, i * 6 + 3, none⟩ = some qs[i].v ∧ W.cell? ⟨gq, i * 6 + 4, none⟩ = some (.int .i64 m.rest) ∧ W.cell? ⟨gq, i * 6 + 5, none⟩ = some (.bool m.rev) ∧ (∀ j, W.frozen? ⟨gq, j, none⟩ = false) ∧ gq < W.heap.size) := hyd (fun W B gg vp vq qs S2 hS hw hm => by
    have hql : qs.length = S.ms.length := by rw [← hm, List.length_map]
    have hrow := hw.hq
    rw [hS] at hrow
    obtain ⟨gq, cap, rfl, hb, hlt⟩ := hrow.form (by omega)
    have hq : i < qs.length := by omega
    have hp : qs[i].p = m := hmap qs hm hq
    have key : ∀ j u, j < 6 → (pmC qs[i])[j]? = some u → W.cell? ⟨gq, i * 6 + j, none⟩ = some u := fun j u hj hu => (own_cell hrow ((pmCs_at hq hj).trans hu)).1
    have k0 := key 0 _ (by omega) rfl; have k1 := key 1 _ (by omega) rfl; have k2 := key 2 _ (by omega) rfl; have k3 := key 3 _ (by omega) rfl; have k4 := key 4 _ (by omega) rfl; have k5 := key 5 _ (by omega) rfl
    rw [hp] at k0 k1 k2 k4 k5
    have hpt := hw.parts _ (List.getElem_mem hq)
    rw [hp] at hpt
    exact ⟨gq, cap, hq, by rw [hnm], hb, hp, hpt, k0, k1, k2, k3, k4, k5, fun j => by obtain ⟨_, cs, hcs⟩ := own_block_type hrow (b := gq) rfl; exact blk_free hcs j, hlt⟩)
   have hrest := hmo.rest; have hsum := hmo.sum; have hamt := hmo.amt; have hpl := hmo.len
   have hro : m.rest ≤ 1125899906842624 := by
    have := opens_nn (l := m.parts) (fun x hx => by have := (hmo.placed x hx).2.2; omega)
    omega
   have HSUM := hyd (pm_sums hmo)
   have HII := hyd hi
   by_cases hrv : m.rev = true
   · rw [hO.trans (if_pos hrv)]
     clear h0 e1 e2 e3 hO hmo hnm
     go_enter Tryz.func70, Tryz.ntmps70
     go_upto_region 1 with fail
     generalize w.alloc mvZ0 = X at *
     obtain ⟨vp, vq, qs, hv⟩ := HVX.out
     obtain ⟨gq, cap, hq, rfl, _, _, _, k0, k1, k2, k3, k4, k5, kf, hgq⟩ := HPA.out X 0 g vp vq qs S rfl ⟨hv.hg, hv.hq, hv.parts⟩ hv.hm
     rw [hrv] at k5
     obtain ⟨a0, a1, a2, a3, a4, a5⟩ := cells5U hv.hg
     obtain ⟨z0, z1, z2, z3, z4, z5, z6⟩ := cells6U HM0.out
     have hmx := blk_lt HM0.out; have hgx := blk_lt hv.hg
     have HE := hyd (HEG.out 5 (by decide) X HB0.out)
     have HM := hyd (put6_at HM0.out Mv.zero)
     clear hv
     go_wp2_with fail
     refine HPM.out.mono ?_; rintro e w' ⟨rfl, rfl⟩
     go_wp2_with fail
     exact mv_ret Mv.zero 5 w.heap.size rfl rfl rfl HM.out HE.out
   rw [hO.trans (if_neg hrv)]
   have hrv' : m.rev = false := by simpa using hrv
   by_cases hc : S.cr < m.rest
   · rw [if_pos hc]
     have t3 : decide (m.rest > S.cr) = true := by simpa using hc
     clear h0 e1 e2 e3 hO hmo hnm hrv hc
     go_enter Tryz.func70, Tryz.ntmps70
     go_upto_region 1 with fail
     generalize w.alloc mvZ0 = X at *
     obtain ⟨vp, vq, qs, hv⟩ := HVX.out
     obtain ⟨gq, cap, hq, rfl, _, _, _, k0, k1, k2, k3, k4, k5, kf, hgq⟩ := HPA.out X 0 g vp vq qs S rfl ⟨hv.hg, hv.hq, hv.parts⟩ hv.hm
     rw [hrv'] at k5
     obtain ⟨a0, a1, a2, a3, a4, a5⟩ := cells5U hv.hg
     obtain ⟨z0, z1, z2, z3, z4, z5, z6⟩ := cells6U HM0.out
     have hmx := blk_lt HM0.out; have hgx := blk_lt hv.hg
     clear hv
     go_wp2_with fail
     refine HPM.out.mono ?_; rintro e w' ⟨rfl, rfl⟩
     go_wp2_with fail
     go_region
     have hb1 : Below w.heap.size w X.drew := HB0.out.drew
     have hm1 : X.drew.heap[w.heap.size]? = some mvZ0 := HM0.out
     clear z0 z1 z2 z3 z4 z5 z6 hmx k0 k1 k2 k3 k4 k5 kf hgq a0 a1 a2 a3 a4 a5 hgx HPM HPA
     go_upto_region 7 with fail
     generalize X.drew = X1 at *
     obtain ⟨z0, z1, z2, z3, z4, z5, z6⟩ := cells6U hm1
     have hmx := blk_lt hm1
     have HE := hyd (HEG.out 2 (by decide) X1 hb1)
     have HM := hyd (put6_at hm1 Mv.zero)
     go_wp2_with fail
     exact mv_ret Mv.zero 2 w.heap.size rfl rfl rfl HM.out HE.out
   · rw [if_neg hc]
     have t3 : decide (m.rest > S.cr) = false := by simpa using hc
     obtain ⟨ps, er, hgc, hpok, hrev⟩ := hrevis hc
     rw [hrev]
     have HGC := hyd hgc; have HPOK := hyd hpok
     have w1' : IntKind.i64.wrap (S.cr - m.rest) = S.cr - m.rest := IntWalk.i64_in _ (by omega)
     have w2' : IntKind.i64.wrap (-opens m.parts) = m.rest - m.amt := by rw [show -opens m.parts = m.rest - m.amt by omega]; exact IntWalk.i64_in _ (by omega)
     have w3' : IntKind.i64.wrap (-m.rest) = -m.rest := IntWalk.i64_in _ (by omega)
     have w4' : IntKind.i64.wrap (-m.amt) = -m.amt := IntWalk.i64_in _ (by omega)
     clear h0 e1 e2 e3 hO hmo hnm hrv hc hgc hpok hrev
     go_enter Tryz.func70, Tryz.ntmps70
     go_upto_region 1 with fail
     generalize w.alloc mvZ0 = X at *
     obtain ⟨vp, vq, qs, hv⟩ := HVX.out
     obtain ⟨gq, cap, hq, rfl, _, _, _, k0, k1, k2, k3, k4, k5, kf, hgq⟩ := HPA.out X 0 g vp vq qs S rfl ⟨hv.hg, hv.hq, hv.parts⟩ hv.hm
     rw [hrv'] at k5
     obtain ⟨a0, a1, a2, a3, a4, a5⟩ := cells5U hv.hg
     obtain ⟨z0, z1, z2, z3, z4, z5, z6⟩ := cells6U HM0.out
     have hmx := blk_lt HM0.out; have hgx := blk_lt hv.hg
     have HCP := hyd (fun Y (hb : Below X.heap.size X Y) => rcopied_any g 0 S Y (HVX.out.below hb) HG.out.small)
     clear hv
     go_wp2_with fail
     refine HPM.out.mono ?_; rintro e w' ⟨rfl, rfl⟩
     go_wp2_with fail
     go_region
     have hb1 : Below w.heap.size w X.drew := HB0.out.drew
     have hm1 : X.drew.heap[w.heap.size]? = some mvZ0 := HM0.out
     have hvx1 : RefAt X.drew 0 g S := HVX.out.below (Below.refl _ _).drew
     clear k0 k1 k2 k3 k4 k5 kf hgq a0 a1 a2 a3 a4 a5 z0 z1 z2 z3 z4 z5 z6 hmx hgx HPM HVX HM0 HB0 HCP
     go_upto_region 8 with fail
     generalize X.drew = X1 at *
     have HB1 := hyd hb1; have HM1 := hyd hm1; have HVX1 := hyd hvx1
     have HCP := hyd (rcopied_any g 0 S X1 hvx1 HG.out.small)
     clear hb1 hm1 hvx1
     go_wp2_with fail
     refine HCP.out.mono ?_; rintro e X2 ⟨gb, rfl, hgbX, hbX2, vp, vq, qs2, hv2⟩
     obtain ⟨gq, cap, hq2, rfl, hgqB, hqp, hpt, k0, k1, k2, k3, k4, k5, kf, hgq⟩ := HPA.out X2 X1.heap.size gb vp vq qs2 S rfl ⟨hv2.hg, hv2.hq, hv2.parts⟩ hv2.hm
     obtain ⟨qe, hqe⟩ : ∃ qe, qs2[i] = qe := ⟨_, rfl⟩
     rw [hqe] at hqp hpt k3
     obtain ⟨Av, cv, ev⟩ := hpt.form
     rw [ev] at hpt k3
     obtain ⟨np, hnp⟩ : ∃ np, m.parts.length = np := ⟨_, rfl⟩
     rw [hnp] at hpt k3 ev hpl
     obtain ⟨a0, a1, a2, a3, a4, a5⟩ := cells5U hv2.hg
     have hgb2 := blk_lt hv2.hg
     have hXB : Below X2.heap.size X2 (X2.alloc (pmO ⟨m, .slice Av np cv⟩)) := bnewU _ _
     have hX := blk_new X2 (pmO ⟨m, .slice Av np cv⟩) rfl
     have hv3 := hv2.below hXB
     have hpt3 := hpt.below hXB
     have hb3 : Below X1.heap.size X1 (X2.alloc (pmO ⟨m, .slice Av np cv⟩)) := hbX2.trans (hXB.mono hbX2.size)
     obtain ⟨gl, hgl3⟩ : ∃ gl, X2.heap.size = gl := ⟨_, rfl⟩
     have hgqgl : gq < gl := by omega
     have hglB : X1.heap.size ≤ gl := by rw [← hgl3]; exact hbX2.size
     have HV3 := hyd hv3; have HPT3 := hyd hpt3; have HB3 := hyd hb3
     have HX : Hid ((X2.alloc (pmO ⟨m, .slice Av np cv⟩)).heap[gl]? = some (pmO ⟨m, .slice Av np cv⟩)) := hyd (by rw [← hgl3]; exact hX)
     have HEV := hyd ev; have HQE := hyd hqe; have HQP := hyd hqp; have HNP := hyd hnp
     clear hrv' hv2 hpt hXB hX hv3 hpt3 hb3 hbX2 ev hqe hqp HCP hnp
     go_upto_region 10 with fail
     generalize X2.alloc (pmO ⟨m, .slice Av np cv⟩) = X3 at *
     try rw [hgl3]
     clear k0 k1 k2 k3 k4 k5 kf hgq a0 a1 a2 a3 a4 a5 hgb2 hgl3
     obtain ⟨y0, y1, y2, y3, y4, y5, y6⟩ := cells6U HX.out
     have hyl := blk_lt HX.out
     have hzX3 : X1.heap.size ≤ X3.heap.size := HB3.out.size
     have HGV : Hid (Calls Tryz.prog 128 #[.pointer (some ⟨gb, 0, none⟩), .slice Av np cv, .int .i64 1] X3 (fun e w' => e = .returned (.int .i64 er) ∧ Turn X3 X1.heap.size vp w' ∧ (er = 0 → RefV w' X1.heap.size gb { S with ps := ps } vp (.slice (some ⟨gq, 0, none⟩) nm cap) qs2))) := hyd (by
      refine (rgive_any gb X1.heap.size S vp _ qs2 Av np cv m.parts 1 X3 HV3.out HPT3.out hzX3 (by have := HG.out.np; omega) (by omega) HG.out.day hfac).mono ?_
      rintro e w' ⟨hT, hm⟩
      rcases HGC.out with ⟨h1, h2⟩ | ⟨h1, h2⟩
      · rw [h1] at hm; subst h2; exact ⟨hm.1, hT, fun _ => hm.2.1⟩
      · rw [h1] at hm; subst h2; exact ⟨hm, hT, fun h => absurd h (by decide)⟩)
     go_wp2_with fail
     refine HGV.out.mono ?_; rintro e X4 ⟨rfl, hT4, hrv4⟩
     have hw4 := HV3.out.turnW hT4
     have hx4 := hT4.boxR HV3.out HX.out (by decide)
     have hpt4 := HPT3.out.turn hT4 HV3.out.hp (by decide)
     have hb4 : Below X1.heap.size X1 X4 := HB3.out.trans hT4.bel
     obtain ⟨gq', cap', _, e1, _, _, _, k0, k1, k2, k3, k4, k5, kf, hgq⟩ := HPA.out X4 X1.heap.size gb vp _ qs2 S rfl hw4 HV3.out.hm
     injection e1 with e1 _ e3; injection e1 with e1; injection e1 with e1 _ _; subst e1; subst e3
     obtain ⟨a0, a1, a2, a3, a4, a5⟩ := cells5U hw4.hg
     have hgb4 := blk_lt hw4.hg
     obtain ⟨y0, y1, y2, y3, y4, y5, y6⟩ := cells6U hx4
     have hyl4 := blk_lt hx4
     simp only at y4
     have HV3M := hyd HV3.out.hm
     have HW4 := hyd hw4; have HX4 := hyd hx4; have HPT4 := hyd hpt4; have HB4 := hyd hb4; have HRV4 := hyd hrv4
     clear hT4 hrv4 hw4 hx4 hpt4 hb4 HGV HV3 HX HPT3 HB3 k0 k1 k2 k3 k4 k5 kf a0 a1 a3 y0 y1 y2 y3 y5 hyl hzX3
     go_upto_region 11 with fail
     go_region
     have hp5 := (Puts.start (b := gb) (Below.refl X4.heap.size X4)).set 2 (.int .i64 (S.cr - m.rest))
     have hw5 := (HW4.out.setCr hp5).below (Below.refl _ _).drew
     have hgbgl : gl ≠ gb := fun e => by have h := HX4.out; rw [e] at h; exact ne_of_type' HW4.out.hg h (by decide) rfl
     have hx5 : (X4.setCell ⟨gb, 2, none⟩ (.int .i64 (S.cr - m.rest))).drew.heap[gl]? = some (pmO ⟨m, .slice Av np cv⟩) := (hp5.far gl hyl4 hgbgl).trans HX4.out
     have hpt5 : PartsAt (X4.setCell ⟨gb, 2, none⟩ (.int .i64 (S.cr - m.rest))).drew (.slice Av np cv) m.parts := (HPT4.out.puts3 hp5 HW4.out.hg (by decide)).below (Below.refl _ _).drew
     have hb5 : Below X1.heap.size X1 (X4.setCell ⟨gb, 2, none⟩ (.int .i64 (S.cr - m.rest))).drew := (HB4.out.setCell hgbX _).drew
     have hrv5 : er = 0 → RefV (X4.setCell ⟨gb, 2, none⟩ (.int .i64 (S.cr - m.rest))).drew X1.heap.size gb { S with ps := ps, cr := S.cr - m.rest } vp (.slice (some ⟨gq, 0, none⟩) nm cap) qs2 := fun h => ((HRV4.out h).setCr hp5).below (Below.refl _ _).drew
     clear hp5 a2 a4 a5 y4 y6 hyl4 hgb4 HW4 HX4 HPT4 HB4 HRV4 hgq
     go_upto_region 12 with fail
     generalize (X4.setCell ⟨gb, 2, none⟩ (.int .i64 (S.cr - m.rest))).drew = X5 at *
     obtain ⟨gq', cap', hq5, e1, hgqB, hqp, _, k0, k1, k2, k3, k4, k5, kf, hgq⟩ := HPA.out X5 X1.heap.size gb vp _ qs2 { S with cr := S.cr - m.rest } rfl hw5 HV3M.out
     injection e1 with e1 _ e3; injection e1 with e1; injection e1 with e1 _ _; subst e1; subst e3
     obtain ⟨a0, a1, a2, a3, a4, a5⟩ := cells5U hw5.hg
     have hgb5 := blk_lt hw5.hg
     have kf5 := kf (i * 6 + 5)
     have hp6 : Puts X5 gq [(i * 6 + 5, .bool true)] (X5.setCell ⟨gq, i * 6 + 5, none⟩ (.bool true)) := (Puts.start (Below.refl _ _)).set _ _
     obtain ⟨_, csq, hcsq⟩ := own_block_type hw5.hq (b := gq) rfl
     have hx6 := (hp6.far gl (blk_lt hx5) (by omega)).trans hx5
     have hpt6 := hpt5.puts3 hp6 hcsq (by decide)
     have hb6 : Below X1.heap.size X1 (X5.setCell ⟨gq, i * 6 + 5, none⟩ (.bool true)) := hb5.setCell hgqB _
     have hrv6 : er = 0 → RefV (X5.setCell ⟨gq, i * 6 + 5, none⟩ (.bool true)) X1.heap.size gb { S with ps := ps, cr := S.cr - m.rest, ms := S.ms.set i m.back } vp (.slice (some ⟨gq, 0, none⟩) nm cap) (qs2.set i ⟨m.back, qs2[i].v⟩) := fun h => by
      have h5 := hrv5 h
      rw [← HNM.out] at h5 ⊢
      exact h5.putq hp6 (by simp) (by rw [List.map_set, HV3M.out]) (by
       simp only [List.foldl_cons, List.foldl_nil]
       exact pm_put hq5 (by omega) (by rw [pmC, hqp]; rfl)) (fun q hqq => by
       rcases List.mem_or_eq_of_mem_set hqq with h1 | rfl
       · exact h5.parts q h1
       · have := h5.parts _ (List.getElem_mem hq5); rw [hqp] at this; exact this) (by show 0 < S.ms.length; have := HII.out; omega)
     have HX6 := hyd hx6; have HPT6 := hyd hpt6; have HB6 := hyd hb6; have HRV6 := hyd hrv6
     clear hp6 hcsq hx6 hpt6 hb6 hrv6 hw5 hx5 hpt5 hb5 hrv5 k0 k1 k2 k3 k4 a0 a1 a2 a3 kf
     go_upto_region 13 with fail
     clear k5 kf5 a4 a5 hgb5 hgq
     generalize X5.setCell ⟨gq, i * 6 + 5, none⟩ (.bool true) = X6 at *
     obtain ⟨y0, y1, y2, y3, y4, y5, y6⟩ := cells6U HX6.out
     have hyl6 := blk_lt HX6.out
     simp only at y2 y3 y4
     have HSM := hyd (rsum21_any Av np cv m.parts X6.drew (HPT6.out.below (Below.refl _ _).drew) (by omega) HSUM.out)
     have hgne : g ≠ gb := by have := HVX1.out.lt; omega
     have HTK := hyd (rtake_end3 g gb w.heap.size S { S with ps := ps, cr := S.cr - m.rest, ms := S.ms.set i m.back } ⟨0, 0, 0, m.rest - m.amt, -m.rest, -m.amt⟩ er w X1 X6.drew HVX1.out HB1.out HB6.out.drew (Nat.le_refl _) HM1.out (fun h => ⟨⟨_, _, _, ((HRV6.out h).mono (Nat.zero_le _)).drew⟩, rfl, by have := HG.out.np; have := (HPOK.out h).2; show ps.length ≤ 1000; omega, PerOk.low (HPOK.out h).1⟩) hgne hgl)
     have HXD : Hid (X6.drew.heap[gl]? = some (pmO ⟨m, .slice Av np cv⟩)) := hyd HX6.out
     clear HPT6 HB6 HRV6 y0 y1 y5
     have hne1 : gl ≠ g := by have := HVX1.out.lt; omega
     have hgmgl : w.heap.size ≠ gl := by have := blk_lt HM1.out; omega
     refine Code.wp_mono (noPan_le _) ?_
     refine wp_region_held_drew (S := fun w' => w'.cell? ⟨gl, 2, none⟩ = some (.int .i64 m.amt) ∧ w'.cell? ⟨gl, 3, none⟩ = some (.slice Av np cv) ∧ w'.cell? ⟨gl, 4, none⟩ = some (.int .i64 m.rest)) (by kernel_rfl) ⟨y2, y3, y4⟩ (fun hHeld => ?_)
     refine tkH 0 (v := ?vq1) rfl ?hq1 ?_
     case hq1 => intro w hSw; (try dsimp only at hSw); go_simp; first | done | with_reducible rfl
     simp only [Act.put, lgA, lgB, lgC, lgD, lgE, lgF]
     refine tkH 1 (v := ?vq2) rfl ?hq2 ?_
     case hq2 => intro w hSw; (try dsimp only at hSw); go_simp; first | done | with_reducible rfl
     simp only [Act.put, lgA, lgB, lgC, lgD, lgE, lgF]
     refine tkH 2 (v := ?vq3) rfl ?hq3 ?_
     case hq3 => intro w hSw; (try dsimp only at hSw); go_simp; first | done | with_reducible rfl
     simp only [Act.put, lgA, lgB, lgC, lgD, lgE, lgF]
     refine tkH 3 (v := ?vq4) rfl ?hq4 ?_
     case hq4 => intro w hSw; (try dsimp only at hSw); go_simp; first | done | with_reducible rfl
     simp only [Act.put, lgA, lgB, lgC, lgD, lgE, lgF]
     refine tkH 6 (v := ?vq5) rfl ?hq5 ?_
     case hq5 => intro w hSw; (try dsimp only at hSw); go_simp; first | done | with_reducible rfl
     simp only [Act.put, lgA, lgB, lgC, lgD, lgE, lgF]
     refine tkH 7 (v := ?vq6) rfl ?hq6 ?_
     case hq6 => intro w hSw; (try dsimp only at hSw); go_simp; first | done | with_reducible rfl
     simp only [Act.put, lgA, lgB, lgC, lgD, lgE, lgF]
     refine tkH 8 (v := ?vq7) rfl ?hq7 ?_
     case hq7 => intro w hSw; (try dsimp only at hSw); go_simp; first | done | with_reducible rfl
     simp only [Act.put, lgA, lgB, lgC, lgD, lgE, lgF]
     refine tkH 9 (v := ?vq8) rfl ?hq8 ?_
     case hq8 => intro w hSw; (try dsimp only at hSw); go_simp; first | done | with_reducible rfl
     simp only [Act.put, lgA, lgB, lgC, lgD, lgE, lgF]
     refine tkH 10 (v := ?vq9) rfl ?hq9 ?_
     case hq9 => intro w hSw; (try dsimp only at hSw); go_simp; first | done | with_reducible rfl
     simp only [Act.put, lgA, lgB, lgC, lgD, lgE, lgF]
     refine tkH 11 (v := ?vq10) rfl ?hq10 ?_
     case hq10 => intro w hSw; (try dsimp only at hSw); go_simp; first | done | with_reducible rfl
     simp only [Act.put, lgA, lgB, lgC, lgD, lgE, lgF]
     refine tkH 13 (v := ?vq11) rfl ?hq11 ?_
     case hq11 => intro w hSw; (try dsimp only at hSw); go_simp; first | done | with_reducible rfl
     simp only [Act.put, lgA, lgB, lgC, lgD, lgE, lgF]
     refine wpAnyH_ready (rs := [4]) (by kernel_rfl) (by simp) ?_
     refine AllReadyH.cons rfl (fun K hK => ?_) AllReadyH.nil
     refine step_call1R rfl 129 (.tmp 72) 41 rfl (.slice Av np cv) rfl (rsum_enter _) ?_
     refine HSM.out.mono ?_; rintro e w7 ⟨rfl, rfl⟩; refine ⟨_, rfl, ?_⟩
     refine hK.out _ _ ⟨y2, y3, y4⟩ (fun hHeld => ?_)
     clear hK K
     refine tkH 5 (v := ?vq12) rfl ?hq12 ?_
     case hq12 => intro w hSw; (try dsimp only at hSw); go_simp; first | done | with_reducible rfl
     simp only [Act.put, lgA, lgB, lgC, lgD, lgE, lgF]
     refine tkH 12 (v := ?vq13) rfl ?hq13 ?_
     case hq13 => intro w hSw; (try dsimp only at hSw); go_simp; first | done | with_reducible rfl
     simp only [Act.put, lgA, lgB, lgC, lgD, lgE, lgF]
     refine wpAnyH_ready (rs := [14]) (by kernel_rfl) (by simp) ?_
     refine AllReadyH.cons rfl (fun K hK => ?_) AllReadyH.nil
     refine step_call4R rfl 123 (.tmp 69) (.tmp 70) (.tmp 81) (.tmp 82) 71 71 33 28 rfl (.pointer (some ⟨g, 0, none⟩)) (.pointer (some ⟨gb, 0, none⟩)) (mvV ⟨0, 0, 0, m.rest - m.amt, -m.rest, -m.amt⟩) (.int .i64 er) rfl rfl rfl rfl (rtake_enter _ _ _ _) ?_
     refine HTK.out.mono ?_; rintro e w7 ⟨m', er', rfl, ⟨x0, x1, x2, x3, x4, x5, hmc⟩, hE, hM, hkp⟩; refine ⟨_, rfl, ?_⟩
     obtain ⟨z0, z1, z2, z3, z4, z5, z6⟩ := cells6U hmc
     have hml := blk_lt hmc
     have hx7 := hkp gl _ HXD.out hne1
     obtain ⟨y0', y1', y2', y3', y4', y5', y6'⟩ := cells6U hx7
     have HE := hyd hE; have HM := hyd hM; have HX7 := hyd hx7
     refine hK.out _ _ ⟨y2', y3', y4'⟩ (fun hHeld => ?_)
     clear hK K hmc hE hM hkp
     refine tkH 15 (v := ?vq14) rfl ?hq14 ?_
     case hq14 => intro w hSw; (try dsimp only at hSw); go_simp; first | done | with_reducible rfl
     simp only [Act.put, lgA, lgB, lgC, lgD, lgE, lgF]
     refine tkH 16 (v := ?vq15) rfl ?hq15 ?_
     case hq15 => intro w hSw; (try dsimp only at hSw); go_simp; first | done | with_reducible rfl
     simp only [Act.put, lgA, lgB, lgC, lgD, lgE, lgF]
     have hx8 : ∀ W : World, W = put6 w7 w.heap.size m' → W.heap[gl]? = some (pmO ⟨m, .slice Av np cv⟩) := fun W hW => by rw [hW, put6_far w7 w.heap.size m' (Ne.symm hgmgl)]; exact HX7.out
     refine wpAnyH_ready (rs := [17]) (by kernel_rfl) (by simp) ?_
     refine AllReadyH.cons rfl (fun K hK => ?_) AllReadyH.nil
     go_simp
     obtain ⟨q0, q1, q2, q3, q4, q5, q6⟩ := cells6U (hx8 _ rfl)
     refine hK.out _ _ ⟨q2, q3, q4⟩ (fun hHeld => ?_)
     clear hK K
     refine tkH 18 (v := ?vr2) rfl ?hr2 ?_
     case hr2 => intro w hSw; (try dsimp only at hSw); go_simp; first | done | with_reducible rfl
     simp only [Act.put, lgA, lgB, lgC, lgD, lgE, lgF]
     refine wpAnyH_done (by kernel_rfl) ?_ _
     clear hHeld
     simp only [noPan]
     go_wp2_with fail
     exact mv_ret m' er' w.heap.size rfl rfl rfl HM.out HE.out
end Go.Proofs.YtbjjgnaojoaoiaaGreat
