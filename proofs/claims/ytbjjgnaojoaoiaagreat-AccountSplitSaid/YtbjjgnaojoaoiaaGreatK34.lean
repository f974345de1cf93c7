/- Advance and Amend in plain words; a step leaves an account that is right: Reverse, Advance, Amend. -/
import Derived.Test.YtbjjgnaojoaoiaaGreatK32
import Derived.Test.YtbjjgnaojoaoiaaGreatK29
import Derived.Test.YtbjjgnaojoaoiaaGreatK33
namespace Go.Proofs.YtbjjgnaojoaoiaaGreat
set_option linter.unusedVariables false
set_option linter.unusedSimpArgs false

theorem told_okZ {z : Int} (h : (told z).2 = 0) : (told z).1 = z := by
  unfold told at *; split at h
  · rw [if_pos ‹_›]
  · simp at h
theorem simple_okZ {p bp d : Int} (h : (simpleS p bp d).2 = 0) : (simpleS p bp d).1 = p * (bp * d) / 3650000 ∧ 0 ≤ p ∧ 0 ≤ bp ∧ 0 ≤ d := by
  unfold simpleS at *
  split at h
  · rename_i g
    rw [if_pos g]
    have g' : okP p = true ∧ okR bp = true ∧ okD d = true := by simp at g; exact ⟨g.1.1, g.1.2, g.2⟩
    exact ⟨told_okZ h, (okP_yes g'.1).1, (okR_yes g'.2.1).1, (okD_yes g'.2.2).1⟩
  · simp at h
theorem simple_later {p bp d d' : Int} (hd : d ≤ d') (h : (simpleS p bp d).2 = 0) (h' : (simpleS p bp d').2 = 0) : (simpleS p bp d).1 ≤ (simpleS p bp d').1 := by
  obtain ⟨e, a0, a1, a2⟩ := simple_okZ h
  obtain ⟨e', c0, c1, c2⟩ := simple_okZ h'
  rw [e, e']
  refine Int.ediv_le_ediv (by omega) ?_
  exact Int.mul_le_mul_of_nonneg_left (Int.mul_le_mul_of_nonneg_left hd a1) a0
/-- Interest does not fall. -/
theorem interest_later {day T bp : Int} {p : Per} (h : PerOk day bp p) (hT : day ≤ T) (hi : (interestS T bp p).2 = 0) : p.acc ≤ (interestS T bp p).1 ∧ 0 ≤ (interestS T bp p).1 := by
  by_cases h1 : T < p.since
  · have h2 := h.none_ (by omega)
    have e : interestS T bp p = (0, 0) := by unfold interestS; rw [if_pos h1]
    rw [e]; simp; omega
  · have e : interestS T bp p = if (simpleS p.o2 bp (T - p.since)).2 = 0 then addS p.done (simpleS p.o2 bp (T - p.since)).1 else (0, (simpleS p.o2 bp (T - p.since)).2) := by unfold interestS; rw [if_neg h1]
    rw [e] at hi ⊢
    by_cases h2 : (simpleS p.o2 bp (T - p.since)).2 = 0
    · rw [if_pos h2] at hi ⊢
      obtain ⟨e1, e2, e3⟩ := add_ok hi
      rw [e1]
      have hn := @simple_nn p.o2 bp (T - p.since)
      have hd := h.done
      by_cases h3 : p.since ≤ day
      · have hx := h.int h3
        have e' : interestS day bp p = if (simpleS p.o2 bp (day - p.since)).2 = 0 then addS p.done (simpleS p.o2 bp (day - p.since)).1 else (0, (simpleS p.o2 bp (day - p.since)).2) := by unfold interestS; rw [if_neg (by omega)]
        rw [e'] at hx
        by_cases h4 : (simpleS p.o2 bp (day - p.since)).2 = 0
        · rw [if_pos h4] at hx
          have h5 : (addS p.done (simpleS p.o2 bp (day - p.since)).1).2 = 0 := by rw [hx]
          obtain ⟨e2, _, _⟩ := add_ok h5
          have h6 := simple_later (p := p.o2) (bp := bp) (show day - p.since ≤ T - p.since by omega) h4 h2
          have h7 : (addS p.done (simpleS p.o2 bp (day - p.since)).1).1 = p.acc := by rw [hx]
          omega
        · rw [if_neg h4] at hx
          exact absurd (congrArg Prod.snd hx) h4
      · have h4 := h.none_ (by omega)
        omega
    · rw [if_neg h2] at hi; exact absurd hi h2
theorem settle_some {T bp : Int} {p : Per} (h : (settleS T bp p).1 = 0) : (interestS T bp p).2 = 0 ∧ (addS p.o1 ((interestS T bp p).1 - p.acc)).2 = 0 ∧ settleS T bp p = (0, (interestS T bp p).1 - p.acc, { p with o1 := p.o1 + ((interestS T bp p).1 - p.acc), acc := (interestS T bp p).1 }) ∧ p.o1 + ((interestS T bp p).1 - p.acc) ≤ 4611686018427387904 := by
  by_cases h0 : (interestS T bp p).2 ≠ 0
  · unfold settleS at h; rw [if_pos h0] at h; exact absurd h h0
  · by_cases h1 : (addS p.o1 ((interestS T bp p).1 - p.acc)).2 ≠ 0
    · unfold settleS at h; rw [if_neg h0, if_pos h1] at h; simp at h
    · have h1' : (addS p.o1 ((interestS T bp p).1 - p.acc)).2 = 0 := by omega
      obtain ⟨e1, e2, e3⟩ := add_ok h1'
      refine ⟨by omega, h1', ?_, e3⟩
      unfold settleS
      rw [if_neg h0, if_neg h1, e1]
/-- A period settles. -/
theorem PerOk.settle {day T bp : Int} {p : Per} (h : PerOk day bp p) (hT : day ≤ T) (hs : (settleS T bp p).1 = 0) : PerOk T bp (settleS T bp p).2.2 ∧ (settleS T bp p).2.2.ret = p.ret ∧ 0 ≤ (settleS T bp p).2.1 ∧ (settleS T bp p).2.2.o0 = p.o0 ∧ (settleS T bp p).2.2.o1 = p.o1 + (settleS T bp p).2.1 ∧ (settleS T bp p).2.2.o2 = p.o2 := by
  obtain ⟨h1, h2, h3, h4⟩ := settle_some hs
  obtain ⟨i1, i2⟩ := interest_later h hT h1
  have hib := interest_bd T bp p
  rw [h3]
  have hb1 := h.b1
  refine ⟨⟨h.ret, h.b0, ⟨by show 0 ≤ p.o1 + _; omega, by show p.o1 + _ ≤ _; omega⟩, h.b2, h.since, ?_, h.done, ⟨i2, hib.2⟩, fun hle => ?_, fun hlt => ?_⟩, rfl, by show 0 ≤ (interestS T bp p).1 - p.acc; omega, rfl, rfl, rfl⟩
  · rcases h.at_ with e | e
    · exact .inl e
    · exact .inr (Int.le_trans e hT)
  · refine (interest_eq T bp (p := p) rfl rfl rfl).trans ?_
    exact Prod.ext rfl h1
  · have hlt' : T < p.since := hlt
    have h5 := h.none_ (by omega)
    refine ⟨h5.1, ?_⟩
    show (interestS T bp p).1 = 0
    unfold interestS; rw [if_pos hlt']
/-- The first k periods settle, one behind the other: an error; the sum; the periods. -/
def advK (T bp : Int) (ps : List Per) : Nat → Int × Int × List Per
  | 0 => (0, 0, ps)
  | k + 1 => if (advK T bp ps k).1 ≠ 0 then ((advK T bp ps k).1, 0, ps) else
      if (settleS T bp ((advK T bp ps k).2.2.getD k Per.zero)).1 ≠ 0 then ((settleS T bp ((advK T bp ps k).2.2.getD k Per.zero)).1, 0, ps) else
      if (addS (advK T bp ps k).2.1 (settleS T bp ((advK T bp ps k).2.2.getD k Per.zero)).2.1).2 ≠ 0 then (2, 0, ps) else
      (0, (addS (advK T bp ps k).2.1 (settleS T bp ((advK T bp ps k).2.2.getD k Per.zero)).2.1).1, (advK T bp ps k).2.2.set k (settleS T bp ((advK T bp ps k).2.2.getD k Per.zero)).2.2)
def advance1 (S : Ac) (d : Int) : Ac × Mv × Int := if (advK (S.day + d) S.bp S.ps S.ps.length).1 ≠ 0 then (S, Mv.zero, (advK (S.day + d) S.bp S.ps S.ps.length).1) else
  ({ S with day := S.day + d, ps := (advK (S.day + d) S.bp S.ps S.ps.length).2.2 }, ⟨0, (advK (S.day + d) S.bp S.ps S.ps.length).2.1, 0, 0, 0, 0⟩, 0)
def advanceS (S : Ac) (d : Int) : Ac × Mv × Int := if ¬ (0 ≤ d ∧ d ≤ 36500) then (S, Mv.zero, 1) else if 3652058 < S.day + d then (S, Mv.zero, 1) else advance1 S d
theorem advK_err {T bp : Int} {ps : List Per} {k : Nat} (h : (advK T bp ps k).1 ≠ 0) : ∀ n, (advK T bp ps (k + n)).1 = (advK T bp ps k).1
  | 0 => rfl
  | n + 1 => by
    have ih := advK_err h n
    rw [← Nat.add_assoc, advK, if_pos (by rw [ih]; exact h), ih]
/-- What the periods are behind k rounds. -/
structure AdvOk (T bp : Int) (ps : List Per) (k : Nat) : Prop where
  len : (advK T bp ps k).2.2.length = ps.length
  rest : ∀ i, k ≤ i → (advK T bp ps k).2.2[i]? = ps[i]?
  ret : (advK T bp ps k).2.2.map Per.ret = ps.map Per.ret
  nn : 0 ≤ (advK T bp ps k).2.1 ∧ (advK T bp ps k).2.1 ≤ 4611686018427387904
theorem advK_ok {day T bp : Int} {ps : List Per} (hp : ∀ p ∈ ps, PerOk day bp p) (hT : day ≤ T) : ∀ k, k ≤ ps.length → (advK T bp ps k).1 = 0 → AdvOk T bp ps k ∧ ∀ i (hi : i < (advK T bp ps k).2.2.length), i < k → PerOk T bp ((advK T bp ps k).2.2[i])
  | 0, _, _ => ⟨⟨rfl, fun _ _ => rfl, rfl, by simp [advK]⟩, fun i _ h => by omega⟩
  | k + 1, hk, h => by
    by_cases h0 : (advK T bp ps k).1 ≠ 0
    · rw [advK, if_pos h0] at h; exact absurd h h0
    · obtain ⟨⟨a1, a2, a3, a4⟩, a5⟩ := advK_ok hp hT k (by omega) (by omega)
      have hkl : k < (advK T bp ps k).2.2.length := by omega
      have hg : (advK T bp ps k).2.2.getD k Per.zero = ps[k] := by
        rw [List.getD_eq_getElem?_getD, a2 k (Nat.le_refl _), List.getElem?_eq_getElem (by omega)]; rfl
      by_cases h1 : (settleS T bp ps[k]).1 ≠ 0
      · rw [advK, if_neg h0, hg, if_pos h1] at h; exact absurd h h1
      · by_cases h2 : (addS (advK T bp ps k).2.1 (settleS T bp ps[k]).2.1).2 ≠ 0
        · rw [advK, if_neg h0, hg, if_neg h1, if_pos h2] at h; simp at h
        · have e : advK T bp ps (k + 1) = (0, (addS (advK T bp ps k).2.1 (settleS T bp ps[k]).2.1).1, (advK T bp ps k).2.2.set k (settleS T bp ps[k]).2.2) := by
            rw [advK, if_neg h0, hg, if_neg h1, if_neg h2]
          obtain ⟨q1, q2, q3, _⟩ := (hp _ (List.getElem_mem (show k < ps.length by omega))).settle hT (by omega)
          obtain ⟨e1, e2, e3⟩ := add_ok (by omega : (addS (advK T bp ps k).2.1 (settleS T bp ps[k]).2.1).2 = 0)
          refine ⟨⟨?_, fun i hi => ?_, ?_, ?_⟩, ?_⟩
          · rw [e]; simpa using a1
          · rw [e]; show ((advK T bp ps k).2.2.set k _)[i]? = _
            rw [List.getElem?_set_ne (by omega)]; exact a2 i (by omega)
          · rw [e]; show ((advK T bp ps k).2.2.set k _).map Per.ret = _
            rw [List.map_set, q2, ← a3]
            apply List.ext_getElem (by simp)
            intro j j1 j2
            rw [List.getElem_set]
            split
            · rename_i ej; subst ej
              have h4 : ((advK T bp ps k).2.2.map Per.ret)[k]? = some ps[k].ret := by rw [a3, List.getElem?_map, List.getElem?_eq_getElem (show k < ps.length by omega)]; rfl
              rw [List.getElem?_eq_getElem (by simpa using hkl)] at h4
              injection h4 with h4; exact h4.symm
            · rfl
          · rw [e]; show 0 ≤ (addS _ _).1 ∧ _; rw [e1]; omega
          · rw [e]
            intro i hi hik
            simp only [List.getElem_set]
            split
            · exact q1
            · simp only [List.length_set] at hi
              exact a5 i hi (by omega)
theorem Good.adv1 {S : Ac} (h : Good S) {d : Int} (hd : 0 ≤ d ∧ d ≤ 36500) (hT : ¬ 3652058 < S.day + d) : Good (advance1 S d).1 := by
  unfold advance1
  split
  · exact h
  · rename_i h0
    have hday := h.day
    obtain ⟨⟨a1, a2, a3, a4⟩, a5⟩ := advK_ok (T := S.day + d) h.per (by omega) S.ps.length (Nat.le_refl _) (by omega)
    generalize (advK (S.day + d) S.bp S.ps S.ps.length).2.2 = ps at *
    refine ⟨by show 0 ≤ S.day + d ∧ S.day + d ≤ _; omega, h.bp, h.cr, by show ps.length ≤ 20; rw [a1]; exact h.np, h.nm, riseP_ret h.rise a3, fun p hp => ?_, fun m hm => (h.pm m hm).more (riseP_ret h.rise a3) (ret_mem a3), h.ids⟩
    obtain ⟨i, hi, rfl⟩ := List.mem_iff_getElem.1 hp
    exact a5 i hi (by have : i < ps.length := hi; omega)
theorem Good.advance {S : Ac} (h : Good S) (d : Int) : Good (advanceS S d).1 := by
  unfold advanceS
  split
  · exact h
  · rename_i h1
    split
    · exact h
    · rename_i h2
      exact h.adv1 (by simpa using h1) h2
theorem advance_same {S : Ac} {d : Int} (h : (advanceS S d).2.2 ≠ 0) : (advanceS S d).1 = S := by
  unfold advanceS at h ⊢
  split
  · rfl
  · rename_i h1
    rw [if_neg h1] at h
    split
    · rfl
    · rename_i h2
      rw [if_neg h2] at h
      unfold advance1 at h ⊢
      split
      · rfl
      · rename_i h3
        rw [if_neg h3] at h; exact absurd rfl h

/-- Reverse leaves an account that is right. -/
theorem pay_at {S : Ac} {id : Int} (h : ¬ S.pay id < 0) : ∃ i, ∃ hi : i < S.ms.length, S.pay id = (i : Int) ∧ S.ms[i].id = id ∧ S.ms.getD (S.pay id).toNat noPm = S.ms[i] := by
  unfold Ac.pay at h ⊢
  rcases idxI_spec (fun p : Pm => decide (p.id = id)) S.ms 0 with ⟨h1, _⟩ | ⟨i, hi, h1, h2, _⟩
  · omega
  · refine ⟨i, hi, by rw [h1]; simp, by simpa using h2, ?_⟩
    rw [h1, List.getD_eq_getElem?_getD]
    simp only [Nat.zero_add, Int.toNat_natCast]
    rw [List.getElem?_eq_getElem hi]; rfl
theorem Good.rev1 {S : Ac} (h : Good S) {i : Nat} (hi : i < S.ms.length) (hc : ¬ S.cr < S.ms[i].rest) : Good (reverse1 S i S.ms[i]).1 := by
  have hm := h.pm _ (List.getElem_mem hi)
  unfold reverse1
  cases hg : giveS S.day 1 S.ps S.ms[i].parts with
  | none => exact h
  | some ps =>
    obtain ⟨q1, q2, q3⟩ := giveS_ok h.day h.bp S.ms[i].parts h.rise h.per (fun x hx => (hm.placed x hx).1) (fun x hx => by have := (hm.placed x hx).2.2; omega) (.inl rfl) hg
    have hr := hm.rest
    have hcr := h.cr
    refine ⟨h.day, h.bp, by show 0 ≤ S.cr - S.ms[i].rest ∧ S.cr - S.ms[i].rest ≤ _; omega, by show ps.length ≤ 20; rw [ret_len q3]; exact h.np, by show (S.ms.set i _).length ≤ 50; rw [List.length_set]; exact h.nm, q2, q1, fun m hmm => ?_, ?_⟩
    · rcases List.mem_or_eq_of_mem_set hmm with hmm | rfl
      · exact (h.pm m hmm).more q2 (ret_mem q3)
      · have := hm.more q2 (ret_mem q3)
        exact ⟨this.id, this.day, this.amt, this.placed, this.len, this.rest, this.sum⟩
    · show ((S.ms.set i _).map Pm.id).Nodup
      rw [List.map_set]
      have e : (S.ms.map Pm.id).set i (Pm.back S.ms[i]).id = S.ms.map Pm.id := by
        apply List.ext_getElem (by simp)
        intro j j1 j2
        rw [List.getElem_set]
        split
        · rename_i ej; subst ej; simp [Pm.back]
        · rfl
      rw [e]; exact h.ids
theorem Good.reverse {S : Ac} (h : Good S) (id : Int) : Good (reverseS S id).1 := by
  unfold reverseS
  split
  · exact h
  · rename_i h1
    obtain ⟨i, hi, e1, e2, e3⟩ := pay_at h1
    rw [e3, e1, Int.toNat_natCast]
    split
    · exact h
    · split
      · exact h
      · rename_i h3
        exact h.rev1 hi h3
theorem reverse_same {S : Ac} {id : Int} (h : (reverseS S id).2.2 ≠ 0) : (reverseS S id).1 = S := by
  unfold reverseS at h ⊢
  split
  · rfl
  · rename_i h1
    rw [if_neg h1] at h
    split
    · rfl
    · rename_i h2
      rw [if_neg h2] at h
      split
      · rfl
      · rename_i h3
        rw [if_neg h3] at h
        unfold reverse1 at h ⊢
        cases hg : giveS S.day 1 S.ps (S.ms.getD (S.pay id).toNat noPm).parts with
        | none => rfl
        | some ps => rw [hg] at h; exact absurd rfl h

/-- One kind of an amended return: an error, the charge, the credit, the period. -/
def amd1 (day k more : Int) (p : Per) : Int × Int × Int × Per :=
  if (addS (p.opn k) (max more (-p.opn k))).2 ≠ 0 then (2, 0, 0, p) else (0, (addS (p.opn k) (max more (-p.opn k))).1 - p.opn k, max 0 (-more - p.opn k), Per.setO day p k (addS (p.opn k) (max more (-p.opn k))).1)
def Mv.putK (m : Mv) (k : Nat) (c cr : Int) : Mv := if k = 0 then { m with c0 := c, cr := m.cr + cr } else if k = 1 then { m with c1 := c, cr := m.cr + cr } else { m with c2 := c, cr := m.cr + cr }
def moreK (m0 m2 : Int) (k : Nat) : Int := if k = 0 then m0 else if k = 1 then 0 else m2
/-- The first k kinds: an error, the move, the period. -/
def amdK (day m0 m2 : Int) (p : Per) : Nat → Int × Mv × Per
  | 0 => (0, Mv.zero, p)
  | k + 1 => if (amdK day m0 m2 p k).1 ≠ 0 then (2, Mv.zero, p) else
      if (amd1 day (k : Int) (moreK m0 m2 k) (amdK day m0 m2 p k).2.2).1 ≠ 0 then (2, Mv.zero, p) else
      (0, (amdK day m0 m2 p k).2.1.putK k (amd1 day (k : Int) (moreK m0 m2 k) (amdK day m0 m2 p k).2.2).2.1 (amd1 day (k : Int) (moreK m0 m2 k) (amdK day m0 m2 p k).2.2).2.2.1, (amd1 day (k : Int) (moreK m0 m2 k) (amdK day m0 m2 p k).2.2).2.2.2)
/-- All three. -/
def amd3 (day m0 m2 : Int) (p : Per) : Int × Mv × Per := amdK day m0 m2 p 3
theorem amdK_err {day m0 m2 : Int} {p : Per} {k : Nat} (h : (amdK day m0 m2 p k).1 ≠ 0) : ∀ n, (amdK day m0 m2 p (k + n)).1 ≠ 0
  | 0 => h
  | n + 1 => by
    have ih := amdK_err h n
    rw [← Nat.add_assoc, amdK, if_pos ih]
    exact (by decide : (2 : Int) ≠ 0)
def Ret.other2 (r : Ret) (inc wh : Int) : Ret := { r with inc := inc, wh := wh }
def Per.with_ (p : Per) (r : Ret) : Per := { p with ret := r }
noncomputable def amend1 (S : Ac) (s : Sch) (i : Nat) (p : Per) (inc wh : Int) : Ac × Mv × Int :=
  if (changeS s p.ret (p.ret.other2 inc wh)).2 ≠ 0 then (S, Mv.zero, (changeS s p.ret (p.ret.other2 inc wh)).2) else
  if (amd3 S.day (changeS s p.ret (p.ret.other2 inc wh)).1.pen ((changeS s p.ret (p.ret.other2 inc wh)).1.prin - (changeS s p.ret (p.ret.other2 inc wh)).1.exc) (p.with_ (p.ret.other2 inc wh))).1 ≠ 0 then (S, Mv.zero, 2) else
  if (addS S.cr (amd3 S.day (changeS s p.ret (p.ret.other2 inc wh)).1.pen ((changeS s p.ret (p.ret.other2 inc wh)).1.prin - (changeS s p.ret (p.ret.other2 inc wh)).1.exc) (p.with_ (p.ret.other2 inc wh))).2.1.cr).2 ≠ 0 then (S, Mv.zero, 2) else
  ({ S with ps := S.ps.set i (amd3 S.day (changeS s p.ret (p.ret.other2 inc wh)).1.pen ((changeS s p.ret (p.ret.other2 inc wh)).1.prin - (changeS s p.ret (p.ret.other2 inc wh)).1.exc) (p.with_ (p.ret.other2 inc wh))).2.2,
            cr := (addS S.cr (amd3 S.day (changeS s p.ret (p.ret.other2 inc wh)).1.pen ((changeS s p.ret (p.ret.other2 inc wh)).1.prin - (changeS s p.ret (p.ret.other2 inc wh)).1.exc) (p.with_ (p.ret.other2 inc wh))).2.1.cr).1 },
   (amd3 S.day (changeS s p.ret (p.ret.other2 inc wh)).1.pen ((changeS s p.ret (p.ret.other2 inc wh)).1.prin - (changeS s p.ret (p.ret.other2 inc wh)).1.exc) (p.with_ (p.ret.other2 inc wh))).2.1, 0)
noncomputable def amendS (S : Ac) (s : Sch) (n inc wh : Int) : Ac × Mv × Int := if S.place n = -1 then (S, Mv.zero, 4) else amend1 S s (S.place n).toNat (S.ps.getD (S.place n).toNat Per.zero) inc wh
theorem amd1_ok {day bp k more : Int} {p : Per} (h : PerOk day bp p) (hd : 0 ≤ day ∧ day ≤ 3652058) (hb : 0 ≤ bp ∧ bp ≤ 100000) (hk : k = 0 ∨ k = 1 ∨ k = 2) (he : (amd1 day k more p).1 = 0) :
    PerOk day bp (amd1 day k more p).2.2.2 ∧ (amd1 day k more p).2.2.2.ret = p.ret ∧ 0 ≤ (amd1 day k more p).2.2.1 ∧ (amd1 day k more p).2.2.2.opn k = p.opn k + (amd1 day k more p).2.1 ∧ (∀ j, j = 0 ∨ j = 1 ∨ j = 2 → j ≠ k → (amd1 day k more p).2.2.2.opn j = p.opn j) ∧ (amd1 day k more p).2.1 - (amd1 day k more p).2.2.1 = more := by
  unfold amd1 at he ⊢
  by_cases h0 : (addS (p.opn k) (max more (-p.opn k))).2 ≠ 0
  · rw [if_pos h0] at he; simp at he
  · rw [if_neg h0]
    obtain ⟨e1, e2, e3⟩ := add_ok (by omega : (addS (p.opn k) (max more (-p.opn k))).2 = 0)
    rw [e1]
    have hs := h.setO hd hb hk (v := p.opn k + max more (-p.opn k)) ⟨by omega, e3⟩
    refine ⟨hs.1, hs.2, by show 0 ≤ max 0 _; omega, ?_, ?_, by show p.opn k + max more (-p.opn k) - p.opn k - max 0 (-more - p.opn k) = more; omega⟩
    · show (Per.setO day p k _).opn k = p.opn k + (p.opn k + _ - p.opn k)
      have : (Per.setO day p k (p.opn k + max more (-p.opn k))).opn k = p.opn k + max more (-p.opn k) := by
        unfold Per.setO Per.putO
        rcases hk with rfl | rfl | rfl <;> simp [Per.opn]
        split <;> rfl
      rw [this]; omega
    · intro j hj hjk
      show (Per.setO day p k _).opn j = p.opn j
      unfold Per.setO Per.putO
      rcases hk with rfl | rfl | rfl <;> rcases hj with rfl | rfl | rfl <;> simp [Per.opn] at hjk ⊢ <;> (split <;> rfl)
end Go.Proofs.YtbjjgnaojoaoiaaGreat
/- A step of any kind, in plain words; sums. -/
namespace Go.Proofs.YtbjjgnaojoaoiaaGreat
set_option linter.unusedVariables false
set_option linter.unusedSimpArgs false

/-- A step, with the slice of its brackets. -/
structure Stp where
  act : Int
  A : Option Addr
  c : Nat
  s : Sch
  r : Ret
  n : Int
  a : Int
  b : Int
noncomputable def stepS (S : Ac) (t : Stp) : Ac × Mv × Int :=
  if t.act = 0 then fileS S t.s t.r else if t.act = 1 then amendS S t.s t.n t.a t.b else if t.act = 2 then payS S t.n t.a else if t.act = 3 then reverseS S t.n else
  if t.act = 4 then offsetS S t.a else if t.act = 5 then refundS S t.a else advanceS S t.n
theorem file_sameZ {S : Ac} {s : Sch} {r : Ret} (h : (fileS S s r).2.2 ≠ 0) : (fileS S s r).1 = S := by
  unfold fileS at h ⊢
  split
  · rfl
  · rename_i h0
    rw [if_neg h0] at h
    split
    · rfl
    · rename_i h1
      rw [if_neg h1] at h
      split
      · rfl
      · rename_i h2
        rw [if_neg h2] at h
        unfold file1 at h ⊢
        split
        · rfl
        · rename_i h3
          rw [if_neg h3] at h
          split
          · rfl
          · rename_i h4
            rw [if_neg h4] at h
            exact absurd rfl h
theorem pay_same {S : Ac} {id a : Int} (h : (payS S id a).2.2 ≠ 0) : (payS S id a).1 = S := by
  unfold payS at h ⊢
  split
  · rfl
  · rename_i h0
    rw [if_neg h0] at h
    split
    · rfl
    · rename_i h1
      rw [if_neg h1] at h
      split
      · rfl
      · rename_i h2
        rw [if_neg h2] at h
        unfold pay1 at h ⊢
        cases hg : giveS S.day (-1) S.ps (partsOf (itemsOf S.ps) a) with
        | none => rfl
        | some ps =>
          rw [hg] at h
          simp only at h ⊢
          split
          · rename_i h4; rw [if_pos h4] at h; exact absurd rfl h
          · rfl
theorem offset_same {S : Ac} {a : Int} (h : (offsetS S a).2.2 ≠ 0) : (offsetS S a).1 = S := by
  unfold offsetS at h ⊢
  split
  · rfl
  · rename_i h0
    rw [if_neg h0] at h
    split
    · rfl
    · rename_i h1
      rw [if_neg h1] at h
      unfold offset1 at h ⊢
      cases hg : giveS S.day (-1) S.ps (partsOf (itemsOf S.ps) a) with
      | none => rfl
      | some ps => rw [hg] at h; exact absurd rfl h
theorem refund_same {S : Ac} {a : Int} (h : (refundS S a).2.2 ≠ 0) : (refundS S a).1 = S := by
  unfold refundS at h ⊢
  split
  · rfl
  · rename_i h0
    rw [if_neg h0] at h
    split
    · rfl
    · rename_i h1
      rw [if_neg h1] at h
      exact absurd rfl h
theorem amend_same {S : Ac} {s : Sch} {n inc wh : Int} (h : (amendS S s n inc wh).2.2 ≠ 0) : (amendS S s n inc wh).1 = S := by
  unfold amendS at h ⊢
  split
  · rfl
  · rename_i h0
    rw [if_neg h0] at h
    unfold amend1 at h ⊢
    split
    · rfl
    · rename_i h1
      rw [if_neg h1] at h
      split
      · rfl
      · rename_i h2
        rw [if_neg h2] at h
        split
        · rfl
        · rename_i h3
          rw [if_neg h3] at h
          exact absurd rfl h
theorem step_same {S : Ac} {t : Stp} (h : (stepS S t).2.2 ≠ 0) : (stepS S t).1 = S := by
  unfold stepS at h ⊢
  by_cases h0 : t.act = 0
  · rw [if_pos h0] at h ⊢; exact file_sameZ h
  · rw [if_neg h0] at h ⊢
    by_cases h1 : t.act = 1
    · rw [if_pos h1] at h ⊢; exact amend_same h
    · rw [if_neg h1] at h ⊢
      by_cases h2 : t.act = 2
      · rw [if_pos h2] at h ⊢; exact pay_same h
      · rw [if_neg h2] at h ⊢
        by_cases h3 : t.act = 3
        · rw [if_pos h3] at h ⊢; exact reverse_same h
        · rw [if_neg h3] at h ⊢
          by_cases h4 : t.act = 4
          · rw [if_pos h4] at h ⊢; exact offset_same h
          · rw [if_neg h4] at h ⊢
            by_cases h5 : t.act = 5
            · rw [if_pos h5] at h ⊢; exact refund_same h
            · rw [if_neg h5] at h ⊢; exact advance_same h
/-- What Amend needs and leaves. -/
theorem change_ok {s : Sch} {p : Ret} {inc wh : Int} (h : (changeS s p (p.other2 inc wh)).2 = 0) : OkS s ∧ retB p = true ∧ retB (p.other2 inc wh) = true ∧
    (-1125899906842624 ≤ (changeS s p (p.other2 inc wh)).1.pen ∧ (changeS s p (p.other2 inc wh)).1.pen ≤ 1125899906842624) ∧
    (-1125899906842624 ≤ (changeS s p (p.other2 inc wh)).1.prin ∧ (changeS s p (p.other2 inc wh)).1.prin ≤ 1125899906842624) ∧
    (-1125899906842624 ≤ (changeS s p (p.other2 inc wh)).1.exc ∧ (changeS s p (p.other2 inc wh)).1.exc ≤ 1125899906842624) := by
  by_cases h1 : okS s = true ∧ retB p = true
  · by_cases h2 : retB (p.other2 inc wh) = true
    · have hn : ¬ (p.per ≠ (p.other2 inc wh).per ∨ (p.other2 inc wh).filed < p.filed) := by
        simp [Ret.other2]
      have hs := okS_yes h1.1
      have hm : retB (p.moved (p.other2 inc wh)) = true := retB_moved h1.2 h2
      have b1 := bill_bd hs hm
      have b2 := bill_bd hs h1.2
      rw [change_yes h1.1 h1.2 h2 hn]
      refine ⟨hs, h1.2, h2, ?_, ?_, ?_⟩
      · show _ ≤ (billV s (p.moved (p.other2 inc wh))).pen - (billV s p).pen ∧ (billV s (p.moved (p.other2 inc wh))).pen - (billV s p).pen ≤ _; omega
      · show _ ≤ (billV s (p.moved (p.other2 inc wh))).prin - (billV s p).prin ∧ (billV s (p.moved (p.other2 inc wh))).prin - (billV s p).prin ≤ _; omega
      · show _ ≤ (billV s (p.moved (p.other2 inc wh))).exc - (billV s p).exc ∧ (billV s (p.moved (p.other2 inc wh))).exc - (billV s p).exc ≤ _; omega
    · rw [change_no2 h2] at h; simp at h
  · rw [change_no1 h1] at h; simp at h
theorem PerOk.with_ {day bp : Int} {p : Per} (h : PerOk day bp p) {inc wh : Int} (hr : retB (p.ret.other2 inc wh) = true) : PerOk day bp (p.with_ (p.ret.other2 inc wh)) :=
  ⟨hr, h.b0, h.b1, h.b2, h.since, h.at_, h.done, h.acc, fun hle => (interest_eq day bp (p := p) rfl rfl rfl).trans (h.int hle), h.none_⟩
structure AmdOk (day bp : Int) (p : Per) (k : Nat) (r : Int × Mv × Per) : Prop where
  ok : PerOk day bp r.2.2
  ret : r.2.2.ret = p.ret
  cr : 0 ≤ r.2.1.cr
  o0 : r.2.2.o0 = p.o0 + r.2.1.c0
  o1 : r.2.2.o1 = p.o1 + r.2.1.c1
  o2 : r.2.2.o2 = p.o2 + r.2.1.c2
  paid : r.2.1.paid = 0
  cash : r.2.1.cash = 0
  z0 : k ≤ 0 → r.2.1.c0 = 0
  z1 : k ≤ 1 → r.2.1.c1 = 0
  z2 : k ≤ 2 → r.2.1.c2 = 0
theorem amdK_ok {day bp m0 m2 : Int} {p : Per} (h : PerOk day bp p) (hd : 0 ≤ day ∧ day ≤ 3652058) (hb : 0 ≤ bp ∧ bp ≤ 100000) : ∀ k, k ≤ 3 → (amdK day m0 m2 p k).1 = 0 → AmdOk day bp p k (amdK day m0 m2 p k)
  | 0, _, _ => ⟨h, rfl, by show (0 : Int) ≤ 0; omega, by show p.o0 = p.o0 + 0; omega, by show p.o1 = p.o1 + 0; omega, by show p.o2 = p.o2 + 0; omega, rfl, rfl, fun _ => rfl, fun _ => rfl, fun _ => rfl⟩
  | k + 1, hk, he => by
    by_cases h0 : (amdK day m0 m2 p k).1 ≠ 0
    · rw [amdK, if_pos h0] at he; simp at he
    · have ih := amdK_ok h hd hb (m0 := m0) (m2 := m2) k (by omega) (by omega)
      by_cases h1 : (amd1 day (k : Int) (moreK m0 m2 k) (amdK day m0 m2 p k).2.2).1 ≠ 0
      · rw [amdK, if_neg h0, if_pos h1] at he; simp at he
      · have e : amdK day m0 m2 p (k + 1) = (0, (amdK day m0 m2 p k).2.1.putK k (amd1 day (k : Int) (moreK m0 m2 k) (amdK day m0 m2 p k).2.2).2.1 (amd1 day (k : Int) (moreK m0 m2 k) (amdK day m0 m2 p k).2.2).2.2.1, (amd1 day (k : Int) (moreK m0 m2 k) (amdK day m0 m2 p k).2.2).2.2.2) := by
          rw [amdK, if_neg h0, if_neg h1]
        have hk3 : (k : Int) = 0 ∨ (k : Int) = 1 ∨ (k : Int) = 2 := by omega
        obtain ⟨a1, a2, a3, a4, a5, _⟩ := amd1_ok (more := moreK m0 m2 k) ih.ok hd hb hk3 (by omega)
        obtain ⟨i1, i2, i3, i4, i5, i6, i7, i8, i9, i10, i11⟩ := ih
        generalize amd1 day (k : Int) (moreK m0 m2 k) (amdK day m0 m2 p k).2.2 = q at *
        rw [e]
        generalize amdK day m0 m2 p k = r at *
        have x0 : ∀ q : Per, q.opn 0 = q.o0 := fun q => by simp [Per.opn]
        have x1 : ∀ q : Per, q.opn 1 = q.o1 := fun q => by simp [Per.opn]
        have x2 : ∀ q : Per, q.opn 2 = q.o2 := fun q => by simp [Per.opn]
        have hkk : k = 0 ∨ k = 1 ∨ k = 2 := by omega
        rcases hkk with rfl | rfl | rfl
        · have b1 := a5 1 (by omega) (by omega); have b2 := a5 2 (by omega) (by omega)
          have a4' : q.2.2.2.opn 0 = r.2.2.opn 0 + q.2.1 := a4
          rw [x0, x0] at a4'; rw [x1, x1] at b1; rw [x2, x2] at b2
          have z0 := i9 (by omega); have z1 := i10 (by omega); have z2 := i11 (by omega)
          exact ⟨a1, a2.trans i2, by show 0 ≤ r.2.1.cr + q.2.2.1; omega, by show q.2.2.2.o0 = p.o0 + q.2.1; omega, by show q.2.2.2.o1 = p.o1 + r.2.1.c1; omega, by show q.2.2.2.o2 = p.o2 + r.2.1.c2; omega, i7, i8, fun h => by omega, fun h => z1, fun h => z2⟩
        · have b1 := a5 0 (by omega) (by omega); have b2 := a5 2 (by omega) (by omega)
          have a4' : q.2.2.2.opn 1 = r.2.2.opn 1 + q.2.1 := a4
          rw [x1, x1] at a4'; rw [x0, x0] at b1; rw [x2, x2] at b2
          have z1 := i10 (by omega); have z2 := i11 (by omega)
          exact ⟨a1, a2.trans i2, by show 0 ≤ r.2.1.cr + q.2.2.1; omega, by show q.2.2.2.o0 = p.o0 + r.2.1.c0; omega, by show q.2.2.2.o1 = p.o1 + q.2.1; omega, by show q.2.2.2.o2 = p.o2 + r.2.1.c2; omega, i7, i8, fun h => by omega, fun h => by omega, fun h => z2⟩
        · have b1 := a5 0 (by omega) (by omega); have b2 := a5 1 (by omega) (by omega)
          have a4' : q.2.2.2.opn 2 = r.2.2.opn 2 + q.2.1 := a4
          rw [x2, x2] at a4'; rw [x0, x0] at b1; rw [x1, x1] at b2
          have z2 := i11 (by omega)
          exact ⟨a1, a2.trans i2, by show 0 ≤ r.2.1.cr + q.2.2.1; omega, by show q.2.2.2.o0 = p.o0 + r.2.1.c0; omega, by show q.2.2.2.o1 = p.o1 + r.2.1.c1; omega, by show q.2.2.2.o2 = p.o2 + q.2.1; omega, i7, i8, fun h => by omega, fun h => by omega, fun h => by omega⟩
theorem amd3_ok {day bp m0 m2 : Int} {p : Per} (h : PerOk day bp p) (hd : 0 ≤ day ∧ day ≤ 3652058) (hb : 0 ≤ bp ∧ bp ≤ 100000) (he : (amd3 day m0 m2 p).1 = 0) :
    PerOk day bp (amd3 day m0 m2 p).2.2 ∧ (amd3 day m0 m2 p).2.2.ret = p.ret ∧ 0 ≤ (amd3 day m0 m2 p).2.1.cr ∧
    (amd3 day m0 m2 p).2.2.o0 = p.o0 + (amd3 day m0 m2 p).2.1.c0 ∧ (amd3 day m0 m2 p).2.2.o1 = p.o1 + (amd3 day m0 m2 p).2.1.c1 ∧ (amd3 day m0 m2 p).2.2.o2 = p.o2 + (amd3 day m0 m2 p).2.1.c2 ∧ (amd3 day m0 m2 p).2.1.paid = 0 ∧ (amd3 day m0 m2 p).2.1.cash = 0 := by
  have h3 := amdK_ok h hd hb (m0 := m0) (m2 := m2) 3 (Nat.le_refl _) he
  exact ⟨h3.ok, h3.ret, h3.cr, h3.o0, h3.o1, h3.o2, h3.paid, h3.cash⟩
theorem place_at2 {S : Ac} {n : Int} (h : ¬ S.place n = -1) : ∃ i, ∃ hi : i < S.ps.length, S.place n = (i : Int) ∧ S.ps[i].ret.per = n ∧ S.ps.getD (S.place n).toNat Per.zero = S.ps[i] := by
  unfold Ac.place at h ⊢
  rcases idxI_spec (fun p : Per => decide (p.ret.per = n)) S.ps 0 with ⟨h1, _⟩ | ⟨i, hi, h1, h2, _⟩
  · exact absurd h1 h
  · refine ⟨i, hi, by rw [h1]; simp, by simpa using h2, ?_⟩
    rw [h1, List.getD_eq_getElem?_getD]
    simp only [Nat.zero_add, Int.toNat_natCast]
    rw [List.getElem?_eq_getElem hi]; rfl
theorem Good.amd {S : Ac} (h : Good S) (s : Sch) {i : Nat} (hi : i < S.ps.length) (inc wh : Int) : Good (amend1 S s i S.ps[i] inc wh).1 := by
  unfold amend1
  split
  · exact h
  · rename_i h1
    obtain ⟨k1, k2, k3, k4, k5, k6⟩ := change_ok (by omega : (changeS s S.ps[i].ret (S.ps[i].ret.other2 inc wh)).2 = 0)
    generalize changeS s S.ps[i].ret (S.ps[i].ret.other2 inc wh) = ch at *
    split
    · exact h
    · rename_i h2
      have hp := (h.per _ (List.getElem_mem hi)).with_ k3
      obtain ⟨q1, q2, q3, q4, q5, q6, _⟩ := amd3_ok hp h.day h.bp (by omega : (amd3 S.day ch.1.pen (ch.1.prin - ch.1.exc) (S.ps[i].with_ (S.ps[i].ret.other2 inc wh))).1 = 0)
      generalize amd3 S.day ch.1.pen (ch.1.prin - ch.1.exc) (S.ps[i].with_ (S.ps[i].ret.other2 inc wh)) = am at *
      split
      · exact h
      · rename_i h3
        obtain ⟨e1, e2, e3⟩ := add_ok (by omega : (addS S.cr am.2.1.cr).2 = 0)
        have hcr := h.cr
        have hper : am.2.2.ret.per = S.ps[i].ret.per ∧ am.2.2.ret.due = S.ps[i].ret.due := by rw [q2]; exact ⟨rfl, rfl⟩
        have hrise : RiseP (S.ps.set i am.2.2) := by
          have e : (S.ps.set i am.2.2).map (fun p => p.ret.per) = S.ps.map (fun p => p.ret.per) := by
            rw [List.map_set, hper.1]
            apply List.ext_getElem (by simp)
            intro j j1 j2
            rw [List.getElem_set]
            split
            · rename_i ej; subst ej; simp
            · rfl
          have h1 : (S.ps.map (fun p => p.ret.per)).Pairwise fun a b => a < b := List.pairwise_map.2 h.rise
          rw [← e] at h1
          exact List.pairwise_map.1 h1
        refine ⟨h.day, h.bp, by show 0 ≤ (addS _ _).1 ∧ (addS _ _).1 ≤ _; rw [e1]; omega, by show (S.ps.set i _).length ≤ 20; rw [List.length_set]; exact h.np, h.nm, hrise, fun p hpp => ?_, fun m hm => ?_, h.ids⟩
        · rcases List.mem_or_eq_of_mem_set hpp with hpp | rfl
          · exact h.per p hpp
          · exact q1
        · have hm0 := h.pm m hm
          refine ⟨hm0.id, hm0.day, hm0.amt, fun x hx => ?_, hm0.len, hm0.rest, hm0.sum⟩
          obtain ⟨h1, ⟨p, hpp, f1, f2⟩, h3⟩ := hm0.placed x hx
          obtain ⟨j, hj, rfl⟩ := List.mem_iff_getElem.1 hpp
          have hj2 : j < (S.ps.set i am.2.2).length := by rw [List.length_set]; exact hj
          have hg : (S.ps.set i am.2.2)[j].ret.per = S.ps[j].ret.per ∧ (S.ps.set i am.2.2)[j].ret.due = S.ps[j].ret.due := by
            rw [List.getElem_set]
            split
            · rename_i ej; subst ej; exact hper
            · exact ⟨rfl, rfl⟩
          have hx1 : ∃ q ∈ S.ps.set i am.2.2, q.ret.per = x.per := ⟨_, List.getElem_mem hj2, by rw [hg.1]; exact f1⟩
          exact ⟨placed_mem hrise hx1 h1.2, ⟨_, List.getElem_mem hj2, by rw [hg.1]; exact f1, by rw [hg.2]; exact f2⟩, h3⟩
theorem Good.amend {S : Ac} (h : Good S) (s : Sch) (n inc wh : Int) : Good (amendS S s n inc wh).1 := by
  unfold amendS
  split
  · exact h
  · rename_i h1
    obtain ⟨i, hi, e1, e2, e3⟩ := place_at2 h1
    rw [e3, e1, Int.toNat_natCast]
    exact h.amd s hi inc wh
theorem Good.step {S : Ac} (h : Good S) (t : Stp) : Good (stepS S t).1 := by
  unfold stepS
  split
  · exact h.file t.s t.r
  · split
    · exact h.amend t.s t.n t.a t.b
    · split
      · exact h.pay t.n t.a
      · split
        · exact h.reverse t.n
        · split
          · exact h.offset t.a
          · split
            · exact h.refund t.a
            · exact h.advance t.n
end Go.Proofs.YtbjjgnaojoaoiaaGreat
/- By each step what is open, and the credit, go as its move tells. -/
namespace Go.Proofs.YtbjjgnaojoaoiaaGreat
set_option linter.unusedVariables false
set_option linter.unusedSimpArgs false

def Per.tot (p : Per) : Int := p.o0 + p.o1 + p.o2
theorem opens_items (ps : List Per) : opens (itemsOf ps) = (ps.map Per.tot).sum := by
  induction ps with
  | nil => rfl
  | cons p ps ih =>
    have e : itemsOf (p :: ps) = itemsP p ++ itemsOf ps := by unfold itemsOf; rw [List.flatMap_cons]
    rw [e, opens_app, ih, List.map_cons, List.sum_cons]
    simp [opens, itemsP, Per.tot]; omega
theorem sum_setZ (l : List Int) (i : Nat) (h : i < l.length) (x : Int) : (l.set i x).sum = l.sum - l[i] + x := by
  induction l generalizing i with
  | nil => simp at h
  | cons y l ih =>
    cases i with
    | zero => simp; omega
    | succ i =>
      have := ih i (by simpa using h)
      simp only [List.set_cons_succ, List.sum_cons, List.getElem_cons_succ, this]; omega
theorem opens_set (ps : List Per) (i : Nat) (h : i < ps.length) (p : Per) : opens (itemsOf (ps.set i p)) = opens (itemsOf ps) - ps[i].tot + p.tot := by
  rw [opens_items, opens_items, List.map_set, sum_setZ _ _ (by simpa using h)]
  simp
/-- What a step's move tells. -/
structure TellsM (S : Ac) (r : Ac × Mv × Int) : Prop where
  opn : opens (itemsOf r.1.ps) + r.2.1.paid = opens (itemsOf S.ps) + r.2.1.c0 + r.2.1.c1 + r.2.1.c2
  cr : r.1.cr = S.cr + r.2.1.cr
theorem tells_file {S : Ac} (h : Good S) (s : Sch) (r : Ret) (he : (fileS S s r).2.2 = 0) : TellsM S (fileS S s r) := by
  unfold fileS at he ⊢
  by_cases h0 : (billS s (r.onDay S.day)).2 ≠ 0
  · rw [if_pos h0] at he; exact absurd he h0
  · rw [if_neg h0] at he ⊢
    by_cases h1 : S.place r.per ≠ -1
    · rw [if_pos h1] at he; simp at he
    · rw [if_neg h1] at he ⊢
      by_cases h2 : 20 ≤ S.ps.length
      · rw [if_pos h2] at he; simp at he
      · rw [if_neg h2] at he ⊢
        obtain ⟨b, er, hbl⟩ : ∃ b er, billS s (r.onDay S.day) = (b, er) := ⟨_, _, rfl⟩
        rw [hbl] at h0 he ⊢
        simp only at h0 he ⊢
        have hbb : retB (r.onDay S.day) = true ∧ (0 ≤ b.prin ∧ b.prin ≤ 1125899906842624) ∧ (0 ≤ b.pen ∧ b.pen ≤ b.prin) ∧ (0 ≤ b.exc ∧ b.exc ≤ 1125899906842624) := by
          by_cases hs : OkS s
          · by_cases hrr : retB (r.onDay S.day) = true
            · rw [billS_yes hs hrr] at hbl
              have h3 := bill_bd hs hrr
              injection hbl with hbl _
              rw [hbl] at h3
              exact ⟨hrr, h3.2.1, h3.2.2.1, h3.2.2.2.1⟩
            · rw [billS_no2 hrr] at hbl; injection hbl with _ h; omega
          · rw [billS_no1 hs] at hbl; injection hbl with _ h; omega
        obtain ⟨hrr, hpr, hpe, hex⟩ := hbb
        unfold file1 at he ⊢
        by_cases h3 : (settleS S.day S.bp (newPer (r.onDay S.day) b)).1 ≠ 0
        · rw [if_pos h3] at he; exact absurd he h3
        · rw [if_neg h3] at he ⊢
          by_cases h4 : (addS S.cr b.exc).2 ≠ 0
          · rw [if_pos h4] at he; simp at he
          · rw [if_neg h4]
            obtain ⟨e1, e2, e3⟩ := add_ok (by omega : (addS S.cr b.exc).2 = 0)
            obtain ⟨k1, k2, k3, k4, k5, k6⟩ := newPer_ok h hrr hpr hpe (by omega)
            refine ⟨?_, ?_⟩
            · show opens (itemsOf (insP _ _ _)) + 0 = _ + b.pen + (settleS S.day S.bp (newPer (r.onDay S.day) b)).2.1 + b.prin
              rw [opens_ins, k4, k5, k6]; omega
            · show (addS S.cr b.exc).1 = _; rw [e1]
theorem tells_amend {S : Ac} (h : Good S) (s : Sch) (n inc wh : Int) (he : (amendS S s n inc wh).2.2 = 0) : TellsM S (amendS S s n inc wh) := by
  unfold amendS at he ⊢
  by_cases h0 : S.place n = -1
  · rw [if_pos h0] at he; simp at he
  · rw [if_neg h0] at he ⊢
    obtain ⟨i, hi, e1, e2, e3⟩ := place_at2 h0
    rw [e3, e1, Int.toNat_natCast] at he ⊢
    unfold amend1 at he ⊢
    by_cases h1 : (changeS s S.ps[i].ret (S.ps[i].ret.other2 inc wh)).2 ≠ 0
    · rw [if_pos h1] at he; exact absurd he h1
    · rw [if_neg h1] at he ⊢
      obtain ⟨k1, k2, k3, k4, k5, k6⟩ := change_ok (by omega : (changeS s S.ps[i].ret (S.ps[i].ret.other2 inc wh)).2 = 0)
      generalize changeS s S.ps[i].ret (S.ps[i].ret.other2 inc wh) = ch at *
      have hp := (h.per _ (List.getElem_mem hi)).with_ k3
      by_cases h2 : (amd3 S.day ch.1.pen (ch.1.prin - ch.1.exc) (S.ps[i].with_ (S.ps[i].ret.other2 inc wh))).1 ≠ 0
      · rw [if_pos h2] at he; simp at he
      · rw [if_neg h2] at he ⊢
        obtain ⟨q1, q2, q3, q4, q5, q6, q7, _⟩ := amd3_ok hp h.day h.bp (by omega : (amd3 S.day ch.1.pen (ch.1.prin - ch.1.exc) (S.ps[i].with_ (S.ps[i].ret.other2 inc wh))).1 = 0)
        generalize amd3 S.day ch.1.pen (ch.1.prin - ch.1.exc) (S.ps[i].with_ (S.ps[i].ret.other2 inc wh)) = am at *
        by_cases h3 : (addS S.cr am.2.1.cr).2 ≠ 0
        · rw [if_pos h3] at he; simp at he
        · rw [if_neg h3]
          obtain ⟨f1, _, _⟩ := add_ok (by omega : (addS S.cr am.2.1.cr).2 = 0)
          refine ⟨?_, f1⟩
          show opens (itemsOf (S.ps.set i am.2.2)) + am.2.1.paid = _ + am.2.1.c0 + am.2.1.c1 + am.2.1.c2
          rw [opens_set _ _ hi, q7]
          have q4' : am.2.2.o0 = S.ps[i].o0 + am.2.1.c0 := q4
          have q5' : am.2.2.o1 = S.ps[i].o1 + am.2.1.c1 := q5
          have q6' : am.2.2.o2 = S.ps[i].o2 + am.2.1.c2 := q6
          unfold Per.tot; omega
theorem tells_pay {S : Ac} (h : Good S) (id a : Int) (he : (payS S id a).2.2 = 0) : TellsM S (payS S id a) ∧ (payS S id a).2.1.cash = (payS S id a).2.1.paid + (payS S id a).2.1.cr := by
  unfold payS at he ⊢
  by_cases h0 : ¬ ((1 ≤ id ∧ id ≤ 1099511627776) ∧ 1 ≤ a ∧ a ≤ 1125899906842624)
  · rw [if_pos h0] at he; simp at he
  · rw [if_neg h0] at he ⊢
    have ha : (1 ≤ id ∧ id ≤ 1099511627776) ∧ 1 ≤ a ∧ a ≤ 1125899906842624 := by simp at h0; omega
    by_cases h1 : 0 ≤ S.pay id
    · rw [if_pos h1] at he; simp at he
    · rw [if_neg h1] at he ⊢
      by_cases h2 : 50 ≤ S.ms.length
      · rw [if_pos h2] at he; simp at he
      · rw [if_neg h2] at he ⊢
        obtain ⟨ps, e, hi, hr, hp, hri⟩ := h.paid (a := a) (by omega)
        unfold pay1 at he ⊢
        rw [e] at he ⊢
        simp only at he ⊢
        by_cases h3 : (addS S.cr (leftI (itemsOf S.ps) a)).2 = 0
        · rw [if_pos h3]
          obtain ⟨f1, _, _⟩ := add_ok h3
          refine ⟨⟨?_, f1⟩, ?_⟩
          · show opens (itemsOf ps) + (a - leftI (itemsOf S.ps) a) = _ + 0 + 0 + 0
            rw [hi, opens_rest h.places (by omega), leftI_is]
            have := items_nn h
            omega
          · show a = (a - leftI (itemsOf S.ps) a) + leftI (itemsOf S.ps) a; omega
        · rw [if_neg h3] at he; simp at he
theorem tells_offset {S : Ac} (h : Good S) (a : Int) (he : (offsetS S a).2.2 = 0) : TellsM S (offsetS S a) ∧ (offsetS S a).2.1.cash = (offsetS S a).2.1.paid + (offsetS S a).2.1.cr := by
  unfold offsetS at he ⊢
  by_cases h0 : ¬ (1 ≤ a ∧ a ≤ 1125899906842624)
  · rw [if_pos h0] at he; simp at he
  · rw [if_neg h0] at he ⊢
    have ha : 1 ≤ a ∧ a ≤ 1125899906842624 := by simpa using h0
    by_cases h1 : S.cr < a
    · rw [if_pos h1] at he; simp at he
    · rw [if_neg h1] at he ⊢
      obtain ⟨ps, e, hi, hr, hp, hri⟩ := h.paid (a := a) (by omega)
      unfold offset1 at he ⊢
      rw [e] at he ⊢
      refine ⟨⟨?_, ?_⟩, ?_⟩
      · show opens (itemsOf ps) + (a - leftI (itemsOf S.ps) a) = _ + 0 + 0 + 0
        rw [hi, opens_rest h.places (by omega), leftI_is]
        have := items_nn h
        omega
      · show S.cr - (a - leftI (itemsOf S.ps) a) = S.cr + (leftI (itemsOf S.ps) a - a); omega
      · show (0 : Int) = (a - leftI (itemsOf S.ps) a) + (leftI (itemsOf S.ps) a - a); omega
theorem tells_refund {S : Ac} (a : Int) (he : (refundS S a).2.2 = 0) : TellsM S (refundS S a) ∧ (refundS S a).2.1.cash = (refundS S a).2.1.paid + (refundS S a).2.1.cr := by
  unfold refundS at he ⊢
  by_cases h0 : ¬ (1 ≤ a ∧ a ≤ 1125899906842624)
  · rw [if_pos h0] at he; simp at he
  · rw [if_neg h0] at he ⊢
    by_cases h1 : S.cr < a
    · rw [if_pos h1] at he; simp at he
    · rw [if_neg h1]
      exact ⟨⟨by show opens (itemsOf S.ps) + 0 = opens (itemsOf S.ps) + 0 + 0 + 0; omega, by show S.cr - a = S.cr + -a; omega⟩, by show -a = 0 + -a; omega⟩
theorem advK_opens {T bp : Int} {ps : List Per} {day : Int} (hp : ∀ p ∈ ps, PerOk day bp p) (hT : day ≤ T) : ∀ k, k ≤ ps.length → (advK T bp ps k).1 = 0 → opens (itemsOf (advK T bp ps k).2.2) = opens (itemsOf ps) + (advK T bp ps k).2.1
  | 0, _, _ => by simp [advK]
  | k + 1, hk, h => by
    by_cases h0 : (advK T bp ps k).1 ≠ 0
    · rw [advK, if_pos h0] at h; exact absurd h h0
    · obtain ⟨⟨a1, a2, a3, a4⟩, a5⟩ := advK_ok hp hT k (by omega) (by omega)
      have ih := advK_opens hp hT k (by omega) (by omega)
      have hkl : k < (advK T bp ps k).2.2.length := by omega
      have hk2 : (advK T bp ps k).2.2[k] = ps[k] := by
        have := a2 k (Nat.le_refl _)
        rw [List.getElem?_eq_getElem hkl, List.getElem?_eq_getElem (by omega)] at this
        injection this
      have hg : (advK T bp ps k).2.2.getD k Per.zero = ps[k] := by
        rw [List.getD_eq_getElem?_getD, a2 k (Nat.le_refl _), List.getElem?_eq_getElem (by omega)]; rfl
      by_cases h1 : (settleS T bp ps[k]).1 ≠ 0
      · rw [advK, if_neg h0, hg, if_pos h1] at h; exact absurd h h1
      · by_cases h2 : (addS (advK T bp ps k).2.1 (settleS T bp ps[k]).2.1).2 ≠ 0
        · rw [advK, if_neg h0, hg, if_neg h1, if_pos h2] at h; simp at h
        · have e : advK T bp ps (k + 1) = (0, (addS (advK T bp ps k).2.1 (settleS T bp ps[k]).2.1).1, (advK T bp ps k).2.2.set k (settleS T bp ps[k]).2.2) := by
            rw [advK, if_neg h0, hg, if_neg h1, if_neg h2]
          obtain ⟨q1, q2, q3, q4, q5, q6⟩ := (hp _ (List.getElem_mem (show k < ps.length by omega))).settle hT (by omega)
          obtain ⟨e1, _, _⟩ := add_ok (by omega : (addS (advK T bp ps k).2.1 (settleS T bp ps[k]).2.1).2 = 0)
          rw [e]
          show opens (itemsOf ((advK T bp ps k).2.2.set k _)) = _ + (addS _ _).1
          rw [opens_set _ _ hkl, e1, ih, hk2]
          unfold Per.tot; omega
theorem tells_advance {S : Ac} (h : Good S) (d : Int) (he : (advanceS S d).2.2 = 0) : TellsM S (advanceS S d) ∧ (advanceS S d).2.1.cash = (advanceS S d).2.1.paid + (advanceS S d).2.1.cr := by
  unfold advanceS at he ⊢
  by_cases h0 : ¬ (0 ≤ d ∧ d ≤ 36500)
  · rw [if_pos h0] at he; simp at he
  · rw [if_neg h0] at he ⊢
    by_cases h1 : 3652058 < S.day + d
    · rw [if_pos h1] at he; simp at he
    · rw [if_neg h1] at he ⊢
      unfold advance1 at he ⊢
      by_cases h2 : (advK (S.day + d) S.bp S.ps S.ps.length).1 ≠ 0
      · rw [if_pos h2] at he; exact absurd he h2
      · rw [if_neg h2]
        have hd : 0 ≤ d ∧ d ≤ 36500 := by simpa using h0
        refine ⟨⟨?_, ?_⟩, rfl⟩
        · have := advK_opens (T := S.day + d) h.per (by omega) S.ps.length (Nat.le_refl _) (by omega)
          show opens (itemsOf (advK (S.day + d) S.bp S.ps S.ps.length).2.2) + 0 = _ + 0 + (advK (S.day + d) S.bp S.ps S.ps.length).2.1 + 0
          omega
        · show S.cr = S.cr + 0; omega
/-- Parts that are given: what is open goes up by them. -/
theorem give1_opens {ps ps' : List Per} (h : RiseP ps) {day times : Int} {x : Dq} (hx : Placed ps x) (hg : give1 day times ps x = some ps') : opens (itemsOf ps') = opens (itemsOf ps) + times * x.opn := by
  obtain ⟨_, _, i, hi, hper, rfl, _, _⟩ := give1_items h hx hg
  rw [opens_set _ _ hi]
  have hk := hx.2
  have : (Per.setO day ps[i] x.kind (ps[i].opn x.kind + times * x.opn)).tot = ps[i].tot + times * x.opn := by
    unfold Per.setO Per.putO Per.tot
    rcases hk with e | e | e
    · rw [e, if_neg (by omega), if_pos rfl]; simp [Per.opn]; omega
    · rw [e, if_neg (by omega), if_neg (by omega), if_pos rfl]; simp [Per.opn]; omega
    · rw [e]
      split
      · simp [Per.opn]; omega
      · rw [if_neg (by omega), if_neg (by omega)]; simp [Per.opn]; omega
  omega
theorem giveS_opens {day times : Int} : ∀ (l : List Dq) {ps ps' : List Per}, RiseP ps → (∀ x ∈ l, Placed ps x) → giveS day times ps l = some ps' → opens (itemsOf ps') = opens (itemsOf ps) + times * opens l
  | [], ps, ps', h, _, hg => by
    simp only [giveS] at hg; injection hg with hg; subst hg; simp [opens]
  | x :: l, ps, ps', h, hl, hg => by
    simp only [giveS] at hg
    cases h1 : give1 day times ps x with
    | none => rw [h1] at hg; cases hg
    | some ps1 =>
      rw [h1] at hg
      obtain ⟨_, e2, _⟩ := give1_items h (hl x (by simp)) h1
      have e3 := give1_opens h (hl x (by simp)) h1
      have e4 := giveS_opens l (riseP_ret h e2) (fun y hy => (hl y (by simp [hy])).ret e2) hg
      rw [e4, e3, opens_cons, Int.mul_add]; omega
theorem tells_reverse {S : Ac} (h : Good S) (id : Int) (he : (reverseS S id).2.2 = 0) : TellsM S (reverseS S id) ∧ (reverseS S id).2.1.cash = (reverseS S id).2.1.paid + (reverseS S id).2.1.cr := by
  unfold reverseS at he ⊢
  by_cases h0 : S.pay id < 0
  · rw [if_pos h0] at he; simp at he
  · rw [if_neg h0] at he ⊢
    obtain ⟨i, hi, e1, e2, e3⟩ := pay_at h0
    rw [e3, e1, Int.toNat_natCast] at he ⊢
    by_cases h1 : S.ms[i].rev = true
    · rw [if_pos h1] at he; simp at he
    · rw [if_neg h1] at he ⊢
      by_cases h2 : S.cr < S.ms[i].rest
      · rw [if_pos h2] at he; simp at he
      · rw [if_neg h2] at he ⊢
        unfold reverse1 at he ⊢
        have hm := h.pm _ (List.getElem_mem hi)
        cases hg : giveS S.day 1 S.ps S.ms[i].parts with
        | none => rw [hg] at he; simp at he
        | some ps =>
          have ho := giveS_opens S.ms[i].parts h.rise (fun x hx => (hm.placed x hx).1) hg
          have hs := hm.sum
          refine ⟨⟨?_, ?_⟩, ?_⟩
          · show opens (itemsOf ps) + (S.ms[i].rest - S.ms[i].amt) = _ + 0 + 0 + 0; omega
          · show S.cr - S.ms[i].rest = S.cr + -S.ms[i].rest; omega
          · show -S.ms[i].amt = (S.ms[i].rest - S.ms[i].amt) + -S.ms[i].rest; omega
theorem tells_step {S : Ac} (h : Good S) (t : Stp) (he : (stepS S t).2.2 = 0) : TellsM S (stepS S t) ∧ (t.act ≠ 0 → t.act ≠ 1 → (stepS S t).2.1.cash = (stepS S t).2.1.paid + (stepS S t).2.1.cr) := by
  unfold stepS at he ⊢
  by_cases h0 : t.act = 0
  · rw [if_pos h0] at he ⊢; exact ⟨tells_file h t.s t.r he, fun h => absurd h0 h⟩
  · rw [if_neg h0] at he ⊢
    by_cases h1 : t.act = 1
    · rw [if_pos h1] at he ⊢; exact ⟨tells_amend h t.s t.n t.a t.b he, fun _ h => absurd h1 h⟩
    · rw [if_neg h1] at he ⊢
      by_cases h2 : t.act = 2
      · rw [if_pos h2] at he ⊢; exact ⟨(tells_pay h t.n t.a he).1, fun _ _ => (tells_pay h t.n t.a he).2⟩
      · rw [if_neg h2] at he ⊢
        by_cases h3 : t.act = 3
        · rw [if_pos h3] at he ⊢; exact ⟨(tells_reverse h t.n he).1, fun _ _ => (tells_reverse h t.n he).2⟩
        · rw [if_neg h3] at he ⊢
          by_cases h4 : t.act = 4
          · rw [if_pos h4] at he ⊢; exact ⟨(tells_offset h t.a he).1, fun _ _ => (tells_offset h t.a he).2⟩
          · rw [if_neg h4] at he ⊢
            by_cases h5 : t.act = 5
            · rw [if_pos h5] at he ⊢; exact ⟨(tells_refund t.a he).1, fun _ _ => (tells_refund t.a he).2⟩
            · rw [if_neg h5] at he ⊢; exact ⟨(tells_advance h t.n he).1, fun _ _ => (tells_advance h t.n he).2⟩
end Go.Proofs.YtbjjgnaojoaoiaaGreat
/- What is open is told in the order in which it is paid; paying and reversing leaves all as it was: in plain words. -/
namespace Go.Proofs.YtbjjgnaojoaoiaaGreat
set_option linter.unusedVariables false
set_option linter.unusedSimpArgs false

/-- What is left of items that are paid one behind the other, in a row. -/
def walkO : Int → List Dq → List Dq
  | _, [] => []
  | left, x :: l => if x.opn - min left x.opn = 0 then walkO (left - min left x.opn) l else { x with opn := x.opn - min left x.opn } :: walkO (left - min left x.opn) l
def restOf (its : List Dq) (a : Int) (x : Dq) : Dq := ⟨x.due, x.kind, x.per, x.opn - paidI its a x⟩
theorem key_rest (its : List Dq) (a : Int) (x : Dq) : keyI (restOf its a x) = keyI x := rfl
theorem ord_rest {its : List Dq} {a : Int} (h : placesE its = 0) (h2 : placesE (restI its a) = 0) : ordS (restI its a) = (ordS its).map (restOf its a) := by
  have ho := ordS_is h
  refine (IsOrd.same ⟨?_, ?_⟩ (ordS_is h2)).symm
  · exact ho.1.map (restOf its a)
  · exact List.pairwise_map.2 (ho.2.imp fun h => by rw [key_rest, key_rest]; exact h)
theorem rise_ahd {pre l : List Dq} {x : Dq} (h : (pre ++ x :: l).Pairwise fun a b => keyI a < keyI b) : ahd (pre ++ x :: l) (keyI x) = opens pre := by
  obtain ⟨_, h2, h3⟩ := List.pairwise_append.1 h
  have h4 := (List.pairwise_cons.1 h2).1
  unfold ahd
  rw [List.filter_append, List.filter_cons, if_neg (by simp), opens_app]
  have e1 : pre.filter (fun y => decide (keyI y < keyI x)) = pre := List.filter_eq_self.2 fun y hy => by simpa using h3 y hy x (by simp)
  have e2 : l.filter (fun y => decide (keyI y < keyI x)) = [] := List.filter_eq_nil_iff.2 fun y hy => by have := h4 y hy; simp; omega
  rw [e1, e2]; simp [opens]
theorem live_cons0 {x : Dq} {l : List Dq} (h : x.opn = 0) : live (x :: l) = live l := by unfold live; rw [List.filter_cons, if_neg (by simp [nil0, h])]
theorem live_cons1 {x : Dq} {l : List Dq} (h : x.opn ≠ 0) : live (x :: l) = x :: live l := by unfold live; rw [List.filter_cons, if_pos (by simp [nil0, h])]
theorem walk_is {a : Int} {s : List Dq} (hs : s.Pairwise fun a b => keyI a < keyI b) (hn : ∀ x ∈ s, 0 ≤ x.opn) : ∀ (l pre : List Dq), s = pre ++ l → live (l.map (restOf s a)) = walkO (max 0 (a - opens pre)) (live l)
  | [], pre, _ => by simp [live, walkO]
  | x :: l, pre, e => by
    have ih := walk_is (a := a) hs hn l (pre ++ [x]) (by rw [e]; simp)
    have hx : 0 ≤ x.opn := hn x (by rw [e]; simp)
    have ha : ahd s (keyI x) = opens pre := by rw [e]; exact rise_ahd (by rw [← e]; exact hs)
    have hp : paidI s a x = min (max 0 (a - opens pre)) x.opn := by unfold paidI clampP; rw [ha]; omega
    have eo : opens (pre ++ [x]) = opens pre + x.opn := by rw [opens_app]; simp [opens]
    rw [eo] at ih
    have ep : opens pre = opens pre := rfl
    rw [List.map_cons]
    by_cases h0 : x.opn = 0
    · have h1 : (restOf s a x).opn = 0 := by show x.opn - paidI s a x = 0; rw [hp]; omega
      rw [live_cons0 h1, live_cons0 h0, ih, h0, Int.add_zero]
    · rw [live_cons1 h0, walkO]
      have em : max 0 (a - opens pre) - min (max 0 (a - opens pre)) x.opn = max 0 (a - (opens pre + x.opn)) := by omega
      rw [em]
      by_cases h1 : x.opn - min (max 0 (a - opens pre)) x.opn = 0
      · rw [if_pos h1, live_cons0 (by show x.opn - paidI s a x = 0; rw [hp]; exact h1), ih]
      · rw [if_neg h1, live_cons1 (by show x.opn - paidI s a x ≠ 0; rw [hp]; exact h1), ih]
        congr 1
        unfold restOf; rw [hp]
/-- A payment pays in that order. -/
theorem order_pays {S : Ac} (h : Good S) {id a : Int} (ha : 1 ≤ a) (he : (payS S id a).2.2 = 0) : openS (payS S id a).1.ps = walkO a (openS S.ps) := by
  unfold payS at he ⊢
  by_cases h0 : ¬ ((1 ≤ id ∧ id ≤ 1099511627776) ∧ 1 ≤ a ∧ a ≤ 1125899906842624)
  · rw [if_pos h0] at he; simp at he
  · rw [if_neg h0] at he ⊢
    by_cases h1 : 0 ≤ S.pay id
    · rw [if_pos h1] at he; simp at he
    · rw [if_neg h1] at he ⊢
      by_cases h2 : 50 ≤ S.ms.length
      · rw [if_pos h2] at he; simp at he
      · rw [if_neg h2] at he ⊢
        obtain ⟨ps, e, hi, hr, hp, hri⟩ := h.paid (a := a) (by omega)
        unfold pay1 at he ⊢
        rw [e] at he ⊢
        simp only at he ⊢
        by_cases h3 : (addS S.cr (leftI (itemsOf S.ps) a)).2 = 0
        · rw [if_pos h3]
          show openS ps = _
          have hpl := items_ok hri hp (by rw [ret_len hr]; have := h.np; omega)
          rw [hi] at hpl
          have ho := ordS_is h.places
          have hs := ho.places h.places
          unfold openS
          rw [hi, ord_rest h.places hpl]
          have e2 : (ordS (itemsOf S.ps)).map (restOf (itemsOf S.ps) a) = (ordS (itemsOf S.ps)).map (restOf (ordS (itemsOf S.ps)) a) := List.map_congr_left fun x _ => by unfold restOf; rw [paidI_perm ho.1]
          rw [e2]
          have := walk_is (a := a) ho.2 (fun x hx => by have := okI_yes (List.all_eq_true.1 (placesE_ok hs).2.1 x hx); omega) (ordS (itemsOf S.ps)) [] rfl
          rw [this]
          congr 1
          simp [opens]; omega
        · rw [if_neg h3] at he; simp at he
/-- How a payment of the law ends, if it is refused. -/
theorem pay_errs (S : Ac) {id a : Int} (h1 : 1 ≤ id ∧ id ≤ 1099511627776) (h2 : 1 ≤ a ∧ a ≤ 1125899906842624) : (payS S id a).2.2 = 0 ∨ (payS S id a).2.2 = 5 ∨ (payS S id a).2.2 = 2 := by
  unfold payS
  rw [if_neg (by simp; omega)]
  split
  · exact .inr (.inl rfl)
  · split
    · exact .inr (.inr rfl)
    · unfold pay1
      cases giveS S.day (-1) S.ps (partsOf (itemsOf S.ps) a) with
      | none => exact .inr (.inr rfl)
      | some ps =>
        simp only
        split
        · exact .inl rfl
        · exact .inr (.inr rfl)
theorem pay_errs_any (S : Ac) (id a : Int) : (payS S id a).2.2 = 0 ∨ (payS S id a).2.2 = 1 ∨ (payS S id a).2.2 = 5 ∨ (payS S id a).2.2 = 2 := by
  by_cases h : (1 ≤ id ∧ id ≤ 1099511627776) ∧ 1 ≤ a ∧ a ≤ 1125899906842624
  · rcases pay_errs S h.1 h.2 with e | e | e
    · exact .inl e
    · exact .inr (.inr (.inl e))
    · exact .inr (.inr (.inr e))
  · unfold payS; rw [if_pos (by simpa using h)]; exact .inr (.inl rfl)
theorem openS_mem {S : Ac} (h : Good S) {x : Dq} (hx : x ∈ openS S.ps) : okI x = true ∧ 1 ≤ x.opn := by
  have hok := (placesE_ok (openS_places h.places)).2.1
  have h1 := List.all_eq_true.1 hok x hx
  refine ⟨h1, ?_⟩
  have h2 := okI_yes h1
  unfold openS live at hx
  have h3 : ¬ x.opn = 0 := by simpa [nil0] using (List.mem_filter.1 hx).2
  omega
theorem openS_rise {S : Ac} (h : Good S) : (openS S.ps).Pairwise fun a b => keyI a < keyI b := List.Pairwise.sublist List.filter_sublist (ordS_is h.places).2
/-- Giving goes through, where nothing gets too great. -/
theorem giveS_some1 {day bp : Int} (hd : 0 ≤ day ∧ day ≤ 3652058) (hb : 0 ≤ bp ∧ bp ≤ 100000) : ∀ (l : List Dq) {ps : List Per}, RiseP ps → (∀ p ∈ ps, PerOk day bp p) → (∀ x ∈ l, Placed ps x) → (∀ y ∈ l, 0 ≤ y.opn ∧ y.opn ≤ 4611686018427387904) →
    (∀ y ∈ itemsOf ps, y.opn + amtFor l y.per y.kind ≤ 4611686018427387904) → ∃ ps', giveS day 1 ps l = some ps'
  | [], ps, hr, hp, _, _, _ => ⟨ps, rfl⟩
  | x :: l, ps, hr, hp, hl, ho, hf => by
    obtain ⟨⟨i, hi, hpl⟩, hk⟩ := hl x (by simp)
    obtain ⟨_, hper⟩ := place_is hpl
    have hgd : ps.getD i Per.zero = ps[i] := by rw [List.getD_eq_getElem?_getD, List.getElem?_eq_getElem hi]; rfl
    have b := opn_bd (hp _ (List.getElem_mem hi)) hk
    have o := ho x (by simp)
    have hle : ps[i].opn x.kind + x.opn ≤ 4611686018427387904 := by
      have := hf _ (items_at hi hk)
      have h2 := amtFor_nn (fun y hy => (ho y (by simp [hy])).1) x.per x.kind (l := l)
      have h3 := amtFor_cons x l x.per x.kind
      rw [amtFor_one, if_pos ⟨rfl, rfl⟩] at h3
      simp only [hper] at this
      omega
    have ha : addS (ps[i].opn x.kind) (1 * x.opn) = (ps[i].opn x.kind + 1 * x.opn, 0) := add_yes (by simp [amt]; omega) (by omega)
    have h1 : give1 day 1 ps x = some (ps.set i (Per.setO day ps[i] x.kind (ps[i].opn x.kind + 1 * x.opn))) := by
      rw [give1, hpl, Int.toNat_natCast, hgd, ha]; rfl
    obtain ⟨q1, q2, q3⟩ := give1_ok (l := l) hd hb hr hp (hl x (by simp)) (fun y hy => (ho y hy).1) (.inl rfl) h1
    obtain ⟨e1, e2, _⟩ := give1_items hr (hl x (by simp)) h1
    obtain ⟨ps', e⟩ := giveS_some1 hd hb l q2 q1 (fun y hy => (hl y (by simp [hy])).ret e2) (fun y hy => ho y (by simp [hy])) (fun y hy => by
      rw [e1] at hy
      obtain ⟨y0, hy0, rfl⟩ := List.mem_map.1 hy
      have := hf y0 hy0
      rw [amtFor_cons x l] at this
      simp only [bump]
      omega)
    exact ⟨ps', by simp only [giveS, h1]; exact e⟩
theorem pay_snoc {S : Ac} {m : Pm} (h : ∀ q ∈ S.ms, q.id ≠ m.id) (T : Ac) (hT : T.ms = S.ms ++ [m]) : T.pay m.id = (S.ms.length : Int) := by
  unfold Ac.pay
  rw [hT]
  rcases idxI_spec (fun p : Pm => decide (p.id = m.id)) (S.ms ++ [m]) 0 with ⟨_, h2⟩ | ⟨i, hi, h1, h2, _⟩
  · have := h2 m (by simp); simp at this
  · rw [h1]
    have h2' : (S.ms ++ [m])[i].id = m.id := by simpa using h2
    by_cases hlt : i < S.ms.length
    · rw [List.getElem_append_left hlt] at h2'
      exact absurd h2' (h _ (List.getElem_mem hlt))
    · have : i < S.ms.length + 1 := by simpa using hi
      have : i = S.ms.length := by omega
      subst this; simp
/-- Paid, and reversed. -/
theorem undone {S : Ac} (h : Good S) {id a : Int} (he : (payS S id a).2.2 = 0) :
    (reverseS (payS S id a).1 id).2.2 = 0 ∧ openS (reverseS (payS S id a).1 id).1.ps = openS S.ps ∧ (reverseS (payS S id a).1 id).1.cr = S.cr ∧ (reverseS (reverseS (payS S id a).1 id).1 id).2.2 = 5 := by
  have hG := h.pay id a
  unfold payS at he hG ⊢
  by_cases h0 : ¬ ((1 ≤ id ∧ id ≤ 1099511627776) ∧ 1 ≤ a ∧ a ≤ 1125899906842624)
  · rw [if_pos h0] at he; simp at he
  · rw [if_neg h0] at he hG ⊢
    have ha : (1 ≤ id ∧ id ≤ 1099511627776) ∧ 1 ≤ a ∧ a ≤ 1125899906842624 := by simp at h0; omega
    by_cases h1 : 0 ≤ S.pay id
    · rw [if_pos h1] at he; simp at he
    · rw [if_neg h1] at he hG ⊢
      by_cases h2 : 50 ≤ S.ms.length
      · rw [if_pos h2] at he; simp at he
      · rw [if_neg h2] at he hG ⊢
        obtain ⟨ps, e, hi, hr, hp, hri⟩ := h.paid (a := a) (by omega)
        have hl := leftI_bd h.places (show 0 ≤ a by omega)
        unfold pay1 at he hG ⊢
        rw [e] at he hG ⊢
        simp only at he hG ⊢
        by_cases h3 : (addS S.cr (leftI (itemsOf S.ps) a)).2 = 0
        · rw [if_pos h3] at hG ⊢
          obtain ⟨f1, _, _⟩ := add_ok h3
          rw [f1] at hG ⊢
          simp only at hG ⊢
          obtain ⟨m, hm⟩ : ∃ m : Pm, m = ⟨id, S.day, a, partsOf (itemsOf S.ps) a, leftI (itemsOf S.ps) a, false⟩ := ⟨_, rfl⟩
          rw [← hm] at hG ⊢
          obtain ⟨T, hT⟩ : ∃ T : Ac, T = ({ S with ps := ps, cr := S.cr + leftI (itemsOf S.ps) a, ms := S.ms ++ [m] } : Ac) := ⟨_, rfl⟩
          have hTe : ({ day := S.day, bp := S.bp, cr := S.cr + leftI (itemsOf S.ps) a, ps := ps, ms := S.ms ++ [m] } : Ac) = T := hT.symm
          rw [hTe] at hG ⊢
          have hmid : m.id = id := by rw [hm]
          have hTm : T.ms = S.ms ++ [m] := by rw [hT]
          have hpay : T.pay id = (S.ms.length : Int) := by
            rw [← hmid]
            exact pay_snoc (fun q hq e => pay_new h1 q hq (e.trans hmid)) T hTm
          have hgd : T.ms.getD S.ms.length noPm = m := by rw [hTm]; simp
          have hcr := h.cr
          have hmm := hG.pm m (by rw [hTm]; simp)
          have hTps : T.ps = ps := by rw [hT]
          have hTday : T.day = S.day := by rw [hT]
          have hTcr : T.cr = S.cr + leftI (itemsOf S.ps) a := by rw [hT]
          have hmp : m.parts = partsOf (itemsOf S.ps) a := by rw [hm]
          have hmr : m.rest = leftI (itemsOf S.ps) a := by rw [hm]
          have hmv : m.rev = false := by rw [hm]
          obtain ⟨ps2, e2⟩ := giveS_some1 hG.day hG.bp m.parts hG.rise hG.per (fun x hx => (hmm.placed x hx).1) (fun x hx => by have := (hmm.placed x hx).2.2; omega) (fun y hy => by
            rw [hTps, hi] at hy
            obtain ⟨y0, hy0, rfl⟩ := List.mem_map.1 hy
            rw [hmp]
            show y0.opn - paidI (itemsOf S.ps) a y0 + amtFor (partsOf (itemsOf S.ps) a) y0.per y0.kind ≤ _
            rw [amtFor_parts h.rise h.places a hy0]
            have := okI_yes (List.all_eq_true.1 (placesE_ok h.places).2.1 y0 hy0)
            omega)
          obtain ⟨i1, i2⟩ := giveS_items m.parts hG.rise (fun x hx => (hmm.placed x hx).1) e2
          have hit : itemsOf ps2 = itemsOf S.ps := by
            rw [i1, hTps, hi]
            unfold restI
            rw [List.map_map]
            have : (itemsOf S.ps).map (fun y => y) = itemsOf S.ps := List.map_id' _
            conv => rhs; rw [← this]
            apply List.map_congr_left
            intro y hy
            simp only [Function.comp, bump]
            rw [hmp, amtFor_parts h.rise h.places a hy]
            have : y.opn - paidI (itemsOf S.ps) a y + 1 * paidI (itemsOf S.ps) a y = y.opn := by omega
            rw [this]
          have hrv : reverseS T id = ({ T with ps := ps2, cr := T.cr - m.rest, ms := T.ms.set S.ms.length m.back }, ⟨0, 0, 0, m.rest - m.amt, -m.rest, -m.amt⟩, 0) := by
            unfold reverseS
            rw [hpay, if_neg (by omega), Int.toNat_natCast, hgd, hmv, if_neg (by simp), if_neg (by rw [hTcr, hmr]; omega)]
            unfold reverse1
            rw [e2]
          rw [hrv]
          refine ⟨rfl, ?_, ?_, ?_⟩
          · show openS ps2 = openS S.ps
            unfold openS; rw [hit]
          · show T.cr - m.rest = S.cr; rw [hTcr, hmr]; omega
          · have hms : T.ms.set S.ms.length m.back = S.ms ++ [m.back] := by
              rw [hTm, List.set_append_right _ _ (Nat.le_refl _), Nat.sub_self]; rfl
            rw [hms]
            have hbid : m.back.id = id := hmid
            unfold reverseS
            have hp2 : Ac.pay { day := T.day, bp := T.bp, cr := T.cr - m.rest, ps := ps2, ms := S.ms ++ [m.back] } id = (S.ms.length : Int) := by
              have := pay_snoc (S := S) (m := m.back) (fun q hq e => pay_new h1 q hq (e.trans hbid)) { day := T.day, bp := T.bp, cr := T.cr - m.rest, ps := ps2, ms := S.ms ++ [m.back] } rfl
              rw [hbid] at this; exact this
            rw [hp2, if_neg (by omega), Int.toNat_natCast]
            have hg2 : (S.ms ++ [m.back]).getD S.ms.length noPm = m.back := by simp
            show (if ((S.ms ++ [m.back]).getD S.ms.length noPm).rev = true then _ else _ : Ac × Mv × Int).2.2 = 5
            have hbr : m.back.rev = true := rfl
            rw [hg2, if_pos hbr]
        · rw [if_neg h3] at he; simp at he
end Go.Proofs.YtbjjgnaojoaoiaaGreat
/- Credit is refunded, or offset, no further than it goes: in plain words. The awakening account. -/
namespace Go.Proofs.YtbjjgnaojoaoiaaGreat
set_option linter.unusedVariables false
set_option linter.unusedSimpArgs false

theorem refund_law (S : Ac) {a : Int} (ha : 1 ≤ a ∧ a ≤ 1125899906842624) : (a ≤ S.cr ∧ refundS S a = ({ S with cr := S.cr - a }, ⟨0, 0, 0, 0, -a, -a⟩, 0)) ∨ (S.cr < a ∧ refundS S a = (S, Mv.zero, 2)) := by
  unfold refundS
  rw [if_neg (by simpa using ha)]
  by_cases h : S.cr < a
  · exact .inr ⟨h, by rw [if_pos h]⟩
  · exact .inl ⟨by omega, by rw [if_neg h]⟩
theorem offset_law {S : Ac} (h : Good S) {a : Int} (ha : 1 ≤ a ∧ a ≤ 1125899906842624) : (a ≤ S.cr ∧ (offsetS S a).2.2 = 0 ∧ (offsetS S a).1.cr = S.cr - (offsetS S a).2.1.paid ∧ 0 ≤ (offsetS S a).2.1.paid ∧ (offsetS S a).2.1.paid ≤ a) ∨ (S.cr < a ∧ offsetS S a = (S, Mv.zero, 2)) := by
  unfold offsetS
  rw [if_neg (by simpa using ha)]
  by_cases h0 : S.cr < a
  · exact .inr ⟨h0, by rw [if_pos h0]⟩
  · rw [if_neg h0]
    obtain ⟨ps, e, hi, hr, hp, hri⟩ := h.paid (a := a) (by omega)
    have hl := leftI_bd h.places (show 0 ≤ a by omega)
    unfold offset1
    rw [e]
    refine .inl ⟨by omega, rfl, rfl, ?_, ?_⟩
    · show 0 ≤ a - leftI (itemsOf S.ps) a; omega
    · show a - leftI (itemsOf S.ps) a ≤ a; omega

/-- The schedule of one rate, and the return, of the awakening. -/
def flatS : Sch := ⟨[⟨0, 1000⟩], 0, 0, 500, 5, 10⟩
def wakeR : Ret := ⟨1, 100, 0, 1000000, 0⟩
theorem flat_ok : OkS flatS := by
  refine ⟨by decide, by decide, by decide, rfl, fun i hi => ?_, by decide, by decide, ?_⟩
  · have : i = 0 := by have : i < 1 := hi; omega
    subst this
    exact ⟨by decide, by decide, fun h => by omega⟩
  · decide
theorem flat_up : up_ flatS.bs 1000000 1 = 1000000000 := by
  simp [up_, piece, lft, fr, bpA, flatS]
  decide
theorem wake_bill : billS flatS (wakeR.onDay 100) = (⟨100000, 100000, 0, 0⟩, 0) := by
  rw [billS_yes flat_ok (by decide)]
  have ht : taxV flatS 1000000 = 100000 := by
    unfold taxV partS
    have : max ((1000000 : Int) - flatS.ded) 0 = 1000000 := by decide
    rw [this]
    have e : flatS.bs.length = 1 := rfl
    rw [e, flat_up]; decide
  have hl : lateI (wakeR.onDay 100) = 0 := late_none (by decide)
  have hp : prinV flatS (wakeR.onDay 100) = 100000 := by unfold prinV; show max (taxV flatS 1000000 - 0) 0 = _; rw [ht]; decide
  unfold billV
  rw [hl, hp]
  show ((⟨taxV flatS 1000000, 100000, penV flatS 100000 0, max (0 - taxV flatS 1000000) 0⟩ : Bl), (0 : Int)) = _
  rw [ht]
  rfl
theorem simple_is {p bp d : Int} (hp : 0 ≤ p ∧ p ≤ 4611686018427387904) (hb : 0 ≤ bp ∧ bp ≤ 100000) (hd : 0 ≤ d ∧ d ≤ 3652058) {x : Int} (h : p * (bp * d) / 3650000 = x) (hx : 0 ≤ x ∧ x ≤ 4611686018427387904) : simpleS p bp d = (x, 0) := by
  have h1 : okP p = true := by simpa [okP] using hp
  have h2 : okR bp = true := by simpa [okR] using hb
  have h3 : okD d = true := by simpa [okD] using hd
  rw [simpleS, h1, h2, h3, h]
  exact told_yes (by simp [amt]; omega)
def wakeP0 : Per := ⟨wakeR.onDay 100, 0, 0, 100000, 100, 0, 0⟩
def wakeP1 : Per := ⟨wakeR.onDay 100, 0, 1000, 100000, 100, 0, 1000⟩
theorem add_is {a b x : Int} (h : a + b = x) (ha : -4611686018427387904 ≤ a ∧ a ≤ 4611686018427387904) (hb : -4611686018427387904 ≤ b ∧ b ≤ 4611686018427387904) (hx : -4611686018427387904 ≤ x ∧ x ≤ 4611686018427387904) : addS a b = (x, 0) := by
  rw [add_yes (by simp [amt]; omega) (by omega), h]
theorem wake_settle0 : settleS 100 365 wakeP0 = (0, 0, wakeP0) := by
  have hi : interestS 100 365 wakeP0 = (0, 0) := by
    unfold interestS wakeP0
    rw [if_neg (by decide)]
    simp only [Int.sub_self]
    have hs : simpleS 100000 365 0 = (0, 0) := simple_is (by decide) (by decide) (by decide) (x := 0) (by decide) (by decide)
    have ha : addS 0 0 = (0, 0) := add_is (by decide) (by decide) (by decide) (by decide)
    rw [hs]
    exact ha
  unfold settleS
  rw [hi]
  have ha : addS wakeP0.o1 ((0 : Int) - wakeP0.acc) = (0, 0) := add_is (by decide) (by decide) (by decide) (by decide)
  simp only [ha]
  simp [wakeP0]
theorem wake_settle1 : settleS 200 365 wakeP0 = (0, 1000, wakeP1) := by
  have hi : interestS 200 365 wakeP0 = (1000, 0) := by
    unfold interestS wakeP0
    rw [if_neg (by decide)]
    have hs : simpleS 100000 365 (200 - 100) = (1000, 0) := simple_is (by decide) (by decide) (by decide) (by decide) (by decide)
    have ha : addS 0 1000 = (1000, 0) := add_is (by decide) (by decide) (by decide) (by decide)
    simp only [hs]
    exact ha
  unfold settleS
  rw [hi]
  have ha : addS wakeP0.o1 ((1000 : Int) - wakeP0.acc) = (1000, 0) := add_is (by decide) (by decide) (by decide) (by decide)
  simp only [ha]
  simp [wakeP0, wakeP1]
def wakeA0 : Ac := Ac.new 100 365
def wakeA1 : Ac := ⟨100, 365, 0, [wakeP0], []⟩
def wakeA2 : Ac := ⟨200, 365, 0, [wakeP1], []⟩
theorem wake_file : fileS wakeA0 flatS wakeR = (wakeA1, ⟨0, 0, 100000, 0, 0, 0⟩, 0) := by
  unfold fileS
  have hd : wakeA0.day = 100 := rfl
  rw [hd, wake_bill]
  rw [if_neg (by decide), if_neg (by simp [Ac.place, wakeA0, Ac.new, idxI]), if_neg (by simp [wakeA0, Ac.new])]
  unfold file1
  have e : newPer (wakeR.onDay 100) ⟨100000, 100000, 0, 0⟩ = wakeP0 := rfl
  have hb : wakeA0.bp = 365 := rfl
  rw [hd, hb]
  simp only [e, wake_settle0]
  have ha : addS wakeA0.cr 0 = (0, 0) := add_is (by decide) (by decide) (by decide) (by decide)
  simp only [ha]
  rfl
theorem wake_adv : advanceS wakeA1 100 = (wakeA2, ⟨0, 1000, 0, 0, 0, 0⟩, 0) := by
  unfold advanceS
  rw [if_neg (by decide), if_neg (by decide)]
  unfold advance1
  have e : advK (wakeA1.day + 100) wakeA1.bp wakeA1.ps wakeA1.ps.length = (0, 1000, [wakeP1]) := by
    show advK (100 + 100) 365 [wakeP0] 1 = _
    have h0 : advK (100 + 100) 365 [wakeP0] 0 = (0, 0, [wakeP0]) := rfl
    rw [advK, h0]
    have hg : ([wakeP0] : List Per).getD 0 Per.zero = wakeP0 := rfl
    simp only [hg]
    have hs : settleS (100 + 100) 365 wakeP0 = (0, 1000, wakeP1) := wake_settle1
    simp only [hs]
    have ha : addS 0 1000 = (1000, 0) := add_is (by decide) (by decide) (by decide) (by decide)
    simp only [ha]
    rfl
  rw [e]
  rfl
theorem wake_good : Good wakeA1 ∧ Good wakeA2 := by
  have h0 : Good wakeA0 := Good.new (by decide) (by decide)
  have h1 := h0.file flatS wakeR
  rw [wake_file] at h1
  have h2 := h1.advance 100
  rw [show (wakeA1, (⟨0, 0, 100000, 0, 0, 0⟩ : Mv), (0 : Int)).1 = wakeA1 from rfl, wake_adv] at h2
  exact ⟨h1, h2⟩
theorem wake_open : openS wakeA2.ps = [⟨100, 1, 1, 1000⟩, ⟨100, 2, 1, 100000⟩] := by
  have h := (wake_good.2).places
  have e : itemsOf wakeA2.ps = [⟨100, 0, 1, 0⟩, ⟨100, 1, 1, 1000⟩, ⟨100, 2, 1, 100000⟩] := rfl
  have ho : IsOrd (itemsOf wakeA2.ps) (itemsOf wakeA2.ps) := ⟨List.Perm.refl _, by rw [e]; simp [keyI]⟩
  unfold openS
  rw [← ho.eq h, e]
  simp [live, nil0]
/-- The awakening's payment. -/
theorem wake_pay : (payS wakeA2 1 1500).2.2 = 0 ∧ (payS wakeA2 1 1500).2.1.paid = 1500 ∧ openS (payS wakeA2 1 1500).1.ps = [⟨100, 2, 1, 99500⟩] := by
  have hG := wake_good.2
  have he : (payS wakeA2 1 1500).2.2 = 0 ∧ (payS wakeA2 1 1500).2.1.paid = 1500 := by
    obtain ⟨ps, e1, e2⟩ := pay_ok (id := 1) (a := 1500) hG (by decide) (by decide) (by decide) (fun m hm => by simp [wakeA2] at hm) (by decide)
    rw [e1]
    refine ⟨rfl, ?_⟩
    show 1500 - leftI (itemsOf wakeA2.ps) 1500 = 1500
    have e : leftI (itemsOf wakeA2.ps) 1500 = 0 := by
      unfold leftI
      have : opens (itemsOf wakeA2.ps) = 101000 := by decide
      rw [this]; decide
    rw [e]; rfl
  refine ⟨he.1, he.2, ?_⟩
  rw [order_pays hG (by decide) he.1, wake_open]
  have e1 : min (1500 : Int) 1000 = 1000 := by decide
  have e2 : min (500 : Int) 100000 = 500 := by decide
  simp [walkO, e1, e2]
end Go.Proofs.YtbjjgnaojoaoiaaGreat
