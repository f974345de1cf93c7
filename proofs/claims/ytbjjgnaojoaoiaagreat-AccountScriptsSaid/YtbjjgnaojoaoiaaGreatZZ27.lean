/- Laws. -/
import Derived.Test.YtbjjgnaojoaoiaaGreatZZ24
import Derived.Test.YtbjjgnaojoaoiaaGreatZZ25
import Derived.Test.YtbjjgnaojoaoiaaGreatZZ26
namespace Go.Proofs.YtbjjgnaojoaoiaaGreat
set_option linter.unusedVariables false
set_option linter.unusedSimpArgs false
set_option maxHeartbeats 12800000
set_option maxRecDepth 100000
theorem told_okZ {z : Int} (h : (told z).2 = 0) : (told z).1 = z := by
 unfold told at *; split at h
 · rw [if_pos ‹_›]
 · simp at h
theorem simple_okZ {p bp d : Int} (h : (simpleS p bp d).2 = 0) : (simpleS p bp d).1 = p * (bp * d) / 3650000 ∧ 0 ≤ p ∧ 0 ≤ bp ∧ 0 ≤ d := by
 unfold simpleS at *
 split at h
 · rename_i g
   rw [if_pos g]
   have g' : okP p = true ∧ okR bp = true ∧ okD d = true := by simp at g; exact ⟨g.1.1, g.1.2, g.2⟩
   exact ⟨told_okZ h, (okP_yes g'.1).1, (okR_yes g'.2.1).1, (okD_yes g'.2.2).1⟩
 · simp at h
theorem simple_later {p bp d d' : Int} (hd : d ≤ d') (h : (simpleS p bp d).2 = 0) (h' : (simpleS p bp d').2 = 0) : (simpleS p bp d).1 ≤ (simpleS p bp d').1 := by
 obtain ⟨e, a0, a1, a2⟩ := simple_okZ h
 obtain ⟨e', c0, c1, c2⟩ := simple_okZ h'
 rw [e, e']
 refine Int.ediv_le_ediv (by omega) ?_
 exact Int.mul_le_mul_of_nonneg_left (Int.mul_le_mul_of_nonneg_left hd a1) a0
theorem interest_later {day T bp : Int} {p : Per} (h : PerOk day bp p) (hT : day ≤ T) (hi : (interestS T bp p).2 = 0) : p.acc ≤ (interestS T bp p).1 ∧ 0 ≤ (interestS T bp p).1 := by
 by_cases h1 : T < p.since
 · have h2 := h.none_ (by omega)
   have e : interestS T bp p = (0, 0) := by unfold interestS; rw [if_pos h1]
   rw [e]; simp; omega
 · have e : interestS T bp p = if (simpleS p.o2 bp (T - p.since)).2 = 0 then addS p.done (simpleS p.o2 bp (T - p.since)).1 else (0, (simpleS p.o2 bp (T - p.since)).2) := by unfold interestS; rw [if_neg h1]
   rw [e] at hi ⊢
   by_cases h2 : (simpleS p.o2 bp (T - p.since)).2 = 0
   · rw [if_pos h2] at hi ⊢
     obtain ⟨e1, e2, e3⟩ := add_ok hi
     rw [e1]
     have hn := @simple_nn p.o2 bp (T - p.since)
     have hd := h.done
     by_cases h3 : p.since ≤ day
     · have hx := h.int h3
       have e' : interestS day bp p = if (simpleS p.o2 bp (day - p.since)).2 = 0 then addS p.done (simpleS p.o2 bp (day - p.since)).1 else (0, (simpleS p.o2 bp (day - p.since)).2) := by unfold interestS; rw [if_neg (by omega)]
       rw [e'] at hx
       by_cases h4 : (simpleS p.o2 bp (day - p.since)).2 = 0
       · rw [if_pos h4] at hx
         have h5 : (addS p.done (simpleS p.o2 bp (day - p.since)).1).2 = 0 := by rw [hx]
         obtain ⟨e2, _, _⟩ := add_ok h5
         have h6 := simple_later (p := p.o2) (bp := bp) (show day - p.since ≤ T - p.since by omega) h4 h2
         have h7 : (addS p.done (simpleS p.o2 bp (day - p.since)).1).1 = p.acc := by rw [hx]
         omega
       · rw [if_neg h4] at hx
         exact absurd (congrArg Prod.snd hx) h4
     · have h4 := h.none_ (by omega)
       omega
   · rw [if_neg h2] at hi; exact absurd hi h2
theorem settle_some {T bp : Int} {p : Per} (h : (settleS T bp p).1 = 0) : (interestS T bp p).2 = 0 ∧ (addS p.o1 ((interestS T bp p).1 - p.acc)).2 = 0 ∧ settleS T bp p = (0, (interestS T bp p).1 - p.acc, { p with o1 := p.o1 + ((interestS T bp p).1 - p.acc), acc := (interestS T bp p).1 }) ∧ p.o1 + ((interestS T bp p).1 - p.acc) ≤ 4611686018427387904 := by
 by_cases h0 : (interestS T bp p).2 ≠ 0
 · unfold settleS at h; rw [if_pos h0] at h; exact absurd h h0
 · by_cases h1 : (addS p.o1 ((interestS T bp p).1 - p.acc)).2 ≠ 0
   · unfold settleS at h; rw [if_neg h0, if_pos h1] at h; simp at h
   · have h1' : (addS p.o1 ((interestS T bp p).1 - p.acc)).2 = 0 := by omega
     obtain ⟨e1, e2, e3⟩ := add_ok h1'
     refine ⟨by omega, h1', ?_, e3⟩
     unfold settleS
     rw [if_neg h0, if_neg h1, e1]
theorem PerOk.settle {day T bp : Int} {p : Per} (h : PerOk day bp p) (hT : day ≤ T) (hs : (settleS T bp p).1 = 0) : PerOk T bp (settleS T bp p).2.2 ∧ (settleS T bp p).2.2.ret = p.ret ∧ 0 ≤ (settleS T bp p).2.1 ∧ (settleS T bp p).2.2.o0 = p.o0 ∧ (settleS T bp p).2.2.o1 = p.o1 + (settleS T bp p).2.1 ∧ (settleS T bp p).2.2.o2 = p.o2 := by
 obtain ⟨h1, h2, h3, h4⟩ := settle_some hs
 obtain ⟨i1, i2⟩ := interest_later h hT h1
 have hib := interest_bd T bp p
 rw [h3]
 have hb1 := h.b1
 refine ⟨⟨h.ret, h.b0, ⟨by show 0 ≤ p.o1 + _; omega, by show p.o1 + _ ≤ _; omega⟩, h.b2, h.since, ?_, h.done, ⟨i2, hib.2⟩, fun hle => ?_, fun hlt => ?_⟩, rfl, by show 0 ≤ (interestS T bp p).1 - p.acc; omega, rfl, rfl, rfl⟩
 · rcases h.at_ with e | e
   · exact .inl e
   · exact .inr (Int.le_trans e hT)
 · refine (interest_eq T bp (p := p) rfl rfl rfl).trans ?_
   exact Prod.ext rfl h1
 · have hlt' : T < p.since := hlt
   have h5 := h.none_ (by omega)
   refine ⟨h5.1, ?_⟩
   show (interestS T bp p).1 = 0
   unfold interestS; rw [if_pos hlt']
def advK (T bp : Int) (ps : List Per) : Nat → Int × Int × List Per
 | 0 => (0, 0, ps)
 | k + 1 => if (advK T bp ps k).1 ≠ 0 then ((advK T bp ps k).1, 0, ps) else
     if (settleS T bp ((advK T bp ps k).2.2.getD k Per.zero)).1 ≠ 0 then ((settleS T bp ((advK T bp ps k).2.2.getD k Per.zero)).1, 0, ps) else
     if (addS (advK T bp ps k).2.1 (settleS T bp ((advK T bp ps k).2.2.getD k Per.zero)).2.1).2 ≠ 0 then (2, 0, ps) else
     (0, (addS (advK T bp ps k).2.1 (settleS T bp ((advK T bp ps k).2.2.getD k Per.zero)).2.1).1, (advK T bp ps k).2.2.set k (settleS T bp ((advK T bp ps k).2.2.getD k Per.zero)).2.2)
def advance1 (S : Ac) (d : Int) : Ac × Mv × Int := if (advK (S.day + d) S.bp S.ps S.ps.length).1 ≠ 0 then (S, Mv.zero, (advK (S.day + d) S.bp S.ps S.ps.length).1) else
 ({ S with day := S.day + d, ps := (advK (S.day + d) S.bp S.ps S.ps.length).2.2 }, ⟨0, (advK (S.day + d) S.bp S.ps S.ps.length).2.1, 0, 0, 0, 0⟩, 0)
def advanceS (S : Ac) (d : Int) : Ac × Mv × Int := if ¬ (0 ≤ d ∧ d ≤ 36500) then (S, Mv.zero, 1) else if 3652058 < S.day + d then (S, Mv.zero, 1) else advance1 S d
theorem advK_err {T bp : Int} {ps : List Per} {k : Nat} (h : (advK T bp ps k).1 ≠ 0) : ∀ n, (advK T bp ps (k + n)).1 = (advK T bp ps k).1
 | 0 => rfl
 | n + 1 => by
   have ih := advK_err h n
   rw [← Nat.add_assoc, advK, if_pos (by rw [ih]; exact h), ih]
structure AdvOk (T bp : Int) (ps : List Per) (k : Nat) : Prop where
 len : (advK T bp ps k).2.2.length = ps.length
 rest : ∀ i, k ≤ i → (advK T bp ps k).2.2[i]? = ps[i]?
 ret : (advK T bp ps k).2.2.map Per.ret = ps.map Per.ret
 nn : 0 ≤ (advK T bp ps k).2.1 ∧ (advK T bp ps k).2.1 ≤ 4611686018427387904
theorem advK_ok {day T bp : Int} {ps : List Per} (hp : ∀ p ∈ ps, PerOk day bp p) (hT : day ≤ T) : ∀ k, k ≤ ps.length → (advK T bp ps k).1 = 0 → AdvOk T bp ps k ∧ ∀ i (hi : i < (advK T bp ps k).2.2.length), i < k → PerOk T bp ((advK T bp ps k).2.2[i])
 | 0, _, _ => ⟨⟨rfl, fun _ _ => rfl, rfl, by simp [advK]⟩, fun i _ h => by omega⟩
 | k + 1, hk, h => by
   by_cases h0 : (advK T bp ps k).1 ≠ 0
   · rw [advK, if_pos h0] at h; exact absurd h h0
   · obtain ⟨⟨a1, a2, a3, a4⟩, a5⟩ := advK_ok hp hT k (by omega) (by omega)
     have hkl : k < (advK T bp ps k).2.2.length := by omega
     have hg : (advK T bp ps k).2.2.getD k Per.zero = ps[k] := by
      rw [List.getD_eq_getElem?_getD, a2 k (Nat.le_refl _), List.getElem?_eq_getElem (by omega)]; rfl
     by_cases h1 : (settleS T bp ps[k]).1 ≠ 0
     · rw [advK, if_neg h0, hg, if_pos h1] at h; exact absurd h h1
     · by_cases h2 : (addS (advK T bp ps k).2.1 (settleS T bp ps[k]).2.1).2 ≠ 0
       · rw [advK, if_neg h0, hg, if_neg h1, if_pos h2] at h; simp at h
       · have e : advK T bp ps (k + 1) = (0, (addS (advK T bp ps k).2.1 (settleS T bp ps[k]).2.1).1, (advK T bp ps k).2.2.set k (settleS T bp ps[k]).2.2) := by
           rw [advK, if_neg h0, hg, if_neg h1, if_neg h2]
         obtain ⟨q1, q2, q3, _⟩ := (hp _ (List.getElem_mem (show k < ps.length by omega))).settle hT (by omega)
         obtain ⟨e1, e2, e3⟩ := add_ok (by omega : (addS (advK T bp ps k).2.1 (settleS T bp ps[k]).2.1).2 = 0)
         refine ⟨⟨?_, fun i hi => ?_, ?_, ?_⟩, ?_⟩
         · rw [e]; simpa using a1
         · rw [e]; show ((advK T bp ps k).2.2.set k _)[i]? = _
           rw [List.getElem?_set_ne (by omega)]; exact a2 i (by omega)
         · rw [e]; show ((advK T bp ps k).2.2.set k _).map Per.ret = _
           rw [List.map_set, q2, ← a3]
           apply List.ext_getElem (by simp)
           intro j j1 j2
           rw [List.getElem_set]
           split
           · rename_i ej; subst ej
             have h4 : ((advK T bp ps k).2.2.map Per.ret)[k]? = some ps[k].ret := by rw [a3, List.getElem?_map, List.getElem?_eq_getElem (show k < ps.length by omega)]; rfl
             rw [List.getElem?_eq_getElem (by simpa using hkl)] at h4
             injection h4 with h4; exact h4.symm
           · rfl
         · rw [e]; show 0 ≤ (addS _ _).1 ∧ _; rw [e1]; omega
         · rw [e]
           intro i hi hik
           simp only [List.getElem_set]
           split
           · exact q1
           · simp only [List.length_set] at hi
             exact a5 i hi (by omega)
theorem Good.adv1 {S : Ac} (h : Good S) {d : Int} (hd : 0 ≤ d ∧ d ≤ 36500) (hT : ¬ 3652058 < S.day + d) : Good (advance1 S d).1 := by
 unfold advance1
 split
 · exact h
 · rename_i h0
   have hday := h.day
   obtain ⟨⟨a1, a2, a3, a4⟩, a5⟩ := advK_ok (T := S.day + d) h.per (by omega) S.ps.length (Nat.le_refl _) (by omega)
   generalize (advK (S.day + d) S.bp S.ps S.ps.length).2.2 = ps at *
   refine ⟨by show 0 ≤ S.day + d ∧ S.day + d ≤ _; omega, h.bp, h.cr, by show ps.length ≤ 20; rw [a1]; exact h.np, h.nm, riseP_ret h.rise a3, fun p hp => ?_, fun m hm => (h.pm m hm).more (riseP_ret h.rise a3) (ret_mem a3), h.ids⟩
   obtain ⟨i, hi, rfl⟩ := List.mem_iff_getElem.1 hp
   exact a5 i hi (by have : i < ps.length := hi; omega)
theorem Good.advance {S : Ac} (h : Good S) (d : Int) : Good (advanceS S d).1 := by
 unfold advanceS
 split
 · exact h
 · rename_i h1
   split
   · exact h
   · rename_i h2
     exact h.adv1 (by simpa using h1) h2
theorem advance_same {S : Ac} {d : Int} (h : (advanceS S d).2.2 ≠ 0) : (advanceS S d).1 = S := by
 unfold advanceS at h ⊢
 split
 · rfl
 · rename_i h1
   rw [if_neg h1] at h
   split
   · rfl
   · rename_i h2
     rw [if_neg h2] at h
     unfold advance1 at h ⊢
     split
     · rfl
     · rename_i h3
       rw [if_neg h3] at h; exact absurd rfl h
theorem pay_at {S : Ac} {id : Int} (h : ¬ S.pay id < 0) : ∃ i, ∃ hi : i < S.ms.length, S.pay id = (i : Int) ∧ S.ms[i].id = id ∧ S.ms.getD (S.pay id).toNat noPm = S.ms[i] := by
 unfold Ac.pay at h ⊢
 rcases idxI_spec (fun p : Pm => decide (p.id = id)) S.ms 0 with ⟨h1, _⟩ | ⟨i, hi, h1, h2, _⟩
 · omega
 · refine ⟨i, hi, by rw [h1]; simp, by simpa using h2, ?_⟩
   rw [h1, List.getD_eq_getElem?_getD]
   simp only [Nat.zero_add, Int.toNat_natCast]
   rw [List.getElem?_eq_getElem hi]; rfl
theorem Good.rev1 {S : Ac} (h : Good S) {i : Nat} (hi : i < S.ms.length) (hc : ¬ S.cr < S.ms[i].rest) : Good (reverse1 S i S.ms[i]).1 := by
 have hm := h.pm _ (List.getElem_mem hi)
 unfold reverse1
 cases hg : giveS S.day 1 S.ps S.ms[i].parts with
 | none => exact h
 | some ps =>
   obtain ⟨q1, q2, q3⟩ := giveS_ok h.day h.bp S.ms[i].parts h.rise h.per (fun x hx => (hm.placed x hx).1) (fun x hx => by have := (hm.placed x hx).2.2; omega) (.inl rfl) hg
   have hr := hm.rest
   have hcr := h.cr
   refine ⟨h.day, h.bp, by show 0 ≤ S.cr - S.ms[i].rest ∧ S.cr - S.ms[i].rest ≤ _; omega, by show ps.length ≤ 20; rw [ret_len q3]; exact h.np, by show (S.ms.set i _).length ≤ 50; rw [List.length_set]; exact h.nm, q2, q1, fun m hmm => ?_, ?_⟩
   · rcases List.mem_or_eq_of_mem_set hmm with hmm | rfl
     · exact (h.pm m hmm).more q2 (ret_mem q3)
     · have := hm.more q2 (ret_mem q3)
       exact ⟨this.id, this.day, this.amt, this.placed, this.len, this.rest, this.sum⟩
   · show ((S.ms.set i _).map Pm.id).Nodup
     rw [List.map_set]
     have e : (S.ms.map Pm.id).set i (Pm.back S.ms[i]).id = S.ms.map Pm.id := by
      apply List.ext_getElem (by simp)
      intro j j1 j2
      rw [List.getElem_set]
      split
      · rename_i ej; subst ej; simp [Pm.back]
      · rfl
     rw [e]; exact h.ids
theorem Good.reverse {S : Ac} (h : Good S) (id : Int) : Good (reverseS S id).1 := by
 unfold reverseS
 split
 · exact h
 · rename_i h1
   obtain ⟨i, hi, e1, e2, e3⟩ := pay_at h1
   rw [e3, e1, Int.toNat_natCast]
   split
   · exact h
   · split
     · exact h
     · rename_i h3
       exact h.rev1 hi h3
theorem reverse_same {S : Ac} {id : Int} (h : (reverseS S id).2.2 ≠ 0) : (reverseS S id).1 = S := by
 unfold reverseS at h ⊢
 split
 · rfl
 · rename_i h1
   rw [if_neg h1] at h
   split
   · rfl
   · rename_i h2
     rw [if_neg h2] at h
     split
     · rfl
     · rename_i h3
       rw [if_neg h3] at h
       unfold reverse1 at h ⊢
       cases hg : giveS S.day 1 S.ps (S.ms.getD (S.pay id).toNat noPm).parts with
       | none => rfl
       | some ps => rw [hg] at h; exact absurd rfl h
def amd1 (day k more : Int) (p : Per) : Int × Int × Int × Per :=
 if (addS (p.opn k) (max more (-p.opn k))).2 ≠ 0 then (2, 0, 0, p) else (0, (addS (p.opn k) (max more (-p.opn k))).1 - p.opn k, max 0 (-more - p.opn k), Per.setO day p k (addS (p.opn k) (max more (-p.opn k))).1)
def Mv.putK (m : Mv) (k : Nat) (c cr : Int) : Mv := if k = 0 then { m with c0 := c, cr := m.cr + cr } else if k = 1 then { m with c1 := c, cr := m.cr + cr } else { m with c2 := c, cr := m.cr + cr }
def moreK (m0 m2 : Int) (k : Nat) : Int := if k = 0 then m0 else if k = 1 then 0 else m2
def amdK (day m0 m2 : Int) (p : Per) : Nat → Int × Mv × Per
 | 0 => (0, Mv.zero, p)
 | k + 1 => if (amdK day m0 m2 p k).1 ≠ 0 then (2, Mv.zero, p) else
     if (amd1 day (k : Int) (moreK m0 m2 k) (amdK day m0 m2 p k).2.2).1 ≠ 0 then (2, Mv.zero, p) else
     (0, (amdK day m0 m2 p k).2.1.putK k (amd1 day (k : Int) (moreK m0 m2 k) (amdK day m0 m2 p k).2.2).2.1 (amd1 day (k : Int) (moreK m0 m2 k) (amdK day m0 m2 p k).2.2).2.2.1, (amd1 day (k : Int) (moreK m0 m2 k) (amdK day m0 m2 p k).2.2).2.2.2)
def amd3 (day m0 m2 : Int) (p : Per) : Int × Mv × Per := amdK day m0 m2 p 3
theorem amdK_err {day m0 m2 : Int} {p : Per} {k : Nat} (h : (amdK day m0 m2 p k).1 ≠ 0) : ∀ n, (amdK day m0 m2 p (k + n)).1 ≠ 0
 | 0 => h
 | n + 1 => by
   have ih := amdK_err h n
   rw [← Nat.add_assoc, amdK, if_pos ih]
   exact (by decide : (2 : Int) ≠ 0)
def Ret.other2 (r : Ret) (inc wh : Int) : Ret := { r with inc := inc, wh := wh }
def Per.with_ (p : Per) (r : Ret) : Per := { p with ret := r }
noncomputable def amend1 (S : Ac) (s : Sch) (i : Nat) (p : Per) (inc wh : Int) : Ac × Mv × Int :=
 if (changeS s p.ret (p.ret.other2 inc wh)).2 ≠ 0 then (S, Mv.zero, (changeS s p.ret (p.ret.other2 inc wh)).2) else
 if (amd3 S.day (changeS s p.ret (p.ret.other2 inc wh)).1.pen ((changeS s p.ret (p.ret.other2 inc wh)).1.prin - (changeS s p.ret (p.ret.other2 inc wh)).1.exc) (p.with_ (p.ret.other2 inc wh))).1 ≠ 0 then (S, Mv.zero, 2) else
 if (addS S.cr (amd3 S.day (changeS s p.ret (p.ret.other2 inc wh)).1.pen ((changeS s p.ret (p.ret.other2 inc wh)).1.prin - (changeS s p.ret (p.ret.other2 inc wh)).1.exc) (p.with_ (p.ret.other2 inc wh))).2.1.cr).2 ≠ 0 then (S, Mv.zero, 2) else
 ({ S with ps := S.ps.set i (amd3 S.day (changeS s p.ret (p.ret.other2 inc wh)).1.pen ((changeS s p.ret (p.ret.other2 inc wh)).1.prin - (changeS s p.ret (p.ret.other2 inc wh)).1.exc) (p.with_ (p.ret.other2 inc wh))).2.2,
           cr := (addS S.cr (amd3 S.day (changeS s p.ret (p.ret.other2 inc wh)).1.pen ((changeS s p.ret (p.ret.other2 inc wh)).1.prin - (changeS s p.ret (p.ret.other2 inc wh)).1.exc) (p.with_ (p.ret.other2 inc wh))).2.1.cr).1 },
  (amd3 S.day (changeS s p.ret (p.ret.other2 inc wh)).1.pen ((changeS s p.ret (p.ret.other2 inc wh)).1.prin - (changeS s p.ret (p.ret.other2 inc wh)).1.exc) (p.with_ (p.ret.other2 inc wh))).2.1, 0)
noncomputable def amendS (S : Ac) (s : Sch) (n inc wh : Int) : Ac × Mv × Int := if S.place n = -1 then (S, Mv.zero, 4) else amend1 S s (S.place n).toNat (S.ps.getD (S.place n).toNat Per.zero) inc wh
theorem amd1_ok {day bp k more : Int} {p : Per} (h : PerOk day bp p) (hd : 0 ≤ day ∧ day ≤ 3652058) (hb : 0 ≤ bp ∧ bp ≤ 100000) (hk : k = 0 ∨ k = 1 ∨ k = 2) (he : (amd1 day k more p).1 = 0) :
  PerOk day bp (amd1 day k more p).2.2.2 ∧ (amd1 day k more p).2.2.2.ret = p.ret ∧ 0 ≤ (amd1 day k more p).2.2.1 ∧ (amd1 day k more p).2.2.2.opn k = p.opn k + (amd1 day k more p).2.1 ∧ (∀ j, j = 0 ∨ j = 1 ∨ j = 2 → j ≠ k → (amd1 day k more p).2.2.2.opn j = p.opn j) ∧ (amd1 day k more p).2.1 - (amd1 day k more p).2.2.1 = more := by
 unfold amd1 at he ⊢
 by_cases h0 : (addS (p.opn k) (max more (-p.opn k))).2 ≠ 0
 · rw [if_pos h0] at he; simp at he
 · rw [if_neg h0]
   obtain ⟨e1, e2, e3⟩ := add_ok (by omega : (addS (p.opn k) (max more (-p.opn k))).2 = 0)
   rw [e1]
   have hs := h.setO hd hb hk (v := p.opn k + max more (-p.opn k)) ⟨by omega, e3⟩
   refine ⟨hs.1, hs.2, by show 0 ≤ max 0 _; omega, ?_, ?_, by show p.opn k + max more (-p.opn k) - p.opn k - max 0 (-more - p.opn k) = more; omega⟩
   · show (Per.setO day p k _).opn k = p.opn k + (p.opn k + _ - p.opn k)
     have : (Per.setO day p k (p.opn k + max more (-p.opn k))).opn k = p.opn k + max more (-p.opn k) := by
      unfold Per.setO Per.putO
      rcases hk with rfl | rfl | rfl <;> simp [Per.opn]
      split <;> rfl
     rw [this]; omega
   · intro j hj hjk
     show (Per.setO day p k _).opn j = p.opn j
     unfold Per.setO Per.putO
     rcases hk with rfl | rfl | rfl <;> rcases hj with rfl | rfl | rfl <;> simp [Per.opn] at hjk ⊢ <;> (split <;> rfl)
section
open Go.RowKit Go
theorem settle_early {day T bp : Int} {p : Per} (h : PerOk day bp p) (hT : day ≤ T) (hlt : T < p.since) : settleS T bp p = (0, 0, p) := by
 have h2 := h.none_ (by omega)
 have hi : interestS T bp p = (0, 0) := by unfold interestS; rw [if_pos hlt]
 have ha : addS p.o1 ((0 : Int) - p.acc) = (p.o1, 0) := by rw [h2.2, Int.sub_zero]; exact add_zero_amt h.b1
 unfold settleS
 rw [hi]
 simp only [ha]
 rw [if_neg (by simp), if_neg (by simp), h2.2]
 obtain ⟨r, o0, o1, o2, sn, dn, ac⟩ := p
 simp only at h2 ⊢
 rw [h2.2]; rfl
theorem settle_shape {day T bp : Int} {p : Per} (h : PerOk day bp p) (hT : day ≤ T) {n er : Int} (he : interestS T bp p = (n, er)) : settleS T bp p = if er ≠ 0 then (er, 0, p) else if 4611686018427387904 - p.o1 < n - p.acc then (2, 0, p) else (0, n - p.acc, { p with o1 := p.o1 + (n - p.acc), acc := n }) := by
 unfold settleS
 rw [he]
 simp only
 by_cases h0 : er ≠ 0
 · rw [if_pos h0, if_pos h0]
 · rw [if_neg h0, if_neg h0]
   have h1 := interest_later h hT (by rw [he]; show er = 0; omega)
   have h2 := interest_bd T bp p
   rw [he] at h1 h2
   simp only at h1 h2
   have hb := h.b1; have ha := h.acc
   have hamt : (amt p.o1 && amt (n - p.acc)) = true := by simp [amt]; omega
   by_cases h3 : 4611686018427387904 - p.o1 < n - p.acc
   · rw [if_pos h3]
     have : (addS p.o1 (n - p.acc)).2 ≠ 0 := by
      rw [addS, if_pos hamt]; unfold told; rw [if_neg (by simp [amt]; omega)]; simp
     rw [if_pos this]
   · rw [if_neg h3]
     have : addS p.o1 (n - p.acc) = (p.o1 + (n - p.acc), 0) := add_yes hamt (by omega)
     rw [this, if_neg (by simp)]
end
section
open Go.RowKit Go
theorem RefY.anyps {w : World} {B g : Nat} {S S' : Ac} {vp vq : Value} {qs : List PmE} {l : List (Per × Int)} (h : RefY w B g S vp vq qs l) (h1 : S'.day = S.day) (h2 : S'.bp = S.bp) (h3 : S'.cr = S.cr) (h4 : S'.ms = S.ms) : RefY w B g S' vp vq qs l := by
 obtain ⟨d, b, c, ps, ms⟩ := S
 obtain ⟨d', b', c', ps', ms'⟩ := S'
 simp only at h1 h2 h3 h4
 subst h1 h2 h3 h4
 exact ⟨h.hg, h.hB, h.hp, h.hq, h.hm, h.parts⟩
theorem putO_o2 {p : Per} {kk : Nat} {q : Int} (hk : kk < 3) (h : 0 ≤ q ∧ q ≤ 4611686018427387904) (h2 : 0 ≤ p.o2 ∧ p.o2 ≤ 4611686018427387904) : okP (p.putO kk q).o2 = true := by
 rcases (show kk = 0 ∨ kk = 1 ∨ kk = 2 by omega) with rfl | rfl | rfl
 · simp [Per.putO, okP]; omega
 · simp [Per.putO, okP]; omega
 · simp [Per.putO, okP]; omega
theorem putO_rest (p : Per) (kk : Int) (q : Int) : (p.putO kk q).since = p.since ∧ (p.putO kk q).acc = p.acc ∧ (p.putO kk q).done = p.done ∧ (p.putO kk q).ret = p.ret := by
 unfold Per.putO
 by_cases h0 : kk = 0
 · simp [h0]
 · by_cases h1 : kk = 1
   · simp [h1]
   · simp [h0, h1]
theorem box_putO {w : World} {gl kk : Nat} {bp P q : Int} {p : Per} (hk : kk < 3) (h : w.heap[gl]? = some (perYO bp (p, P))) : (w.setCell ⟨gl, 5 + kk, none⟩ (.int .i64 q)).heap[gl]? = some (perYO bp (p.putO kk q, P)) := by
 have h1 := blk_set h (5 + kk) (.int .i64 q)
 rcases (show kk = 0 ∨ kk = 1 ∨ kk = 2 by omega) with rfl | rfl | rfl
 · exact h1
 · exact h1
 · exact h1
theorem putO_kind {p : Per} {kk : Nat} {q : Int} (hk : kk < 3) : (p.putO kk q).opn kk = q := by
 rcases (show kk = 0 ∨ kk = 1 ∨ kk = 2 by omega) with rfl | rfl | rfl
 · simp [Per.putO, Per.opn]
 · simp [Per.putO, Per.opn]
 · simp [Per.putO, Per.opn]
theorem box_kind {w : World} {gl kk : Nat} {bp P : Int} {p : Per} (hk : kk < 3) (h : w.heap[gl]? = some (perYO bp (p, P))) : w.cell? ⟨gl, 5 + kk, none⟩ = some (.int .i64 (p.opn kk)) := by
 rcases (show kk = 0 ∨ kk = 1 ∨ kk = 2 by omega) with rfl | rfl | rfl
 · exact (blk_cell h 5).trans rfl
 · exact (blk_cell h 6).trans rfl
 · exact (blk_cell h 7).trans rfl
theorem Turn.far1 {w w1 : World} {B gl j : Nat} {v u : Value} (h : Turn w B v w1) (hg : w.heap.size ≤ gl) (hB : B ≤ gl) : Turn w B v (w1.setCell ⟨gl, j, none⟩ u) :=
 ⟨h.bel.setCell hB _, ⟨h.gr.os, h.gr.tape, h.gr.output, by rw [World.size_setCell]; exact h.gr.size, fun k hk hn => (Below.heap_setCell w1 ⟨gl, j, none⟩ u k (by show k ≠ gl; omega)).trans (h.gr.block k hk hn)⟩⟩
def RGiveOf (w : World) (B g : Nat) (S : Ac) (vp vq v : Value) (qs : List PmE) (parts : List Dq) (r : Option (List Per)) (e : Ending) (w' : World) : Prop := Turn w B vp w' ∧
 match r with
 | some ps => e = .returned (.int .i64 0) ∧ RefV w' B g { S with ps := ps } vp vq qs ∧ PartsAt w' v parts ∧ ps.length = S.ps.length
 | none => e = .returned (.int .i64 2)
structure RGiveInv (w wr : World) (B g : Nat) (S : Ac) (vp vq v : Value) (qs : List PmE) (parts : List Dq) (times : Int) (k : Nat) (ps : List Per) : Prop where
 eq : giveS S.day times S.ps (parts.take k) = some ps
 own : RefV wr B g { S with ps := ps } vp vq qs
 pt : PartsAt wr v parts
 len : ps.length = S.ps.length
 bel : Turn w B vp wr
theorem PartsAt.turn {w w' : World} {v vp : Value} {B n : Nat} {T : TypeId} {s : Nat} {xs : List Value} {l : List Dq} (h : PartsAt w v l) (ht : Turn w B vp w') (ho : w.ownsRow B T s vp n xs) (hT : T ≠ 58) : PartsAt w' v l :=
 h.keep fun b cs hb => ht.gr.block b (blk_lt hb) (fun e => by
  obtain ⟨_, cs', hcs⟩ := own_block_type ho e.symm
  exact ne_of_type' hcs hb hT rfl)
theorem PartsAt.it {w : World} {b n c : Nat} {l : List Dq} (h : PartsAt w (.slice (some ⟨b, 0, none⟩) n c) l) {k : Nat} (hk : k < l.length) : b < w.heap.size ∧ w.cell? ⟨b, k * 4, none⟩ = some (.int .i64 l[k].due) ∧ w.cell? ⟨b, k * 4 + 1, none⟩ = some (.int .i64 l[k].kind) ∧ w.cell? ⟨b, k * 4 + 2, none⟩ = some (.int .i64 l[k].per) ∧ w.cell? ⟨b, k * 4 + 3, none⟩ = some (.int .i64 l[k].opn) := by
 obtain ⟨b', off, e1, hb, c0, c1, c2, c3⟩ := (h.rd.2.2.2).it hk
 injection e1 with e1; injection e1 with e1 e2 _; subst e1 e2
 simp only [Nat.zero_add] at c0 c1 c2 c3
 exact ⟨hb, c0, c1, c2, c3⟩
theorem give1_is {day bp times : Int} {ps : List Per} {x : Dq} {i : Nat} {q : Int} (hi : i < ps.length) (he : placeP x.per ps = (i : Int)) (hk : x.kind = 0 ∨ x.kind = 1 ∨ x.kind = 2) (hp : PerOk day bp ps[i]) (h1 : -4611686018427387904 ≤ times * x.opn ∧ times * x.opn ≤ 4611686018427387904) (hq : ps[i].opn x.kind + times * x.opn = q) (h0 : 0 ≤ q) :
  give1 day times ps x = if q ≤ 4611686018427387904 then some (ps.set i (prinP day (ps[i].putO x.kind q) ps[i].o2)) else none := by
 have hg : ps.getD i Per.zero = ps[i] := by rw [List.getD_eq_getElem?_getD, List.getElem?_eq_getElem hi]; rfl
 have b := opn_bd hp hk
 have ha : addS (ps[i].opn x.kind) (times * x.opn) = if q ≤ 4611686018427387904 then (q, 0) else (0, 2) := by
  rw [addS, if_pos (by simp [amt]; omega), hq]
  unfold told
  by_cases hc : q ≤ 4611686018427387904
  · rw [if_pos (by simp [amt]; omega), if_pos hc]
  · rw [if_neg (by simp [amt]; omega), if_neg hc]
 rw [give1, he, Int.toNat_natCast, hg, ha]
 by_cases hc : q ≤ 4611686018427387904
 · rw [if_pos hc, if_pos hc, prinP_setO hk]; rfl
 · rw [if_neg hc, if_neg hc]; rfl
theorem RGiveInv.step {w wr w2 : World} {B g i k : Nat} {S : Ac} {vp vq v : Value} {qs : List PmE} {parts : List Dq} {times q : Int} {ps : List Per} (h : RGiveInv w wr B g S vp vq v qs parts times k ps) (hk : k < parts.length) (hi : i < ps.length)
  (hg : give1 S.day times ps parts[k] = some (ps.set i (prinP S.day (ps[i].putO (parts[k]).kind q) ps[i].o2))) (hv : RefY w2 B g S vp vq qs ((runY ps).set i (prinP S.day (ps[i].putO (parts[k]).kind q) ps[i].o2, (prinP S.day (ps[i].putO (parts[k]).kind q) ps[i].o2).o2))) (hpt : PartsAt w2 v parts) (hT : Turn w B vp w2) :
  RGiveInv w w2 B g S vp vq v qs parts times (k + 1) (ps.set i (prinP S.day (ps[i].putO (parts[k]).kind q) ps[i].o2)) := by
 have h1 := giveS_take S.day times parts S.ps k ps hk h.eq
 rw [runY_set] at hv
 exact ⟨by rw [h1.1, hg], hv.toV, hpt, by simpa using h.len, hT⟩
theorem Turn.trans {w w1 w2 : World} {B : Nat} {v : Value} (h : Turn w B v w1) (k : Turn w1 B v w2) : Turn w B v w2 :=
 ⟨h.bel.trans k.bel, ⟨k.gr.os.trans h.gr.os, k.gr.tape.trans h.gr.tape, k.gr.output.trans h.gr.output, Nat.le_trans h.gr.size k.gr.size, fun x hx hn => (k.gr.block x (Nat.lt_of_lt_of_le hx h.gr.size) hn).trans (h.gr.block x hx hn)⟩⟩
theorem Turn.drew {w w1 : World} {B : Nat} {v : Value} (h : Turn w B v w1) : Turn w B v w1.drew := ⟨h.bel.drew, ⟨h.gr.os, h.gr.tape, h.gr.output, h.gr.size, h.gr.block⟩⟩
theorem rprin_enter (u : Value) (a : Int) (w : World) : (callFunc 125 #[u, .int .i64 a]).run Tryz.prog w = .ok (.enter 125 #[u, .int .i64 a]) w := by kernel_rfl
theorem rgive_any (g B : Nat) (S : Ac) (vp vq : Value) (qs : List PmE) (A : Option Addr) (n c : Nat) (parts : List Dq) (times : Int) (w : World) (h : RefV w B g S vp vq qs) (hpt : PartsAt w (.slice A n c) parts) (hB : B ≤ w.heap.size)
  (hN : S.ps.length ≤ 1000) (hn : n ≤ 1000000) (h1 : 0 ≤ S.day ∧ S.day ≤ 3652058) (hgood : ∀ k ps (hk : k < parts.length), giveS S.day times S.ps (parts.take k) = some ps → GoodR S.day S.bp times ps parts[k]) :
  Calls Tryz.prog 128 #[.pointer (some ⟨g, 0, none⟩), .slice A n c, .int .i64 times] w (RGiveOf w B g S vp vq (.slice A n c) qs parts (giveS S.day times S.ps parts)) := by
 have hnl := hpt.rd.1
 have H0 : Hid (RGiveInv w w B g S vp vq (.slice A n c) qs parts times 0 S.ps) := hyd ⟨rfl, h, hpt, rfl, Turn.refl _ _ _⟩
 have HGD := hyd hgood; have HNL := hyd hnl
 have hgB := h.hB
 clear h hpt hgood hnl
 go_enter Tryz.func128, Tryz.ntmps128
 go_wp2_with fail
 go_loopg [7] n (fun gh v7 wr => ∃ (k : Nat) (ps : List Per), gh = n - k ∧ k ≤ n ∧ v7 = .int .i64 k ∧ RGiveInv w wr B g S vp vq (.slice A n c) qs parts times k ps)
 case atStart => exact ⟨0, S.ps, rfl, by omega, rfl, H0.out⟩
 case round =>
  obtain ⟨k, ps, hgk, hk, rfl, hinv⟩ := hrel
  have HG := hyd hgk; have HV := hyd hinv
  have hBr : B ≤ wr.heap.size := Nat.le_trans hB hinv.bel.size
  by_cases hlt : k < n
  · have hkp : k < parts.length := by have := HNL.out; omega
    have hgd := HGD.out k ps hkp hinv.eq
    obtain ⟨i, hi, he⟩ := hgd.at_.i
    have hpl : ps.length ≤ 1000 := by rw [hinv.len]; exact hN
    obtain ⟨b, off, e1, hb, _, _, _, _⟩ := (hinv.pt.rd.2.2.2).it hkp
    subst e1
    have hof : off = 0 := by
     obtain ⟨A', c', e, _, _, h3⟩ := hinv.pt
     obtain ⟨b', cs, e1, _⟩ := h3 (by omega)
     injection e with e _ _; rw [e1] at e; injection e with e; injection e with _ e _
    subst hof
    obtain ⟨gp, cap, evp, hcap, hgpB, hper⟩ := hinv.own.per (i := i) hi
    have hpok := hgd.per _ (List.getElem_mem hi)
    have hkd := hgd.at_.kind
    have hmul := hgd.at_.mul
    have hpos := hgd.pos i hi he
    have hsml := hgd.sml
    have HPL := hyd (rplace_any g B { S with ps := ps } (parts[k]).per wr ⟨_, _, _, hinv.own⟩ hpl)
    have hpe : ({ S with ps := ps } : Ac).place (parts[k]).per = (i : Int) := he
    rw [hpe] at HPL
    have HPT := hyd (fun (wx : World) (hx : PartsAt wx (.slice (some ⟨b, 0, none⟩) n c) parts) => hx.it hkp)
    obtain ⟨q, hq⟩ : ∃ q, ps[i].opn (parts[k]).kind + times * (parts[k]).opn = q := ⟨_, rfl⟩
    have hg1 := give1_is (times := times) hi he hkd hpok hmul hq (by omega)
    have HII := hyd hi
    have hobd := opn_bd hpok hkd
    have HST := hyd (fun (w2 : World) (hv : RGiveInv w wr B g S vp vq (.slice (some ⟨b, 0, none⟩) n c) qs parts times k ps) hgg => RGiveInv.step (w2 := w2) (q := q) hv hkp hi hgg)
    have HNN := hyd (fun h0 => (giveS_take S.day times parts S.ps k ps hkp hinv.eq).2 h0)
    have HG1 := hyd hg1
    have hs0 := hpok.since0
    have hin := hpok.int
    have hb2 := hpok.b2
    have HPK := hyd hpok
    have hll : (runY ps).length = ps.length := runY_len ps
    have HRA : Hid (∀ hx : i < (runY ps).length, (runY ps)[i]'hx = (ps[i], ps[i].o2)) := hyd (fun hx => runY_at hx)
    have HPUT := hyd (fun (X : World) (hv : RefY X B g S (.slice (some ⟨gp, 0, none⟩) (runY ps).length cap) vq qs (runY ps)) x => hv.setPer (by rw [hll]; exact hi) x)
    subst evp
    have hY0 : RefY wr B g S (.slice (some ⟨gp, 0, none⟩) (runY ps).length cap) vq qs (runY ps) := by rw [runY_len]; exact hinv.own.toY.anyps rfl rfl rfl rfl
    have HY0 := hyd hY0
    generalize parts[k] = x at *
    generalize ps[i] = p at *
    obtain ⟨xd, xk, xp, xo⟩ := x
    simp only at hmul hkd HPL HPT hq hpos hobd hsml HST HNN
    obtain ⟨kk, rfl, hk3⟩ : ∃ kk : Nat, xk = (kk : Int) ∧ kk < 3 := ⟨xk.toNat, by omega, by omega⟩
    obtain ⟨hb0, c0, c1, c2, c3⟩ := HPT.out wr hinv.pt
    have j1 : (0 : Int) ≤ (k : Int) := by omega
    have j2 : (k : Int) < (n : Int) := by omega
    have i1 : (0 : Int) ≤ (i : Int) := by omega
    obtain ⟨np, hnp⟩ : ∃ np, ps.length = np := ⟨_, rfl⟩
    have i2 : (i : Int) < (np : Int) := by omega
    have k1 : (0 : Int) ≤ (kk : Int) := by omega
    have hpos' : 0 ≤ q := by omega
    have k2 : (kk : Int) < 3 := by omega
    obtain ⟨a0, a1, a2, a3, a4, a5⟩ := cells5U hinv.own.hg
    have hgg := blk_lt hinv.own.hg
    have hgpl := hper.lt
    obtain ⟨⟨d0, d1, d2, d3, d4, d5, d6, d7⟩, d8, d9, d10, d11, d12⟩ := hper.all
    have HNP := hyd hnp
    simp only at a0 a1 a2 a3 a4 d9
    rw [hnp] at a3
    have hXB : Below wr.heap.size wr (wr.alloc (perYO S.bp (p, p.o2))) := bnewU _ _
    have HX := hyd (blk_new wr (perYO S.bp (p, p.o2)) rfl)
    have HXB := hyd hXB
    have HYX := hyd (hY0.below hXB)
    have HPX := hyd (hinv.pt.below hXB)
    have HTX := hyd (hinv.bel.below hXB hBr)
    have hwr : w.heap.size ≤ wr.heap.size := hinv.bel.size
    have hmw : IntKind.i64.wrap (times * xo) = times * xo := IntWalk.i64_in _ (by omega)
    have hqw : IntKind.i64.wrap q = q := IntWalk.i64_in _ (by omega)
    obtain ⟨gl, hgl⟩ : ∃ gl, wr.heap.size = gl := ⟨_, rfl⟩
    clear hgk hinv hgd hper hpok hpe hg1 hY0 hXB hll hcap hobd hnp
    go_wp2_with fail
    refine HPL.out.mono ?_; rintro e w' ⟨rfl, rfl⟩
    go_upto_region 6 with fail
    generalize wr.alloc (perYO S.bp (p, p.o2)) = X at *
    rw [hgl] at HX
    obtain ⟨hbx, e0, e1, e2, e3⟩ := HPT.out X HPX.out
    have xk := box_kind hk3 HX.out
    have xf := fun j => blk_free HX.out j
    have hxl := blk_lt HX.out
    clear c0 c1 c2 c3 d0 d1 d2 d3 d4 d5 d6 d7 d8 d9 d10 d11 d12 a0 a1 a2 a3 a4 a5 HPL e0 e2 hb0 hgg
    go_region
    have hX6 : (X.setCell ⟨gl, 5 + kk, none⟩ (.int .i64 q)).drew.heap[gl]? = some (perYO S.bp (p.putO kk q, p.o2)) := box_putO (q := q) hk3 HX.out
    have hY6 := (HYX.out.setFar (gl := gl) (by omega) HX.out (5 + kk) (.int .i64 q)).below (Below.refl _ _).drew
    have hT6 := (HTX.out.far1 (gl := gl) (j := 5 + kk) (u := .int .i64 q) (by omega) (by omega)).drew
    have hP6 := (HPX.out.puts3 ((Puts.start (Below.refl X.heap.size X)).set (5 + kk) (.int .i64 q)) HX.out (by decide)).below (Below.refl _ _).drew
    clear xk xf hxl e1 e3 hbx HX HYX HPX HTX HXB HY0
    generalize (X.setCell ⟨gl, 5 + kk, none⟩ (.int .i64 q)).drew = Y at *
    have HX6 := hyd hX6; have HY6 := hyd hY6; have HT6 := hyd hT6; have HP6 := hyd hP6
    obtain ⟨hbx, e0, e1, e2, e3⟩ := HPT.out Y hP6
    have xk := box_kind hk3 hX6
    rw [putO_kind hk3] at xk
    have hxl := blk_lt hX6
    clear hX6 hY6 hT6 hP6 e0 e2 e3
    by_cases hc : q ≤ 4611686018427387904
    · have hgg1 := HG1.out
      rw [if_pos hc] at hgg1
      have HGG1 := hyd hgg1
      have d1 : decide (q > 4611686018427387904) = false := by simpa using hc
      have ho2 := putO_o2 (q := q) hk3 ⟨hpos', hc⟩ hb2
      obtain ⟨r1, r2, r3, r4⟩ := putO_rest p kk q
      obtain ⟨p6, hp6⟩ : ∃ p6, p.putO kk q = p6 := ⟨_, rfl⟩
      rw [hp6] at ho2 r1 r2 r3 HX6 HGG1
      have HS2 := HST.out
      simp only [hp6] at HS2
      have hin6 : p6.since ≤ S.day → interestS S.day S.bp { p6 with o2 := p.o2 } = (p6.acc, 0) := fun hs => by
       rw [interest_eq S.day S.bp (p := p) (q := { p6 with o2 := p.o2 }) rfl r1 r3, r2]
       exact hin (by rw [← r1]; exact hs)
      obtain ⟨pz, hpz⟩ : ∃ pz, prinP S.day p6 p.o2 = pz := ⟨_, rfl⟩
      rw [hpz] at HGG1
      rw [hpz] at HS2
      have HPR : Hid (∀ Z : World, RefY Z B g S (.slice (some ⟨gp, 0, none⟩) ps.length cap) vq qs ((runY ps).set i (p6, p.o2)) → B ≤ Z.heap.size → Calls Tryz.prog 125 #[.pointer (some ⟨g, 0, none⟩), .int .i64 (i : Int)] Z (PrinOf Z B g S (.slice (some ⟨gp, 0, none⟩) ps.length cap) vq qs ((runY ps).set i (pz, pz.o2)))) := hyd (fun Z hz hbz => by
       have e1 : ((runY ps).set i (p6, p.o2)).length = ps.length := by rw [List.length_set, runY_len]
       have h := rprin_any g B i gp cap S vq qs ((runY ps).set i (p6, p.o2)) p6 p.o2 Z (by rw [e1]; exact hz) hbz (by rw [e1]; exact hi) (by simp) (by rw [e1]; exact hpl) h1 (by rw [r1]; exact hs0) ho2 hin6
       rw [e1, List.set_set, hpz] at h
       exact h)
      have HYF : Hid (RefY (put13x Y gp (i * 13) S.bp (p6, p.o2)).drew B g S (.slice (some ⟨gp, 0, none⟩) ps.length cap) vq qs ((runY ps).set i (p6, p.o2)) ∧ Turn w B (.slice (some ⟨gp, 0, none⟩) ps.length cap) (put13x Y gp (i * 13) S.bp (p6, p.o2)).drew ∧ PartsAt (put13x Y gp (i * 13) S.bp (p6, p.o2)).drew (.slice (some ⟨b, 0, none⟩) n c) parts) := hyd (by
       rw [put13x_eq]
       have h1 := HPUT.out Y HY6.out (p6, p.o2)
       rw [runY_len] at h1
       obtain ⟨_, cs, hcs⟩ := own_block_type HY6.out.hp (b := gp) rfl
       exact ⟨h1.below (Below.refl _ _).drew, (HT6.out.many hgpB).drew, (HP6.out.keep fun b' cs' hb' => putMany_far gp _ Y _ b' (ne_of_type' hb' hcs (by decide))).below (Below.refl _ _).drew⟩)
      have HS3 := hyd HS2
      clear hc hgg1 ho2 r1 r2 r3 r4 hp6 HS2 hin6 hpz
      go_upto_region 9 with fail
      clear xk e1
      have x0 := blk_cell HX6.out 0; have x1 := blk_cell HX6.out 1; have x2 := blk_cell HX6.out 2; have x3 := blk_cell HX6.out 3; have x4 := blk_cell HX6.out 4; have x5 := blk_cell HX6.out 5; have x6 := blk_cell HX6.out 6
      have x7 := blk_cell HX6.out 7; have x8 := blk_cell HX6.out 8; have x9 := blk_cell HX6.out 9; have x10 := blk_cell HX6.out 10; have x11 := blk_cell HX6.out 11; have x12 := blk_cell HX6.out 12
      simp only [List.getElem?_toArray, List.getElem?_cons_succ, List.getElem?_cons_zero] at x0 x1 x2 x3 x4 x5 x6 x7 x8 x9 x10 x11 x12
      obtain ⟨a0, a1, a2, a3, a4, a5⟩ := cells5U HY6.out.hg
      rw [runY_len, HNP.out] at a3
      have hgl3 := blk_lt HY6.out.hg
      obtain ⟨gp', cap', e1, _, _, hpr⟩ := HY6.out.per (i := i) (by rw [runY_len]; exact hi)
      injection e1 with e1 _ e3; injection e1 with e1; injection e1 with e1 _ _; subst e1; subst e3
      obtain ⟨⟨c0, c1, c2, c3, c4, c5, c6, c7⟩, c8, c9, c10, c11, c12⟩ := hpr.all
      have f0 := hpr.f 0 (by omega); have f1 := hpr.f 1 (by omega); have f2 := hpr.f 2 (by omega); have f3 := hpr.f 3 (by omega); have f4 := hpr.f 4 (by omega); have f5 := hpr.f 5 (by omega); have f6 := hpr.f 6 (by omega)
      have f7 := hpr.f 7 (by omega); have f8 := hpr.f 8 (by omega); have f9 := hpr.f 9 (by omega); have f10 := hpr.f 10 (by omega); have f11 := hpr.f 11 (by omega); have f12 := hpr.f 12 (by omega)
      have hgpl2 := hpr.lt
      rw [Nat.add_zero] at f0
      clear hpr
      go_region
      clear x0 x1 x2 x3 x4 x5 x6 x7 x8 x9 x10 x11 x12 c0 c1 c2 c3 c4 c5 c6 c7 c8 c9 c10 c11 c12 f0 f1 f2 f3 f4 f5 f6 f7 f8 f9 f10 f11 f12 a0 a1 a2 a3 a4 a5 HX6 HY6 HT6 HP6
      generalize (put13x Y gp (i * 13) S.bp (p6, p.o2)).drew = Z at *
      go_wp2_with fail
      refine (HPR.out Z HYF.out.1 (Nat.le_trans hB HYF.out.2.1.size)).mono ?_; rintro e w2 ⟨rfl, hT2, hY2⟩
      have HFIN := hyd (HS3.out w2 HV.out HGG1.out hY2 (HYF.out.2.2.turn hT2 HYF.out.1.hp (by decide)) (HYF.out.2.1.trans hT2))
      clear hT2 hY2
      go_wp2_with fail
      go_roundg (n - (k + 1))
      case measure => have := HG.out; omega
      case rel => exact ⟨k + 1, _, rfl, by omega, by go_num, HFIN.out⟩
    · have hgg1 := HG1.out
      rw [if_neg hc] at hgg1
      have HGS := hyd (HNN.out hgg1)
      have d1 : decide (q > 4611686018427387904) = true := by simpa using hc
      clear hc hgg1
      go_wp2_with fail
      go_ret
      rw [HGS.out]
      exact ⟨HT6.out, rfl⟩
  · have hkn : k = n := by omega
    subst hkn
    have hee := hinv.eq
    rw [List.take_of_length_le (by have := HNL.out; omega)] at hee
    have HEE := hyd hee
    clear hee hinv hgk
    go_wp2_with fail
    go_ret
    rw [HEE.out]
    exact ⟨HV.out.bel, rfl, HV.out.own, HV.out.pt, HV.out.len⟩
end
section
open Go.RowKit Go
theorem itemsP_take {p : Per} {j : Nat} (hj : j < 3) : (itemsP p).take (j + 1) = (itemsP p).take j ++ [⟨p.ret.due, j, p.ret.per, p.opn j⟩] := by
 rcases (show j = 0 ∨ j = 1 ∨ j = 2 by omega) with rfl | rfl | rfl <;> rfl
theorem it_app {w wx w5 : World} {m c gl : Nat} {A : Option Addr} {xs : List Value} {cs : Array Value} {T : TypeId} {fr : Nat × Nat} {o : Obj} (h : wx.ownsRow w.heap.size 58 4 (.slice A m c) m xs) (hb : Below w.heap.size w wx) (hx : wx.heap[gl]? = some (.cells cs T fr)) (hT : T ≠ 58) (hg : (wx.drew.alloc o).grownBy w5 (Value.slice A m c).ownBlock) :
  Below w.heap.size w w5 ∧ w5.heap[gl]? = some (.cells cs T fr) :=
 ⟨((hb.drew).alloc hb.size o).grown hg (by have := hb.size; simp; omega) (fun k hk => (own_block_type h hk).1), own_far_type ((own_drew h).alloc o) hg (blk_alloc (w := wx.drew) hx o) hT⟩
theorem ritems_any (g B : Nat) (S : Ac) (w : World) (h : RefAt w B g S) (hN : S.ps.length ≤ 1000) :
  Calls Tryz.prog 131 #[.pointer (some ⟨g, 0, none⟩)] w fun e w' => ∃ A c, e = .returned (.slice A (itemsOf S.ps).length c) ∧ w'.ownsRow w.heap.size 58 4 (.slice A (itemsOf S.ps).length c) (itemsOf S.ps).length (itCs (itemsOf S.ps)) ∧ Below w.heap.size w w' := by
 obtain ⟨vp, vq, qs, h⟩ := h
 obtain ⟨A, c, rfl, hc, _⟩ := h.rdp
 obtain ⟨i0, hi, hz0, hz1, hz2⟩ := info_parts info_it
 have HV := hyd h
 obtain ⟨n, hn⟩ : ∃ n, S.ps.length = n := ⟨_, rfl⟩
 have HN := hyd hn
 rw [hn] at hN
 clear h hc hn
 go_enter Tryz.func131, Tryz.ntmps131
 go_wp2_with fail
 go_loopg [3, 4] n (fun gh v3 v4 wr => ∃ k : Nat, gh = n - k ∧ k ≤ n ∧ v4 = .int .i64 k ∧ wr.ownsRow w.heap.size 58 4 v3 (k * 3) (itCs (itemsOf (S.ps.take k))) ∧ Below w.heap.size w wr)
 case atStart => exact ⟨0, rfl, by omega, rfl, World.ownsRow_nil _ _ _ _, Below.refl _ _⟩
 case round =>
  obtain ⟨k, hgk, hk, rfl, hown, hbr⟩ := hrel
  have HG := hyd hgk; have HO := hyd hown; have HB := hyd hbr
  have hvr := HV.out.below hbr
  have hzr := hbr.size
  obtain ⟨a0, a1, a2, a3, a4, a5⟩ := cells5U hvr.hg
  rw [HN.out] at a3
  have hgr := blk_lt hvr.hg
  by_cases hlt : k < n
  · have hl1 : k < S.ps.length := by rw [HN.out]; exact hlt
    obtain ⟨gp, cap, e1, _, _, hper⟩ := hvr.per (i := k) hl1
    injection e1 with e1 _ _; subst e1
    have hgpl := hper.lt
    obtain ⟨⟨c0, c1, c2, c3, c4, c5, c6, c7⟩, c8, c9, c10, c11, c12⟩ := hper.all
    have HTK : Hid (itemsOf (S.ps.take (k + 1)) = itemsOf (S.ps.take k) ++ itemsP S.ps[k]) := hyd (itemsOf_take hl1)
    generalize S.ps[k] = p at *
    have hXB : Below wr.heap.size wr (wr.alloc (perYO S.bp (p, p.o2))) := bnewU _ _
    have HX := hyd (blk_new wr (perYO S.bp (p, p.o2)) rfl)
    have HBX := hyd (hbr.trans (hXB.mono hzr)); have HOX := hyd (own_below hown hXB)
    have i1 : (0 : Int) ≤ (k : Int) := by omega
    have i2 : (k : Int) < (n : Int) := by omega
    obtain ⟨A3, k3, rfl, _⟩ := own_form hown
    clear hgk hown hbr hvr hper hXB
    go_upto_region 6 with fail
    generalize wr.alloc (perYO S.bp (p, p.o2)) = X at *
    obtain ⟨gl, hgl⟩ : ∃ gl, wr.heap.size = gl := ⟨_, rfl⟩
    rw [hgl] at HX
    have HX2 : Hid (X.heap[gl]? = some (perYO S.bp (p, p.o2))) := HX
    clear a0 a1 a2 a3 a4 a5 c0 c1 c2 c3 c4 c5 c6 c7 c8 c9 c10 c11 c12 hgr HX
    go_wp2_with fail
    go_loopg [3, 6] 3 (fun gh v3 v6 wx => ∃ j : Nat, gh = 3 - j ∧ j ≤ 3 ∧ v6 = .int .i64 j ∧ wx.ownsRow w.heap.size 58 4 v3 (k * 3 + j) (itCs (itemsOf (S.ps.take k) ++ (itemsP p).take j)) ∧ Below w.heap.size w wx ∧ wx.heap[gl]? = some (perYO S.bp (p, p.o2)))
    case atStart => exact ⟨0, rfl, by omega, rfl, by simpa using HOX.out, HBX.out, HX2.out⟩
    case round =>
     obtain ⟨j, hgj, hj, rfl, hown, hbx, hx⟩ := hrel
     have HGJ := hyd hgj; have HO2 := hyd hown; have HB2 := hyd hbx; have HX3 := hyd hx
     obtain ⟨A4, k4, rfl, _⟩ := own_form hown
     by_cases hlj : j < 3
     · have hzx := hbx.size
       have x0 := blk_cell hx 0; have x1 := blk_cell hx 1
       simp only [List.getElem?_toArray, List.getElem?_cons_succ, List.getElem?_cons_zero] at x0 x1
       have xk := box_kind hlj hx
       have hxl := blk_lt hx
       have HST : Hid (itCs (itemsOf (S.ps.take k) ++ (itemsP p).take j) ++ [.int .i64 p.ret.due, .int .i64 j, .int .i64 p.ret.per, .int .i64 (p.opn j)] = itCs (itemsOf (S.ps.take k) ++ (itemsP p).take (j + 1))) := hyd (by
        rw [itemsP_take hlj, ← List.append_assoc, itCs_app (itemsOf (S.ps.take k) ++ (itemsP p).take j)]; rfl)
       have j1 : (0 : Int) ≤ (j : Int) := by omega
       have j2 : (j : Int) < 3 := by omega
       obtain ⟨pj, hpj⟩ : ∃ pj, p.opn j = pj := ⟨_, rfl⟩
       rw [hpj] at xk HST
       clear hgj hown hbx hx hpj
       go_upto_region 9 with fail
       go_region_law (refine step_app rfl (.tmp 27) (.tmp 40) 41 rfl w.heap.size 58 i0 _ 4 32 Tryz.underlying41 hi hz0 hz1 hz2 rfl (by omega) (.slice A4 (k * 3 + j) k4) (k * 3 + j) _ rfl ((own_drew HO2.out).alloc _) _ (some ⟨wr.heap.size, 0, none⟩) 1 1 _ rfl (Rd.new (w := wr.drew) (cs := #[.int .i64 p.ret.due, .int .i64 j, .int .i64 p.ret.per, .int .i64 pj]) (t := 58) rfl rfl) (by intro u hu; simp at hu; rcases hu with rfl | rfl | rfl | rfl <;> rfl) (by unfold maxLen; omega) (by omega) (by simp; omega) ?_
                      intro v5 w5 hO hgr hat
                      have hE := it_app HO2.out HB2.out HX3.out (by decide) hgr
                      have HE := hyd hE; have HO5 := hyd hO
                      clear hO hgr hat hE)
       all_goals go_wp2_with fail
       all_goals go_roundg (3 - (j + 1))
       all_goals first
        | exact ⟨j + 1, rfl, by omega, by go_num, by have h := HO5.out; rw [HST.out] at h; exact h, HE.out.1, HE.out.2⟩
        | (have := HGJ.out; omega)
     · have hj3 : j = 3 := by omega
       subst hj3
       have HFIN : Hid ((wr.ownsRow w.heap.size 58 4 (.slice A4 ((k + 1) * 3) k4) ((k + 1) * 3) (itCs (itemsOf (S.ps.take (k + 1)))))) := hyd (by
        have h := HO2.out
        rw [HTK.out, show (k + 1) * 3 = k * 3 + 3 by omega]
        exact h)
       clear hgj hown hbx hx
       have e3 : k * 3 + 3 = (k + 1) * 3 := by omega
       rw [e3]
       go_wp2_with fail
       go_roundg (n - (k + 1))
       case measure => have := HG.out; omega
       case rel => exact ⟨k + 1, rfl, by omega, by go_num, HFIN.out, HB2.out⟩
  · have hkn : k = n := by omega
    subst hkn
    have hEN : itemsOf (S.ps.take k) = itemsOf S.ps := by rw [List.take_of_length_le (by rw [HN.out]; exact Nat.le_refl _)]
    obtain ⟨A4, k4, rfl, _⟩ := own_form hown
    have HL : Hid ((itemsOf S.ps).length = k * 3) := hyd (by rw [itemsOf_len, HN.out])
    rw [hEN] at HO
    clear hgk hown hbr hvr hEN
    go_wp2_with fail
    go_ret
    rw [HL.out]
    exact ⟨A4, k4, rfl, HO.out, HB.out⟩
theorem rpayment_any (g B : Nat) (S : Ac) (n : Int) (w : World) (h : RefAt w B g S) (hN : S.ms.length ≤ 1000) :
  Calls Tryz.prog 126 #[.pointer (some ⟨g, 0, none⟩), .int .i64 n] w fun e w' => e = .returned (.int .i64 (S.pay n)) ∧ w = w' := by
 obtain ⟨vp, vq, qs, h⟩ := h
 obtain ⟨A, c, rfl, hc, hr⟩ := h.rdq
 obtain ⟨a0, a1, a2, a3, a4, a5⟩ := cells5U h.hg
 have hgl := blk_lt h.hg
 have hql := h.len
 obtain ⟨np, hnp⟩ : ∃ np, S.ms.length = np := ⟨_, rfl⟩
 rw [hnp] at hN hr a4 hql
 have HR := hyd hr
 have hpay : S.pay n = idxI (fun q : PmE => decide (q.p.id = n)) 0 qs := by rw [idxI_map PmE.p (fun p : Pm => decide (p.id = n)) qs 0, h.hm]; rfl
 rw [hpay]
 have hpc := idxI_spec (fun q : PmE => decide (q.p.id = n)) qs 0
 clear h hr hc hnp hpay
 rcases hpc with ⟨h1, h2⟩ | ⟨i, hi, h1, h2, h3⟩
 · rw [h1]
   have H2 := hyd h2
   clear h1 h2
   go_enter Tryz.func126, Tryz.ntmps126
   go_wp2_with fail
   go_loopg [5] np (fun gh v5 wr => ∃ k : Nat, gh = np - k ∧ k ≤ np ∧ v5 = .int .i64 k ∧ w = wr)
   case atStart => exact ⟨0, rfl, by omega, rfl, rfl⟩
   case round =>
    obtain ⟨k, hgk, hk, rfl, rfl⟩ := hrel
    have HGK := hyd hgk
    by_cases hlt : k < np
    · have hkl : k < qs.length := by omega
      obtain ⟨b, off, e1, hb, c0, _⟩ := HR.out.pm hkl
      subst e1
      have hne : (qs[k].p.id == n) = false := by simpa using H2.out _ (List.getElem_mem hkl)
      generalize qs[k].p.id = x at *
      have i1 : (0 : Int) ≤ (k : Int) := by omega
      have i2 : (k : Int) < (np : Int) := by omega
      clear hgk
      go_wp2_with fail
      go_roundg (np - (k + 1))
      case measure => have := HGK.out; omega
      case rel => exact ⟨k + 1, rfl, by omega, by go_num, rfl⟩
    · clear hgk
      go_wp2_with fail
      go_ret
      exact ⟨rfl, rfl⟩
 · rw [h1]
   have H2 := hyd h2; have H3 := hyd h3
   have hin : i < np := by omega
   clear h1 h2 h3
   go_enter Tryz.func126, Tryz.ntmps126
   go_wp2_with fail
   go_loopg [5] np (fun gh v5 wr => ∃ k : Nat, gh = np - k ∧ k ≤ i ∧ v5 = .int .i64 k ∧ w = wr)
   case atStart => exact ⟨0, rfl, by omega, rfl, rfl⟩
   case round =>
    obtain ⟨k, hgk, hk, rfl, rfl⟩ := hrel
    have HGK := hyd hgk
    have hkl : k < qs.length := by omega
    obtain ⟨b, off, e1, hb, c0, _⟩ := HR.out.pm hkl
    subst e1
    have i1 : (0 : Int) ≤ (k : Int) := by omega
    have i2 : (k : Int) < (np : Int) := by omega
    by_cases hlt : k < i
    · have hne : (qs[k].p.id == n) = false := by simpa using H3.out k hlt
      generalize qs[k].p.id = x at *
      clear hgk
      go_wp2_with fail
      go_roundg (np - (k + 1))
      case measure => have := HGK.out; omega
      case rel => exact ⟨k + 1, rfl, by omega, by go_num, rfl⟩
    · have hki : k = i := by omega
      subst hki
      have hne : (qs[k].p.id == n) = true := by simpa using H2.out
      generalize qs[k].p.id = x at *
      clear hgk
      go_wp2_with fail
      go_ret
      exact ⟨by simp, rfl⟩
theorem rsum21_any (A : Option Addr) (n c : Nat) (l : List Dq) (w : World) (h : PartsAt w (.slice A n c) l) (hn : n ≤ 1000000) (hs : ∀ k, k ≤ l.length → 0 ≤ opens (l.take k) ∧ opens (l.take k) ≤ 4611686018427387904) :
  Calls Tryz.prog 129 #[.slice A n c] w fun e w' => e = .returned (.int .i64 (opens l)) ∧ w = w' := by
 obtain ⟨hl, _, _, hr⟩ := h.rd
 have HR := hyd hr; have HL := hyd hl; have HS := hyd hs
 clear h hr hl hs
 go_enter Tryz.func129, Tryz.ntmps129
 go_wp2_with fail
 go_loopg [3, 4] n (fun gh v3 v4 wr => ∃ k : Nat, gh = n - k ∧ k ≤ n ∧ v4 = .int .i64 k ∧ v3 = .int .i64 (opens (l.take k)) ∧ w = wr)
 case atStart => exact ⟨0, rfl, by omega, rfl, by simp [opens], rfl⟩
 case round =>
  obtain ⟨k, hgk, hk, rfl, rfl, rfl⟩ := hrel
  have HGK := hyd hgk
  by_cases hlt : k < n
  · have hkl : k < l.length := by have := HL.out; omega
    obtain ⟨b, off, e1, hb, c0, c1, c2, c3⟩ := HR.out.it hkl
    subst e1
    have h1 := HS.out k (by omega)
    have h2 := HS.out (k + 1) (by omega)
    have ht : opens (l.take (k + 1)) = opens (l.take k) + l[k].opn := by
     rw [List.take_succ_eq_append_getElem hkl, opens_app]; simp [opens]
    have HT := hyd ht
    rw [ht] at h2
    generalize opens (l.take k) = y at *
    generalize l[k] = x at *
    have hw : IntKind.i64.wrap (y + x.opn) = y + x.opn := IntWalk.i64_in _ (by omega)
    have i1 : (0 : Int) ≤ (k : Int) := by omega
    have i2 : (k : Int) < (n : Int) := by omega
    clear hgk ht
    go_wp2_with fail
    go_roundg (n - (k + 1))
    case measure => have := HGK.out; omega
    case rel => exact ⟨k + 1, rfl, by omega, by go_num, by first | rw [HT.out] | (rw [HT.out]; go_num), rfl⟩
  · have hkn : k = n := by omega
    subst hkn
    have he : opens (l.take k) = opens l := by rw [List.take_of_length_le (by rw [HL.out]; exact Nat.le_refl _)]
    rw [he]
    clear hgk he
    go_wp2_with fail
    go_ret
    exact ⟨rfl, rfl⟩
end
theorem openS_places {ps : List Per} (h : placesE (itemsOf ps) = 0) : placesE (openS ps) = 0 := by
 have hs := (ordS_is h).places h
 obtain ⟨h1, h2, h3⟩ := placesE_ok hs
 have hsub : (openS ps).Sublist (ordS (itemsOf ps)) := List.filter_sublist
 have e1 : (openS ps).length ≤ 200 := Nat.le_trans hsub.length_le h1
 have e2 : (openS ps).all okI = true := List.all_eq_true.2 fun x hx => List.all_eq_true.1 h2 x (hsub.subset hx)
 have e3 : ((openS ps).map keyI).Nodup := List.Pairwise.sublist (hsub.map keyI) h3
 unfold placesE
 rw [if_pos ⟨e1, e2⟩, if_pos e3]
theorem pay_ok {S : Ac} (h : Good S) {id a : Int} (hid : 1 ≤ id ∧ id ≤ 1099511627776) (ha : 1 ≤ a ∧ a ≤ 1125899906842624) (hn : S.ms.length < 50) (hnew : ∀ m ∈ S.ms, m.id ≠ id) (hc : S.cr + a ≤ 4611686018427387904) :
  ∃ ps, payS S id a = ({ S with ps := ps, cr := S.cr + leftI (itemsOf S.ps) a, ms := S.ms ++ [⟨id, S.day, a, partsOf (itemsOf S.ps) a, leftI (itemsOf S.ps) a, false⟩] }, ⟨0, 0, 0, a - leftI (itemsOf S.ps) a, leftI (itemsOf S.ps) a, a⟩, 0) ∧ itemsOf ps = restI (itemsOf S.ps) a := by
 obtain ⟨ps, e, hi, hr, hp, hri⟩ := h.paid (a := a) (by omega)
 have hl := leftI_bd h.places (show 0 ≤ a by omega)
 have hcr := h.cr
 have h2 : ¬ 0 ≤ S.pay id := by
  unfold Ac.pay
  rcases idxI_spec (fun p : Pm => decide (p.id = id)) S.ms 0 with ⟨h1, _⟩ | ⟨i, hi, _, h2, _⟩
  · omega
  · exact absurd (by simpa using h2) (hnew _ (List.getElem_mem hi))
 refine ⟨ps, ?_, hi⟩
 unfold payS
 rw [if_neg (by simp; omega), if_neg h2, if_neg (by omega)]
 unfold pay1
 rw [e]
 simp only
 have h3 : addS S.cr (leftI (itemsOf S.ps) a) = (S.cr + leftI (itemsOf S.ps) a, 0) := add_yes (by simp [amt]; omega) (by omega)
 rw [h3, if_pos rfl]
end Go.Proofs.YtbjjgnaojoaoiaaGreat
