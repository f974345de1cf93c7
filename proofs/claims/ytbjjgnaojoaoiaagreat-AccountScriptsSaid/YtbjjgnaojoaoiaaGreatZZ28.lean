/- Laws. -/
import Derived.Test.YtbjjgnaojoaoiaaGreatZZ27
namespace Go.Proofs.YtbjjgnaojoaoiaaGreat
set_option linter.unusedVariables false
set_option linter.unusedSimpArgs false
set_option maxHeartbeats 6400000
set_option maxRecDepth 100000
structure Stp where
 act : Int
 A : Option Addr
 c : Nat
 s : Sch
 r : Ret
 n : Int
 a : Int
 b : Int
noncomputable def stepS (S : Ac) (t : Stp) : Ac × Mv × Int :=
 if t.act = 0 then fileS S t.s t.r else if t.act = 1 then amendS S t.s t.n t.a t.b else if t.act = 2 then payS S t.n t.a else if t.act = 3 then reverseS S t.n else
 if t.act = 4 then offsetS S t.a else if t.act = 5 then refundS S t.a else advanceS S t.n
theorem file_sameZ {S : Ac} {s : Sch} {r : Ret} (h : (fileS S s r).2.2 ≠ 0) : (fileS S s r).1 = S := by
 unfold fileS at h ⊢
 split
 · rfl
 · rename_i h0
   rw [if_neg h0] at h
   split
   · rfl
   · rename_i h1
     rw [if_neg h1] at h
     split
     · rfl
     · rename_i h2
       rw [if_neg h2] at h
       unfold file1 at h ⊢
       split
       · rfl
       · rename_i h3
         rw [if_neg h3] at h
         split
         · rfl
         · rename_i h4
           rw [if_neg h4] at h
           exact absurd rfl h
theorem pay_same {S : Ac} {id a : Int} (h : (payS S id a).2.2 ≠ 0) : (payS S id a).1 = S := by
 unfold payS at h ⊢
 split
 · rfl
 · rename_i h0
   rw [if_neg h0] at h
   split
   · rfl
   · rename_i h1
     rw [if_neg h1] at h
     split
     · rfl
     · rename_i h2
       rw [if_neg h2] at h
       unfold pay1 at h ⊢
       cases hg : giveS S.day (-1) S.ps (partsOf (itemsOf S.ps) a) with
       | none => rfl
       | some ps =>
         rw [hg] at h
         simp only at h ⊢
         split
         · rename_i h4; rw [if_pos h4] at h; exact absurd rfl h
         · rfl
theorem offset_same {S : Ac} {a : Int} (h : (offsetS S a).2.2 ≠ 0) : (offsetS S a).1 = S := by
 unfold offsetS at h ⊢
 split
 · rfl
 · rename_i h0
   rw [if_neg h0] at h
   split
   · rfl
   · rename_i h1
     rw [if_neg h1] at h
     unfold offset1 at h ⊢
     cases hg : giveS S.day (-1) S.ps (partsOf (itemsOf S.ps) a) with
     | none => rfl
     | some ps => rw [hg] at h; exact absurd rfl h
theorem refund_same {S : Ac} {a : Int} (h : (refundS S a).2.2 ≠ 0) : (refundS S a).1 = S := by
 unfold refundS at h ⊢
 split
 · rfl
 · rename_i h0
   rw [if_neg h0] at h
   split
   · rfl
   · rename_i h1
     rw [if_neg h1] at h
     exact absurd rfl h
theorem amend_same {S : Ac} {s : Sch} {n inc wh : Int} (h : (amendS S s n inc wh).2.2 ≠ 0) : (amendS S s n inc wh).1 = S := by
 unfold amendS at h ⊢
 split
 · rfl
 · rename_i h0
   rw [if_neg h0] at h
   unfold amend1 at h ⊢
   split
   · rfl
   · rename_i h1
     rw [if_neg h1] at h
     split
     · rfl
     · rename_i h2
       rw [if_neg h2] at h
       split
       · rfl
       · rename_i h3
         rw [if_neg h3] at h
         exact absurd rfl h
theorem step_same {S : Ac} {t : Stp} (h : (stepS S t).2.2 ≠ 0) : (stepS S t).1 = S := by
 unfold stepS at h ⊢
 by_cases h0 : t.act = 0
 · rw [if_pos h0] at h ⊢; exact file_sameZ h
 · rw [if_neg h0] at h ⊢
   by_cases h1 : t.act = 1
   · rw [if_pos h1] at h ⊢; exact amend_same h
   · rw [if_neg h1] at h ⊢
     by_cases h2 : t.act = 2
     · rw [if_pos h2] at h ⊢; exact pay_same h
     · rw [if_neg h2] at h ⊢
       by_cases h3 : t.act = 3
       · rw [if_pos h3] at h ⊢; exact reverse_same h
       · rw [if_neg h3] at h ⊢
         by_cases h4 : t.act = 4
         · rw [if_pos h4] at h ⊢; exact offset_same h
         · rw [if_neg h4] at h ⊢
           by_cases h5 : t.act = 5
           · rw [if_pos h5] at h ⊢; exact refund_same h
           · rw [if_neg h5] at h ⊢; exact advance_same h
theorem change_ok {s : Sch} {p : Ret} {inc wh : Int} (h : (changeS s p (p.other2 inc wh)).2 = 0) : OkS s ∧ retB p = true ∧ retB (p.other2 inc wh) = true ∧
  (-1125899906842624 ≤ (changeS s p (p.other2 inc wh)).1.pen ∧ (changeS s p (p.other2 inc wh)).1.pen ≤ 1125899906842624) ∧
  (-1125899906842624 ≤ (changeS s p (p.other2 inc wh)).1.prin ∧ (changeS s p (p.other2 inc wh)).1.prin ≤ 1125899906842624) ∧
  (-1125899906842624 ≤ (changeS s p (p.other2 inc wh)).1.exc ∧ (changeS s p (p.other2 inc wh)).1.exc ≤ 1125899906842624) := by
 by_cases h1 : okS s = true ∧ retB p = true
 · by_cases h2 : retB (p.other2 inc wh) = true
   · have hn : ¬ (p.per ≠ (p.other2 inc wh).per ∨ (p.other2 inc wh).filed < p.filed) := by
       simp [Ret.other2]
     have hs := okS_yes h1.1
     have hm : retB (p.moved (p.other2 inc wh)) = true := retB_moved h1.2 h2
     have b1 := bill_bd hs hm
     have b2 := bill_bd hs h1.2
     rw [change_yes h1.1 h1.2 h2 hn]
     refine ⟨hs, h1.2, h2, ?_, ?_, ?_⟩
     · show _ ≤ (billV s (p.moved (p.other2 inc wh))).pen - (billV s p).pen ∧ (billV s (p.moved (p.other2 inc wh))).pen - (billV s p).pen ≤ _; omega
     · show _ ≤ (billV s (p.moved (p.other2 inc wh))).prin - (billV s p).prin ∧ (billV s (p.moved (p.other2 inc wh))).prin - (billV s p).prin ≤ _; omega
     · show _ ≤ (billV s (p.moved (p.other2 inc wh))).exc - (billV s p).exc ∧ (billV s (p.moved (p.other2 inc wh))).exc - (billV s p).exc ≤ _; omega
   · rw [change_no2 h2] at h; simp at h
 · rw [change_no1 h1] at h; simp at h
theorem PerOk.with_ {day bp : Int} {p : Per} (h : PerOk day bp p) {inc wh : Int} (hr : retB (p.ret.other2 inc wh) = true) : PerOk day bp (p.with_ (p.ret.other2 inc wh)) :=
 ⟨hr, h.b0, h.b1, h.b2, h.since, h.at_, h.done, h.acc, fun hle => (interest_eq day bp (p := p) rfl rfl rfl).trans (h.int hle), h.none_⟩
structure AmdOk (day bp : Int) (p : Per) (k : Nat) (r : Int × Mv × Per) : Prop where
 ok : PerOk day bp r.2.2
 ret : r.2.2.ret = p.ret
 cr : 0 ≤ r.2.1.cr
 o0 : r.2.2.o0 = p.o0 + r.2.1.c0
 o1 : r.2.2.o1 = p.o1 + r.2.1.c1
 o2 : r.2.2.o2 = p.o2 + r.2.1.c2
 paid : r.2.1.paid = 0
 cash : r.2.1.cash = 0
 z0 : k ≤ 0 → r.2.1.c0 = 0
 z1 : k ≤ 1 → r.2.1.c1 = 0
 z2 : k ≤ 2 → r.2.1.c2 = 0
theorem amdK_ok {day bp m0 m2 : Int} {p : Per} (h : PerOk day bp p) (hd : 0 ≤ day ∧ day ≤ 3652058) (hb : 0 ≤ bp ∧ bp ≤ 100000) : ∀ k, k ≤ 3 → (amdK day m0 m2 p k).1 = 0 → AmdOk day bp p k (amdK day m0 m2 p k)
 | 0, _, _ => ⟨h, rfl, by show (0 : Int) ≤ 0; omega, by show p.o0 = p.o0 + 0; omega, by show p.o1 = p.o1 + 0; omega, by show p.o2 = p.o2 + 0; omega, rfl, rfl, fun _ => rfl, fun _ => rfl, fun _ => rfl⟩
 | k + 1, hk, he => by
   by_cases h0 : (amdK day m0 m2 p k).1 ≠ 0
   · rw [amdK, if_pos h0] at he; simp at he
   · have ih := amdK_ok h hd hb (m0 := m0) (m2 := m2) k (by omega) (by omega)
     by_cases h1 : (amd1 day (k : Int) (moreK m0 m2 k) (amdK day m0 m2 p k).2.2).1 ≠ 0
     · rw [amdK, if_neg h0, if_pos h1] at he; simp at he
     · have e : amdK day m0 m2 p (k + 1) = (0, (amdK day m0 m2 p k).2.1.putK k (amd1 day (k : Int) (moreK m0 m2 k) (amdK day m0 m2 p k).2.2).2.1 (amd1 day (k : Int) (moreK m0 m2 k) (amdK day m0 m2 p k).2.2).2.2.1, (amd1 day (k : Int) (moreK m0 m2 k) (amdK day m0 m2 p k).2.2).2.2.2) := by
         rw [amdK, if_neg h0, if_neg h1]
       have hk3 : (k : Int) = 0 ∨ (k : Int) = 1 ∨ (k : Int) = 2 := by omega
       obtain ⟨a1, a2, a3, a4, a5, _⟩ := amd1_ok (more := moreK m0 m2 k) ih.ok hd hb hk3 (by omega)
       obtain ⟨i1, i2, i3, i4, i5, i6, i7, i8, i9, i10, i11⟩ := ih
       generalize amd1 day (k : Int) (moreK m0 m2 k) (amdK day m0 m2 p k).2.2 = q at *
       rw [e]
       generalize amdK day m0 m2 p k = r at *
       have x0 : ∀ q : Per, q.opn 0 = q.o0 := fun q => by simp [Per.opn]
       have x1 : ∀ q : Per, q.opn 1 = q.o1 := fun q => by simp [Per.opn]
       have x2 : ∀ q : Per, q.opn 2 = q.o2 := fun q => by simp [Per.opn]
       have hkk : k = 0 ∨ k = 1 ∨ k = 2 := by omega
       rcases hkk with rfl | rfl | rfl
       · have b1 := a5 1 (by omega) (by omega); have b2 := a5 2 (by omega) (by omega)
         have a4' : q.2.2.2.opn 0 = r.2.2.opn 0 + q.2.1 := a4
         rw [x0, x0] at a4'; rw [x1, x1] at b1; rw [x2, x2] at b2
         have z0 := i9 (by omega); have z1 := i10 (by omega); have z2 := i11 (by omega)
         exact ⟨a1, a2.trans i2, by show 0 ≤ r.2.1.cr + q.2.2.1; omega, by show q.2.2.2.o0 = p.o0 + q.2.1; omega, by show q.2.2.2.o1 = p.o1 + r.2.1.c1; omega, by show q.2.2.2.o2 = p.o2 + r.2.1.c2; omega, i7, i8, fun h => by omega, fun h => z1, fun h => z2⟩
       · have b1 := a5 0 (by omega) (by omega); have b2 := a5 2 (by omega) (by omega)
         have a4' : q.2.2.2.opn 1 = r.2.2.opn 1 + q.2.1 := a4
         rw [x1, x1] at a4'; rw [x0, x0] at b1; rw [x2, x2] at b2
         have z1 := i10 (by omega); have z2 := i11 (by omega)
         exact ⟨a1, a2.trans i2, by show 0 ≤ r.2.1.cr + q.2.2.1; omega, by show q.2.2.2.o0 = p.o0 + r.2.1.c0; omega, by show q.2.2.2.o1 = p.o1 + q.2.1; omega, by show q.2.2.2.o2 = p.o2 + r.2.1.c2; omega, i7, i8, fun h => by omega, fun h => by omega, fun h => z2⟩
       · have b1 := a5 0 (by omega) (by omega); have b2 := a5 1 (by omega) (by omega)
         have a4' : q.2.2.2.opn 2 = r.2.2.opn 2 + q.2.1 := a4
         rw [x2, x2] at a4'; rw [x0, x0] at b1; rw [x1, x1] at b2
         have z2 := i11 (by omega)
         exact ⟨a1, a2.trans i2, by show 0 ≤ r.2.1.cr + q.2.2.1; omega, by show q.2.2.2.o0 = p.o0 + r.2.1.c0; omega, by show q.2.2.2.o1 = p.o1 + r.2.1.c1; omega, by show q.2.2.2.o2 = p.o2 + q.2.1; omega, i7, i8, fun h => by omega, fun h => by omega, fun h => by omega⟩
theorem amd3_ok {day bp m0 m2 : Int} {p : Per} (h : PerOk day bp p) (hd : 0 ≤ day ∧ day ≤ 3652058) (hb : 0 ≤ bp ∧ bp ≤ 100000) (he : (amd3 day m0 m2 p).1 = 0) :
  PerOk day bp (amd3 day m0 m2 p).2.2 ∧ (amd3 day m0 m2 p).2.2.ret = p.ret ∧ 0 ≤ (amd3 day m0 m2 p).2.1.cr ∧
  (amd3 day m0 m2 p).2.2.o0 = p.o0 + (amd3 day m0 m2 p).2.1.c0 ∧ (amd3 day m0 m2 p).2.2.o1 = p.o1 + (amd3 day m0 m2 p).2.1.c1 ∧ (amd3 day m0 m2 p).2.2.o2 = p.o2 + (amd3 day m0 m2 p).2.1.c2 ∧ (amd3 day m0 m2 p).2.1.paid = 0 ∧ (amd3 day m0 m2 p).2.1.cash = 0 := by
 have h3 := amdK_ok h hd hb (m0 := m0) (m2 := m2) 3 (Nat.le_refl _) he
 exact ⟨h3.ok, h3.ret, h3.cr, h3.o0, h3.o1, h3.o2, h3.paid, h3.cash⟩
theorem place_at2 {S : Ac} {n : Int} (h : ¬ S.place n = -1) : ∃ i, ∃ hi : i < S.ps.length, S.place n = (i : Int) ∧ S.ps[i].ret.per = n ∧ S.ps.getD (S.place n).toNat Per.zero = S.ps[i] := by
 unfold Ac.place at h ⊢
 rcases idxI_spec (fun p : Per => decide (p.ret.per = n)) S.ps 0 with ⟨h1, _⟩ | ⟨i, hi, h1, h2, _⟩
 · exact absurd h1 h
 · refine ⟨i, hi, by rw [h1]; simp, by simpa using h2, ?_⟩
   rw [h1, List.getD_eq_getElem?_getD]
   simp only [Nat.zero_add, Int.toNat_natCast]
   rw [List.getElem?_eq_getElem hi]; rfl
theorem Good.amd {S : Ac} (h : Good S) (s : Sch) {i : Nat} (hi : i < S.ps.length) (inc wh : Int) : Good (amend1 S s i S.ps[i] inc wh).1 := by
 unfold amend1
 split
 · exact h
 · rename_i h1
   obtain ⟨k1, k2, k3, k4, k5, k6⟩ := change_ok (by omega : (changeS s S.ps[i].ret (S.ps[i].ret.other2 inc wh)).2 = 0)
   generalize changeS s S.ps[i].ret (S.ps[i].ret.other2 inc wh) = ch at *
   split
   · exact h
   · rename_i h2
     have hp := (h.per _ (List.getElem_mem hi)).with_ k3
     obtain ⟨q1, q2, q3, q4, q5, q6, _⟩ := amd3_ok hp h.day h.bp (by omega : (amd3 S.day ch.1.pen (ch.1.prin - ch.1.exc) (S.ps[i].with_ (S.ps[i].ret.other2 inc wh))).1 = 0)
     generalize amd3 S.day ch.1.pen (ch.1.prin - ch.1.exc) (S.ps[i].with_ (S.ps[i].ret.other2 inc wh)) = am at *
     split
     · exact h
     · rename_i h3
       obtain ⟨e1, e2, e3⟩ := add_ok (by omega : (addS S.cr am.2.1.cr).2 = 0)
       have hcr := h.cr
       have hper : am.2.2.ret.per = S.ps[i].ret.per ∧ am.2.2.ret.due = S.ps[i].ret.due := by rw [q2]; exact ⟨rfl, rfl⟩
       have hrise : RiseP (S.ps.set i am.2.2) := by
        have e : (S.ps.set i am.2.2).map (fun p => p.ret.per) = S.ps.map (fun p => p.ret.per) := by
         rw [List.map_set, hper.1]
         apply List.ext_getElem (by simp)
         intro j j1 j2
         rw [List.getElem_set]
         split
         · rename_i ej; subst ej; simp
         · rfl
        have h1 : (S.ps.map (fun p => p.ret.per)).Pairwise fun a b => a < b := List.pairwise_map.2 h.rise
        rw [← e] at h1
        exact List.pairwise_map.1 h1
       refine ⟨h.day, h.bp, by show 0 ≤ (addS _ _).1 ∧ (addS _ _).1 ≤ _; rw [e1]; omega, by show (S.ps.set i _).length ≤ 20; rw [List.length_set]; exact h.np, h.nm, hrise, fun p hpp => ?_, fun m hm => ?_, h.ids⟩
       · rcases List.mem_or_eq_of_mem_set hpp with hpp | rfl
         · exact h.per p hpp
         · exact q1
       · have hm0 := h.pm m hm
         refine ⟨hm0.id, hm0.day, hm0.amt, fun x hx => ?_, hm0.len, hm0.rest, hm0.sum⟩
         obtain ⟨h1, ⟨p, hpp, f1, f2⟩, h3⟩ := hm0.placed x hx
         obtain ⟨j, hj, rfl⟩ := List.mem_iff_getElem.1 hpp
         have hj2 : j < (S.ps.set i am.2.2).length := by rw [List.length_set]; exact hj
         have hg : (S.ps.set i am.2.2)[j].ret.per = S.ps[j].ret.per ∧ (S.ps.set i am.2.2)[j].ret.due = S.ps[j].ret.due := by
          rw [List.getElem_set]
          split
          · rename_i ej; subst ej; exact hper
          · exact ⟨rfl, rfl⟩
         have hx1 : ∃ q ∈ S.ps.set i am.2.2, q.ret.per = x.per := ⟨_, List.getElem_mem hj2, by rw [hg.1]; exact f1⟩
         exact ⟨placed_mem hrise hx1 h1.2, ⟨_, List.getElem_mem hj2, by rw [hg.1]; exact f1, by rw [hg.2]; exact f2⟩, h3⟩
theorem Good.amend {S : Ac} (h : Good S) (s : Sch) (n inc wh : Int) : Good (amendS S s n inc wh).1 := by
 unfold amendS
 split
 · exact h
 · rename_i h1
   obtain ⟨i, hi, e1, e2, e3⟩ := place_at2 h1
   rw [e3, e1, Int.toNat_natCast]
   exact h.amd s hi inc wh
theorem Good.step {S : Ac} (h : Good S) (t : Stp) : Good (stepS S t).1 := by
 unfold stepS
 split
 · exact h.file t.s t.r
 · split
   · exact h.amend t.s t.n t.a t.b
   · split
     · exact h.pay t.n t.a
     · split
       · exact h.reverse t.n
       · split
         · exact h.offset t.a
         · split
           · exact h.refund t.a
           · exact h.advance t.n

def perN (p : Per) : List Int := [p.ret.per, p.ret.due, p.ret.filed, p.ret.inc, p.ret.wh, p.o0, p.o1, p.o2, p.since, p.done, p.acc]
def itN (x : Dq) : List Int := [x.due, x.kind, x.per, x.opn]
def revN (b : Bool) : Int := if b then 1 else 0
def pmN (m : Pm) : List Int := [m.id, m.day, m.amt, (m.parts.length : Int)] ++ m.parts.flatMap itN ++ [m.rest, revN m.rev]
def saveN (S : Ac) : List Int := [S.day, S.bp, S.cr, (S.ps.length : Int)] ++ S.ps.flatMap perN ++ [(S.ms.length : Int)] ++ S.ms.flatMap pmN
def saveB (S : Ac) : List Nat := numsB (saveN S)
theorem perN_ok {day bp : Int} {p : Per} (h : PerOk day bp p) : ∀ n ∈ perN p, okN n := by
 obtain ⟨r1, r2, r3, r4, r5⟩ := retB_yes h.ret
 have d1 := dayB_yes r2
 have d2 := dayB_yes r3
 have d4 := mny_yes r4
 have d5 := mny_yes r5
 have d3 := h.since0; have b0 := h.b0; have b1 := h.b1; have b2 := h.b2; have b3 := h.done; have b4 := h.acc
 intro n hn
 simp only [perN, List.mem_cons, List.not_mem_nil, or_false] at hn
 unfold okN
 rcases hn with rfl | rfl | rfl | rfl | rfl | rfl | rfl | rfl | rfl | rfl | rfl <;> omega
theorem okI_ok {x : Dq} (h : okI x = true) : ∀ n ∈ itN x, okN n := by
 have := okI_yes h
 intro n hn
 simp only [itN, List.mem_cons, List.not_mem_nil, or_false] at hn
 unfold okN
 rcases hn with rfl | rfl | rfl | rfl <;> omega
theorem part_okI {day bp : Int} {ps : List Per} {x : Dq} (hp : ∀ p ∈ ps, PerOk day bp p) (h : Placed ps x ∧ (∃ p ∈ ps, p.ret.per = x.per ∧ p.ret.due = x.due) ∧ 1 ≤ x.opn ∧ x.opn ≤ 4611686018427387904) : okI x = true := by
 obtain ⟨⟨_, hk⟩, ⟨p, hpp, e1, e2⟩, h3, h4⟩ := h
 have h5 := hp p hpp
 have h6 := h5.due
 have h7 := (retB_yes h5.ret).1
 unfold okI
 have : 0 ≤ x.due ∧ x.due ≤ 3652058 ∧ 0 ≤ x.kind ∧ x.kind ≤ 2 ∧ 1 ≤ x.per ∧ x.per ≤ 99999 ∧ 0 ≤ x.opn ∧ x.opn ≤ 4611686018427387904 := by
  refine ⟨by omega, by omega, ?_, ?_, by omega, by omega, by omega, h4⟩ <;> rcases hk with e | e | e <;> omega
 simpa using this
theorem pmN_ok {day bp : Int} {ps : List Per} {m : Pm} (hp : ∀ p ∈ ps, PerOk day bp p) (h : PmOk ps m) : ∀ n ∈ pmN m, okN n := by
 have h1 := h.id; have h2 := h.day; have h3 := h.amt; have h4 := h.len; have h5 := h.rest; have h6 := h.sum
 have h7 := opens_nn (l := m.parts) (fun x hx => by have := (h.placed x hx).2.2; omega)
 intro n hn
 unfold pmN at hn
 simp only [List.mem_append, List.mem_cons, List.not_mem_nil, or_false, List.mem_flatMap] at hn
 rcases hn with ((rfl | rfl | rfl | rfl) | ⟨x, hx, hn⟩) | (rfl | rfl)
 · unfold okN; omega
 · unfold okN; omega
 · unfold okN; omega
 · unfold okN; omega
 · exact okI_ok (part_okI hp (h.placed x hx)) n hn
 · unfold okN; omega
 · unfold okN revN; split <;> omega
theorem saveN_ok {S : Ac} (h : Good S) : ∀ n ∈ saveN S, okN n := by
 have h1 := h.day; have h2 := h.bp; have h3 := h.cr; have h4 := h.np; have h5 := h.nm
 intro n hn
 unfold saveN at hn
 simp only [List.mem_append, List.mem_cons, List.not_mem_nil, or_false, List.mem_flatMap] at hn
 rcases hn with (((rfl | rfl | rfl | rfl) | ⟨p, hp, hn⟩) | rfl) | ⟨m, hm, hn⟩
 · unfold okN; omega
 · unfold okN; omega
 · unfold okN; omega
 · unfold okN; omega
 · exact perN_ok (h.per p hp) n hn
 · unfold okN; omega
 · exact pmN_ok h.per (h.pm m hm) n hn
theorem flat_len_le {α β : Type} {f : α → List β} {k : Nat} : ∀ {l : List α}, (∀ x ∈ l, (f x).length ≤ k) → (l.flatMap f).length ≤ l.length * k
 | [], _ => by simp
 | x :: l, h => by
   have h1 := flat_len_le (l := l) fun y hy => h y (by simp [hy])
   have h2 := h x (by simp)
   rw [List.flatMap_cons, List.length_append, List.length_cons, Nat.succ_mul]; omega
theorem saveN_len {S : Ac} (h : Good S) : (saveN S).length ≤ 13000 := by
 have a := flat_len_le (f := perN) (k := 11) (l := S.ps) (fun p _ => by simp [perN])
 have b := flat_len_le (f := pmN) (k := 246) (l := S.ms) (fun m hm => by
  have := (h.pm m hm).len
  have c := flat_len_le (f := itN) (k := 4) (l := m.parts) (fun x _ => by simp [itN])
  unfold pmN
  simp only [List.length_append, List.length_cons, List.length_nil]
  omega)
 have h4 := h.np; have h5 := h.nm
 unfold saveN
 simp only [List.length_append, List.length_cons, List.length_nil]
 omega
theorem pre_ok {S : Ac} (h : Good S) {P : List Int} (hp : ∃ R, P ++ R = saveN S) : (∀ n ∈ P, okN n) ∧ (numsB P).length ≤ 130000 := by
 obtain ⟨R, hR⟩ := hp
 have h1 : ∀ n ∈ P, okN n := fun n hn => saveN_ok h n (by rw [← hR]; simp [hn])
 refine ⟨h1, ?_⟩
 have h2 := numsB_len h1
 have h3 := saveN_len h
 have h4 : P.length ≤ (saveN S).length := by rw [← hR, List.length_append]; omega
 omega
def hdrN (S : Ac) : List Int := [S.day, S.bp, S.cr, (S.ps.length : Int)]
def pre1 (S : Ac) (k : Nat) : List Int := hdrN S ++ (S.ps.take k).flatMap perN
def pre2 (S : Ac) (k : Nat) : List Int := hdrN S ++ S.ps.flatMap perN ++ [(S.ms.length : Int)] ++ (S.ms.take k).flatMap pmN
def pmH (m : Pm) : List Int := [m.id, m.day, m.amt, (m.parts.length : Int)]
def pre3 (S : Ac) (k : Nat) (m : Pm) (j : Nat) : List Int := pre2 S k ++ pmH m ++ (m.parts.take j).flatMap itN
theorem pre1_ok {S : Ac} (k : Nat) : ∃ R, pre1 S k ++ R = saveN S := by
 refine ⟨(S.ps.drop k).flatMap perN ++ ([(S.ms.length : Int)] ++ S.ms.flatMap pmN), ?_⟩
 unfold pre1 saveN hdrN
 have : S.ps.flatMap perN = (S.ps.take k).flatMap perN ++ (S.ps.drop k).flatMap perN := by rw [← List.flatMap_append, List.take_append_drop]
 rw [this]; simp only [List.append_assoc]
theorem pre2_ok {S : Ac} (k : Nat) : ∃ R, pre2 S k ++ R = saveN S := by
 refine ⟨(S.ms.drop k).flatMap pmN, ?_⟩
 unfold pre2 saveN hdrN
 have : S.ms.flatMap pmN = (S.ms.take k).flatMap pmN ++ (S.ms.drop k).flatMap pmN := by rw [← List.flatMap_append, List.take_append_drop]
 rw [this]; simp only [List.append_assoc]
theorem pmN_eq (m : Pm) : pmN m = pmH m ++ m.parts.flatMap itN ++ [m.rest, revN m.rev] := rfl
theorem pre2_next {S : Ac} {k : Nat} (h : k < S.ms.length) : pre2 S (k + 1) = pre2 S k ++ pmN S.ms[k] := by
 unfold pre2
 rw [List.take_succ_eq_append_getElem h, List.flatMap_append]; simp
theorem pre1_next {S : Ac} {k : Nat} (h : k < S.ps.length) : pre1 S (k + 1) = pre1 S k ++ perN S.ps[k] := by
 unfold pre1
 rw [List.take_succ_eq_append_getElem h, List.flatMap_append]; simp
theorem pre3_ok {S : Ac} {k : Nat} (h : k < S.ms.length) (j : Nat) : ∃ R, pre3 S k S.ms[k] j ++ R = saveN S := by
 obtain ⟨R, hR⟩ := pre2_ok (S := S) (k + 1)
 refine ⟨(S.ms[k].parts.drop j).flatMap itN ++ [S.ms[k].rest, revN S.ms[k].rev] ++ R, ?_⟩
 rw [← hR, pre2_next h, pmN_eq]
 unfold pre3
 have : S.ms[k].parts.flatMap itN = (S.ms[k].parts.take j).flatMap itN ++ (S.ms[k].parts.drop j).flatMap itN := by rw [← List.flatMap_append, List.take_append_drop]
 rw [this]; simp only [List.append_assoc]
theorem pre3_next {S : Ac} {k j : Nat} {m : Pm} (h : j < m.parts.length) : pre3 S k m (j + 1) = pre3 S k m j ++ itN m.parts[j] := by
 unfold pre3
 rw [List.take_succ_eq_append_getElem h, List.flatMap_append]; simp
theorem pre3_last {S : Ac} {k : Nat} (h : k < S.ms.length) : pre3 S k S.ms[k] S.ms[k].parts.length ++ [S.ms[k].rest, revN S.ms[k].rev] = pre2 S (k + 1) := by
 rw [pre2_next h, pmN_eq]
 unfold pre3
 rw [List.take_length]; simp only [List.append_assoc]
theorem pre1_last (S : Ac) : pre1 S S.ps.length ++ [(S.ms.length : Int)] = pre2 S 0 := by
 unfold pre1 pre2
 rw [List.take_length]; simp
theorem pre2_last (S : Ac) : pre2 S S.ms.length = saveN S := by
 unfold pre2 saveN hdrN
 rw [List.take_length]
section
open Go.RowKit Go
theorem settleU_puts {ps : List Per} {k : Nat} (h : k < ps.length) (o1 acc : Int) : [(k * 11 + 6, Value.int .i64 o1), (k * 11 + 10, .int .i64 acc)].foldl (fun a u => a.set u.1 u.2) (perCs ps) = perCs (ps.set k { ps[k] with o1 := o1, acc := acc }) := by
 simp only [List.foldl_cons, List.foldl_nil]
 rw [per_put h (by omega) (y := { ps[k] with o1 := o1 }) rfl]
 rw [per_put (by simpa using h) (by omega) (y := { ps[k] with o1 := o1, acc := acc }) (by simp [perC]), List.set_set]
structure AdvInv (w wr : World) (B gb : Nat) (S : Ac) (T : Int) (vp vq : Value) (qs : List PmE) (k : Nat) (s : Int) (ps : List Per) : Prop where
 eq : advK T S.bp S.ps k = (0, s, ps)
 own : OwnV wr B gb { S with day := T, ps := ps } vp vq qs
 len : ps.length = S.ps.length
 bel : Below B w wr
 m0 : wr.heap[w.heap.size]? = some (.cells #[.int .i64 0, .int .i64 0, .int .i64 0, .int .i64 0, .int .i64 0, .int .i64 0] 33 (0, 0))
 m1 : wr.heap[w.heap.size + 1]? = some (.cells #[.int .i64 0, .int .i64 s, .int .i64 0, .int .i64 0, .int .i64 0, .int .i64 0] 33 (0, 0))
theorem AdvInv.step {w wr w2 w3 : World} {B gb gp n cap k : Nat} {S : Ac} {T s o1 acc more s2 : Int} {vq : Value} {qs : List PmE} {ps : List Per} (h : AdvInv w wr B gb S T (.slice (some ⟨gp, 0, none⟩) n cap) vq qs k s ps) (hn : S.ps.length = n) (hk : k < ps.length) (hB : B ≤ w.heap.size) (hgp : B ≤ gp)
  (hs : settleS T S.bp ps[k] = (0, more, { ps[k] with o1 := o1, acc := acc })) (ha : addS s more = (s2, 0)) (hp : Puts wr gp [(k * 11 + 6, .int .i64 o1), (k * 11 + 10, .int .i64 acc)] w2) (hb : Below w2.heap.size w2 w3) :
  AdvInv w (w3.setCell ⟨w.heap.size + 1, 1, none⟩ (.int .i64 s2)) B gb S T (.slice (some ⟨gp, 0, none⟩) n cap) vq qs (k + 1) s2 (ps.set k { ps[k] with o1 := o1, acc := acc }) := by
 have hgd : ps.getD k Per.zero = ps[k] := by rw [List.getD_eq_getElem?_getD, List.getElem?_eq_getElem hk]; rfl
 have hov := h.own
 have hl := h.len
 obtain ⟨b1, cs1, hcs1⟩ := own_block_type hov.hp (b := gp) rfl
 have n0 : w.heap.size ≠ gp := ne_of_type' h.m0 hcs1 (by decide)
 have n1 : w.heap.size + 1 ≠ gp := ne_of_type' h.m1 hcs1 (by decide)
 have hv2 : OwnV w2 B gb { S with day := T, ps := ps.set k { ps[k] with o1 := o1, acc := acc } } (.slice (some ⟨gp, 0, none⟩) n cap) vq qs := by
  have e : (Value.slice (some ⟨gp, 0, none⟩) n cap) = .slice (some ⟨gp, 0, none⟩) ps.length cap := by rw [hl, hn]
  rw [e] at hov ⊢
  exact OwnV.puts (S := { S with day := T, ps := ps }) hov (by show 0 < ps.length; omega) hp (by simp) (settleU_puts hk o1 acc)
 have hz : wr.heap.size ≤ w2.heap.size := hp.size
 have m02 : w2.heap[w.heap.size]? = _ := (hp.far _ (blk_lt h.m0) n0).trans h.m0
 have m12 : w2.heap[w.heap.size + 1]? = _ := (hp.far _ (blk_lt h.m1) n1).trans h.m1
 have hv3 := hv2.below hb
 have m03 := blk_below m02 hb (blk_lt m02)
 have m13 := blk_below m12 hb (blk_lt m12)
 have hb3 : Below B w w3 := (h.bel.trans (hp.toBelow hgp (Nat.le_trans hB h.bel.size))).trans (hb.mono (Nat.le_trans (Nat.le_trans hB h.bel.size) hz))
 have p3 : Puts w3 (w.heap.size + 1) [(1, .int .i64 s2)] (w3.setCell ⟨w.heap.size + 1, 1, none⟩ (.int .i64 s2)) := (Puts.start (Below.refl _ _)).set 1 _
 refine ⟨?_, hv3.far p3 m13 (by decide) (by decide) (by decide) (by decide), by simpa using hl, hb3.setCell (p := ⟨w.heap.size + 1, 1, none⟩) (by show B ≤ w.heap.size + 1; omega) _, ?_, ?_⟩
 · rw [advK, h.eq, if_neg (by simp)]
   simp only [hgd, hs]
   rw [if_neg (by simp), ha, if_neg (by simp)]
 · exact (p3.far _ (blk_lt m03) (by omega)).trans m03
 · exact p3.near _ _ _ m13
theorem advance1_any (gb B gd : Nat) (S : Ac) (d : Int) (w : World) (h : OwnAt w B gb S) (hB : B ≤ w.heap.size) (hx : w.heap[gd]? = some (.cells #[.int .i64 d] 3 (0, 0))) (hG : Good S) (hd : 0 ≤ d ∧ d ≤ 36500) (hT : S.day + d ≤ 3652058) :
  Calls Tryz.prog 87 #[.pointer (some ⟨gb, 0, none⟩), .pointer (some ⟨gd, 0, none⟩)] w (StepOf w B gb (advance1 S d)) := by
 obtain ⟨vp, vq, qs, h⟩ := h
 have hBg := h.hB
 have hgl := blk_lt h.hg
 have hxl := blk_lt hx
 have hday := hG.day
 have hbp := hG.bp
 have hnp := hG.np
 have HG := hyd hG
 have hb0 : Below w.heap.size w ((w.alloc (.cells #[.int .i64 0, .int .i64 0, .int .i64 0, .int .i64 0, .int .i64 0, .int .i64 0] 33)).alloc (.cells #[.int .i64 0, .int .i64 0, .int .i64 0, .int .i64 0, .int .i64 0, .int .i64 0] 33)) := ((Below.refl _ _).alloc (Nat.le_refl _) _).alloc (by simp) _
 have hm0 := blk_alloc (blk_new w (.cells #[.int .i64 0, .int .i64 0, .int .i64 0, .int .i64 0, .int .i64 0, .int .i64 0] 33) rfl) (.cells #[.int .i64 0, .int .i64 0, .int .i64 0, .int .i64 0, .int .i64 0, .int .i64 0] 33)
 have hm1 := blk_new (w.alloc (.cells #[.int .i64 0, .int .i64 0, .int .i64 0, .int .i64 0, .int .i64 0, .int .i64 0] 33)) (.cells #[.int .i64 0, .int .i64 0, .int .i64 0, .int .i64 0, .int .i64 0, .int .i64 0] 33) rfl
 simp only [World.size_alloc] at hm1
 have hov0 := h.below hb0
 have hx0 := blk_below hx hb0 hxl
 have hwT0 : IntKind.i64.wrap (S.day + d) = S.day + d := IntWalk.i64_in _ (by omega)
 obtain ⟨T, hTe⟩ : ∃ T, S.day + d = T := ⟨_, rfl⟩
 have HTE := hyd hTe
 have hTb : S.day ≤ T ∧ 0 ≤ T ∧ T ≤ 3652058 := by omega
 have hwT : IntKind.i64.wrap (S.day + d) = T := hwT0.trans hTe
 clear hwT0
 have hne : gb ≠ gd := ne_of_type' h.hg hx (by decide)
 have hw0 : w.heap.size ≠ gb := by omega
 have hw1 : w.heap.size + 1 ≠ gb := by omega
 obtain ⟨n, hn⟩ : ∃ n, S.ps.length = n := ⟨_, rfl⟩
 have HN := hyd hn
 have hn20 : n ≤ 20 := by omega
 clear h hx hTe hG hT hn
 go_enter Tryz.func87, Tryz.ntmps87
 go_upto_region 2 with fail
 obtain ⟨X, hX⟩ : ∃ X, (w.alloc (.cells #[.int .i64 0, .int .i64 0, .int .i64 0, .int .i64 0, .int .i64 0, .int .i64 0] 33)).alloc (.cells #[.int .i64 0, .int .i64 0, .int .i64 0, .int .i64 0, .int .i64 0, .int .i64 0] 33) = X := ⟨_, rfl⟩
 rw [hX] at hb0 hm0 hm1 hov0 hx0 ⊢
 clear hX
 obtain ⟨a0, a1, a2, a3, a4, a5⟩ := cells5U hov0.hg
 have cx : X.cell? ⟨gd, 0, none⟩ = some (.int .i64 d) := (blk_cell hx0 0).trans rfl
 have hglX := blk_lt hov0.hg
 have HM0 := hyd hm0; have HM1 := hyd hm1; have HB0 := hyd hb0; have HV0 := hyd hov0
 clear hm0 hm1 hb0 hov0 hx0 a1 a2 a3 a4
 go_cut [] from 7 to 14 (fun wc => AdvInv w wc B gb S T vp vq qs 0 0 S.ps)
 case first =>
  go_region_with (fail)
  all_goals go_wp2_with fail
  all_goals go_meet
  all_goals (try rw [hwT])
  all_goals
   have p := (Puts.start (b := gb) (Below.refl X.heap.size X)).set 0 (.int .i64 T)
   exact ⟨rfl, ((HV0.out.setDay p).below (Below.refl _ _).drew), rfl, ((HB0.out.mono hB).setCell (p := ⟨gb, 0, none⟩) hBg _).drew, (p.far _ (blk_lt HM0.out) hw0).trans HM0.out, (p.far _ (blk_lt HM1.out) hw1).trans HM1.out⟩
 case rest =>
  have HI0 := hyd hcut
  obtain ⟨Ap, cp, ep, hcp, _⟩ := hcut.own.rdp
  have ep' : vp = .slice Ap n cp := by rw [ep]; exact congrArg (fun z => Value.slice Ap z cp) HN.out
  clear ep
  subst ep'
  obtain ⟨b0, b1, b2, b3, b4, b5⟩ := cells5U hcut.own.hg
  have hglc := blk_lt hcut.own.hg
  clear hcut a0 a5 cx HM0 HM1 HB0 HV0 hwT b0 b1 b2 b4 hcp hglX
  go_wp2_with fail
  clear b3 b5 hglc
  go_loopg [20] n (fun gh v20 wr => ∃ (k : Nat) (s : Int) (ps : List Per), gh = n - k ∧ k ≤ n ∧ v20 = .int .i64 k ∧ AdvInv w wr B gb S T (.slice Ap n cp) vq qs k s ps)
  case atStart => exact ⟨0, 0, S.ps, rfl, by omega, rfl, HI0.out⟩
  case round =>
   obtain ⟨k, s, ps, hgk, hk, rfl, hinv⟩ := hrel
   have HGH := hyd hgk; have HV := hyd hinv
   have hG := HG.out
   by_cases hlt : k < n
   · have hkl : k < ps.length := by rw [hinv.len, HN.out]; exact hlt
     have haok := advK_ok (T := T) (bp := S.bp) hG.per hTb.1 k (by rw [HN.out]; omega) (by rw [hinv.eq])
     rw [hinv.eq] at haok
     have hpk : ps[k] = S.ps[k]'(by rw [HN.out]; exact hlt) := by
      have := haok.1.rest k (Nat.le_refl _)
      rw [hinv.eq] at this
      rw [List.getElem?_eq_getElem hkl, List.getElem?_eq_getElem (by rw [HN.out]; exact hlt)] at this
      injection this
     have hpo := hG.per _ (List.getElem_mem (show k < S.ps.length by rw [HN.out]; exact hlt))
     rw [← hpk] at hpo
     have hib := interest_bd T S.bp ps[k]
     have hac := hpo.acc
     obtain ⟨gp, cap, ev, hgpl, hgpB, hper⟩ := hinv.own.per (i := k) hkl
     have ev' := ev
     injection ev with ev1 ev2 ev3
     subst ev1 ev3
     clear ev2
     have HS := hyd (fun wx (hb : Below wr.heap.size wr wx) => settle_any gb gp (k * 11) T S.bp (.int .i64 S.cr) (.slice (some ⟨gp, 0, none⟩) n cp) vq 83 ps[k] wx (blk_below hinv.own.hg hb (blk_lt hinv.own.hg)) (hper.below hb) hTb.2 hpo.since0 (by omega))
     obtain ⟨b0, b1, b2, b3, b4, b5⟩ := cells5U hinv.own.hg
     have hglr := blk_lt hinv.own.hg
     obtain ⟨x0, x1, x2, x3, x4, x5, x6⟩ := cells6U hinv.m1
     have hml := blk_lt hinv.m1
     have i1 : (0 : Int) ≤ (k : Int) := by omega
     have i2 : (k : Int) < (n : Int) := by omega
     obtain ⟨b1', cs1, hcs1⟩ := own_block_type hinv.own.hp (b := gp) rfl
     have n1 : w.heap.size + 1 ≠ gp := ne_of_type' hinv.m1 hcs1 (by decide)
     have hgdk : ps.getD k Per.zero = ps[k] := by rw [List.getD_eq_getElem?_getD, List.getElem?_eq_getElem hkl]; rfl
     have HEQ := hyd hinv.eq
     have HGD := hyd hgdk
     have HAE := hyd (fun (e : Int) (he : (advK T S.bp S.ps (k + 1)).1 = e) (h0 : e ≠ 0) => by
      have h1 := advK_err (T := T) (bp := S.bp) (ps := S.ps) (k := k + 1) (by rw [he]; exact h0) (n - (k + 1))
      have h2 : k + 1 + (n - (k + 1)) = S.ps.length := by rw [HN.out]; omega
      rw [h2, he] at h1
      exact (show advance1 S d = (S, Mv.zero, e) by unfold advance1; rw [HTE.out, h1, if_pos h0]))
     clear haok hpo hib hac hper hinv hgk ev' hG b0 b1 b2 b4 x0 x2 x3 x4 x5 hpk hcs1 hgdk
     by_cases h0 : (settleS T S.bp ps[k]).1 = 0
     · obtain ⟨_, _, hse, _⟩ := settle_some h0
       have hsi := settle_is T S.bp ps[k]
       obtain ⟨more, hmo⟩ : ∃ x, (settleS T S.bp ps[k]).2.1 = x := ⟨_, rfl⟩
       obtain ⟨o1, ho1⟩ : ∃ x, (settleS T S.bp ps[k]).2.2.o1 = x := ⟨_, rfl⟩
       obtain ⟨acc, hacc⟩ : ∃ x, (settleS T S.bp ps[k]).2.2.acc = x := ⟨_, rfl⟩
       have HSE : Hid (settleS T S.bp ps[k] = (0, more, { ps[k] with o1 := o1, acc := acc })) := hyd (by
        rw [ho1, hacc] at hsi
        exact Prod.ext h0 (Prod.ext hmo hsi))
       have HS2 := hyd (fun wx (hb : Below wr.heap.size wr wx) => (HS.out wx hb).mono (fun e w' hx => show e = .returned (.int .i64 more) ∧ Puts wx gp [(k * 11 + 6, .int .i64 o1), (k * 11 + 10, .int .i64 acc)] w' from by
        rcases hx with ⟨hne, _⟩ | ⟨_, he, hp⟩
        · exact absurd h0 hne
        · rw [hmo] at he; rw [ho1, hacc] at hp; exact ⟨he, hp⟩))
       clear hse hsi hmo ho1 hacc h0 HS
       obtain ⟨s2, er, hadd⟩ : ∃ s2 er, addS s more = (s2, er) := ⟨_, _, rfl⟩
       by_cases h1 : er = 0
       · subst h1
         have HA := hyd (fun wx => uadd_yes s more wx (by rw [hadd]))
         rw [hadd] at HA
         have HST := hyd (fun (w2 w3 : World) hp hb => AdvInv.step (w2 := w2) (w3 := w3) HV.out HN.out hkl hB hgpB HSE.out hadd hp hb)
         clear hadd
         generalize ps[k] = p at *
         go_wp2_with fail
         go_region_law (first
          | (refine step_call2R rfl 39 (.tmp 26) (.tmp 32) 27 88 rfl (.pointer (some ⟨gb, 0, none⟩)) (.pointer (some ⟨gp, k * 11, none⟩)) rfl (by first | rfl | simp) (settle_enter _ _) ?_
             refine (HS2.out _ (Below.refl _ _).drew).mono ?_; rintro e w2 ⟨rfl, hp2⟩; refine ⟨_, rfl, ?_⟩
             have HP2 : Hid (Puts wr gp [(k * 11 + 6, .int .i64 o1), (k * 11 + 10, .int .i64 acc)] w2) := hyd (hp2.after (Below.refl _ _).drew)
             have y1 : w2.cell? ⟨w.heap.size + 1, 1, none⟩ = some (.int .i64 s) := (blk_cell ((HP2.out.far _ (blk_lt HV.out.m1) n1).trans HV.out.m1) 1).trans rfl
             have yl : w.heap.size + 1 < w2.heap.size := Nat.lt_of_lt_of_le hml HP2.out.size
             clear hp2)
          | (refine step_call2R rfl 43 (.tmp 25) (.tmp 33) 2 2 rfl (.int .i64 s) (.int .i64 more) rfl rfl (add_enter _ _) ?_
             refine (HA.out _).mono ?_; rintro e w3 ⟨rfl, hw3⟩; refine ⟨_, rfl, ?_⟩
             have HFIN := hyd (HST.out w2 w3 HP2.out hw3)
             have zm := hw3.size
             have zl : w.heap.size + 1 < w3.heap.size := Nat.lt_of_lt_of_le yl zm
             have zc : w3.cell? ⟨w.heap.size + 1, 1, none⟩ = some (.int .i64 s) := (blk_cell (blk_below ((HP2.out.far _ (blk_lt HV.out.m1) n1).trans HV.out.m1) hw3 (blk_lt ((HP2.out.far _ (blk_lt HV.out.m1) n1).trans HV.out.m1))) 1).trans rfl
             have zf : w3.frozen? ⟨w.heap.size + 1, 1, none⟩ = false := blk_free (blk_below ((HP2.out.far _ (blk_lt HV.out.m1) n1).trans HV.out.m1) hw3 (blk_lt ((HP2.out.far _ (blk_lt HV.out.m1) n1).trans HV.out.m1))) 1
             clear hw3 zm))
         all_goals go_wp2_with fail
         all_goals go_roundg (n - (k + 1))
         case rel => exact ⟨k + 1, s2, _, rfl, by omega, by go_num, HFIN.out⟩
         all_goals first
          | exact ⟨k + 1, s2, _, rfl, by omega, by go_num, HFIN.out⟩
          | (have := HGH.out; omega)
       · have HA := hyd (fun wx => uadd_no s more wx (by rw [hadd]; exact h1))
         have HE1 := hyd (HAE.out 2 (by rw [advK, HEQ.out, if_neg (by simp)]; simp only [HGD.out, HSE.out]; rw [if_neg (by simp), if_pos (by rw [hadd]; exact h1)]) (by decide))
         clear hadd h1 HAE
         generalize ps[k] = p at *
         have HB1 := hyd (fun (w2 w3 : World) (hp : Puts wr gp [(k * 11 + 6, .int .i64 o1), (k * 11 + 10, .int .i64 acc)] w2) (hb : Below w2.heap.size w2 w3) => ((HV.out.bel.trans (hp.toBelow hgpB (Nat.le_trans hB HV.out.bel.size))).trans (hb.mono (Nat.le_trans (Nat.le_trans hB HV.out.bel.size) hp.size)) : Below B w w3))
         go_wp2_with fail
         go_region_law (first
          | (refine step_call2R rfl 39 (.tmp 26) (.tmp 32) 27 88 rfl (.pointer (some ⟨gb, 0, none⟩)) (.pointer (some ⟨gp, k * 11, none⟩)) rfl (by first | rfl | simp) (settle_enter _ _) ?_
             refine (HS2.out _ (Below.refl _ _).drew).mono ?_; rintro e w2 ⟨rfl, hp2⟩; refine ⟨_, rfl, ?_⟩
             have HP2 : Hid (Puts wr gp [(k * 11 + 6, .int .i64 o1), (k * 11 + 10, .int .i64 acc)] w2) := hyd (hp2.after (Below.refl _ _).drew)
             have y1 : w2.cell? ⟨w.heap.size + 1, 1, none⟩ = some (.int .i64 s) := (blk_cell ((HP2.out.far _ (blk_lt HV.out.m1) n1).trans HV.out.m1) 1).trans rfl
             have yl : w.heap.size + 1 < w2.heap.size := Nat.lt_of_lt_of_le hml HP2.out.size
             clear hp2)
          | (refine step_call2P rfl 43 (.tmp 25) (.tmp 33) 2 2 rfl (.int .i64 s) (.int .i64 more) rfl rfl (add_enter _ _) ((HA.out _).mono ?_) ?_
             · rintro e w3 ⟨rfl, hw3⟩; exact ⟨_, rfl, rfl, HB1.out w2 w3 HP2.out hw3, by rw [HE1.out]; exact .inr ⟨(by decide : (2 : Int) ≠ 0), .inr rfl⟩⟩))
         all_goals trivial
     · obtain ⟨ec, hec⟩ : ∃ ec, (settleS T S.bp ps[k]).1 = ec := ⟨_, rfl⟩
       rw [hec] at h0
       have HE1 := hyd (HAE.out ec (by rw [advK, HEQ.out, if_neg (by simp)]; simp only [HGD.out]; rw [hec, if_pos h0]) h0)
       have HS2 := hyd (fun wx (hb : Below wr.heap.size wr wx) => (HS.out wx hb).mono (fun e w' hx => show e = pan ec ∧ Below wx.heap.size wx w' from by
        rcases hx with ⟨_, he, hp⟩ | ⟨he0, _⟩
        · rw [hec] at he; exact ⟨he, hp⟩
        · exact absurd (hec.symm.trans he0) h0))
       have H0 := hyd h0
       have HB1 := hyd (fun (w2 : World) (hb : Below wr.drew.heap.size wr.drew w2) => (HV.out.bel.trans ((Below.refl _ _).drew.trans (hb.mono (Nat.le_trans hB HV.out.bel.size))) : Below B w w2))
       clear h0 hec HS HAE
       generalize ps[k] = p at *
       go_wp2_with fail
       go_region_law (refine step_call2P rfl 39 (.tmp 26) (.tmp 32) 27 88 rfl (.pointer (some ⟨gb, 0, none⟩)) (.pointer (some ⟨gp, k * 11, none⟩)) rfl (by first | rfl | simp) (settle_enter _ _) ((HS2.out _ (Below.refl _ _).drew).mono ?_) ?_
                      · rintro e w2 ⟨rfl, hw2⟩; exact ⟨_, rfl, rfl, HB1.out w2 hw2, by rw [HE1.out]; exact .inr ⟨H0.out, .inr rfl⟩⟩)
       all_goals trivial
   · have hkn : k = n := by omega
     subst hkn
     have heq := hinv.eq
     have HO : Hid (advance1 S d = ({ S with day := T, ps := ps }, ⟨0, s, 0, 0, 0, 0⟩, 0)) := hyd (by
      unfold advance1; rw [HTE.out, HN.out, heq, if_neg (by simp)])
     obtain ⟨x0, x1, x2, x3, x4, x5, x6⟩ := cells6U hinv.m1
     have hml := blk_lt hinv.m1
     obtain ⟨z0, z1, z2, z3, z4, z5, z6⟩ := cells6U hinv.m0
     have hzl := blk_lt hinv.m0
     obtain ⟨e1, e2⟩ := step_last0 { S with day := T, ps := ps } ⟨0, s, 0, 0, 0, 0⟩ hinv.bel ⟨_, _, _, hinv.own⟩ hinv.m0 hB
     have E1 := hyd e1; have E2 := hyd e2
     clear e1 e2 heq hinv hgk
     go_wp2_with fail
     rw [HO.out]
     exact mv_ret ⟨0, s, 0, 0, 0, 0⟩ 0 w.heap.size rfl rfl rfl E1.out E2.out
end
section
open Go.RowKit Go
theorem uadvance_any (g B : Nat) (S : Ac) (d : Int) (w : World) (h : OwnAt w B g S) (hG : Good S) :
  Calls Tryz.prog 33 #[.pointer (some ⟨g, 0, none⟩), .int .i64 d] w (DoesOf w g S (advanceS S d)) := by
 have hgl := h.lt
 have HV := hyd h
 have hb0 : Below w.heap.size w ((w.alloc (.cells #[.int .i64 d] 3)).alloc (.cells #[.int .i64 0, .int .i64 0, .int .i64 0, .int .i64 0, .int .i64 0, .int .i64 0] 33)) := ((Below.refl _ _).alloc (Nat.le_refl _) _).alloc (by simp) _
 have hx0 := blk_alloc (blk_new w (.cells #[.int .i64 d] 3) rfl) (.cells #[.int .i64 0, .int .i64 0, .int .i64 0, .int .i64 0, .int .i64 0, .int .i64 0] 33)
 have hm0 := blk_new (w.alloc (.cells #[.int .i64 d] 3)) (.cells #[.int .i64 0, .int .i64 0, .int .i64 0, .int .i64 0, .int .i64 0, .int .i64 0] 33) rfl
 simp only [World.size_alloc] at hm0
 have HG := hyd hG
 obtain ⟨vp, vq, hcell⟩ := h.cell
 have hcell0 := blk_below hcell hb0 hgl
 have hov0 := h.below hb0
 have hday := hG.day
 have n1 : w.heap.size + 1 ≠ g := by omega
 have hmf : ∀ (fn : Fn) (first cap : Array Value) (w : World), (Instr.makeFunc fn first cap).run Tryz.prog w = .ok (.func fn first cap) w := fun _ _ _ _ => rfl
 go_enter Tryz.func33, Tryz.ntmps33
 go_upto_region 1 with fail
 obtain ⟨X, hX⟩ : ∃ X, (w.alloc (.cells #[.int .i64 d] 3)).alloc (.cells #[.int .i64 0, .int .i64 0, .int .i64 0, .int .i64 0, .int .i64 0, .int .i64 0] 33) = X := ⟨_, rfl⟩
 rw [hX] at hb0 hx0 hm0 hcell0 hov0 ⊢
 clear hX hcell h
 obtain ⟨a0, a1, a2, a3, a4, a5⟩ := cells5U hcell0
 have cx : X.cell? ⟨w.heap.size, 0, none⟩ = some (.int .i64 d) := (blk_cell hx0 0).trans rfl
 have HX0 := hyd hx0; have HM0 := hyd hm0; have HB0 := hyd hb0; have HOV0 := hyd hov0
 have hgX := blk_lt hcell0
 have hxX := blk_lt hx0
 clear hx0 hm0 hb0 hov0 a1 a2 a3 a4 a5 hcell0
 by_cases h1 : 0 ≤ d ∧ d ≤ 36500
 · have HY := hyd (fun wx => (uwithin_yes d 0 36500 wx h1).mono fun e w' (hh : e = .returned (.bool true) ∧ wx = w') => (⟨hh.1, hh.2.symm⟩ : e = .returned (.bool true) ∧ w' = wx))
   have hwr : IntKind.i64.wrap (S.day + d) = S.day + d := IntWalk.i64_in _ (by omega)
   by_cases h2 : 3652058 < S.day + d
   · have HO : Hid (advanceS S d = (S, Mv.zero, 1)) := hyd (by unfold advanceS; rw [if_neg (by simpa using h1), if_pos h2])
     have hd2 : decide (S.day + d > 3652058) = true := by simpa using h2
     have HE := hyd (fun (wx : World) (hb : Below X.heap.size X wx) => err_end (S' := S) (m := Mv.zero) (HB0.out.trans (hb.mono HB0.out.size)) HV.out (show (1 : Int) ≠ 0 by decide) (blk_below HM0.out hb (blk_lt HM0.out)) (by omega))
     clear h1 h2 hG hday
     go_quiet ((go_at_call 34; exact Calls.quiet_of_same (HY.out _)))
     have hbq : Below X.heap.size X (X.drewN nq) := below_drewN (Below.refl _ _) _
     have HE2 := hyd (HE.out _ hbq)
     obtain ⟨m0, m1, m2, m3, m4, m5, m6⟩ := cells6U (blk_below HM0.out hbq (blk_lt HM0.out))
     have hml : w.heap.size + 1 < (X.drewN nq).heap.size := blk_lt (blk_below HM0.out hbq (blk_lt HM0.out))
     clear hbq a0 cx hwr hd2
     go_wp2_with fail
     rw [HO.out]
     exact mv_ret Mv.zero 1 (w.heap.size + 1) rfl rfl rfl HE2.out.1 HE2.out.2
   · have HO : Hid (advanceS S d = advance1 S d) := hyd (by unfold advanceS; rw [if_neg (by simpa using h1), if_neg h2])
     have hd2 : decide (S.day + d > 3652058) = false := by simpa using h2
     have H1 := hyd h1
     have H2 : Hid (S.day + d ≤ 3652058) := hyd (by omega)
     have HD := hyd (fun (wx : World) (hb : Below X.heap.size X wx) => does1_any 87 (.pointer (some ⟨w.heap.size, 0, none⟩)) g B S (advance1 S d) wx (HOV0.out.below hb) HG.out.small (fun u wx => by kernel_rfl)
       (fun gb wy hby hBy ho => advance1_any gb _ w.heap.size S d wy ho hBy (blk_below (blk_below HX0.out hb (blk_lt HX0.out)) hby (blk_lt (blk_below HX0.out hb (blk_lt HX0.out)))) HG.out H1.out H2.out))
     clear h1 h2 hG hday
     go_quiet ((go_at_call 34; exact Calls.quiet_of_same (HY.out _)))
     have hbq : Below X.heap.size X (X.drewN nq) := below_drewN (Below.refl _ _) _
     have HD1 := hyd (HD.out _ hbq)
     have HMQ := hyd (blk_below HM0.out hbq (blk_lt HM0.out))
     have HBQ := hyd (HB0.out.trans (hbq.mono HB0.out.size))
     clear hbq a0 cx hwr hd2 HD
     go_wp2_with fail
     refine HD1.out.mono ?_; intro e w2 hd2
     obtain ⟨m, er, rfl⟩ := hd2.form
     have hm := move_keeps hd2 HMQ.out n1
     obtain ⟨m0, m1, m2, m3, m4, m5, m6⟩ := cells6U hm
     have HE := hyd (DoesOf.wrap HBQ.out hd2 hm (by omega)); have HM := hyd (put6_at hm m)
     clear hd2 hm HD1
     go_wp2_with fail
     rw [HO.out]
     exact mv_ret m er (w.heap.size + 1) rfl rfl rfl HM.out HE.out
 · have HY := hyd (fun wx => (uwithin_no d 0 36500 wx h1).mono fun e w' (hh : e = .returned (.bool false) ∧ wx = w') => (⟨hh.1, hh.2.symm⟩ : e = .returned (.bool false) ∧ w' = wx))
   have HO : Hid (advanceS S d = (S, Mv.zero, 1)) := hyd (by unfold advanceS; rw [if_pos (by simpa using h1)])
   have HE := hyd (fun (wx : World) (hb : Below X.heap.size X wx) => err_end (S' := S) (m := Mv.zero) (HB0.out.trans (hb.mono HB0.out.size)) HV.out (show (1 : Int) ≠ 0 by decide) (blk_below HM0.out hb (blk_lt HM0.out)) (by omega))
   clear h1 hG hday
   go_quiet ((go_at_call 34; exact Calls.quiet_of_same (HY.out _)))
   have hbq : Below X.heap.size X (X.drewN nq) := below_drewN (Below.refl _ _) _
   have HE2 := hyd (HE.out _ hbq)
   obtain ⟨m0, m1, m2, m3, m4, m5, m6⟩ := cells6U (blk_below HM0.out hbq (blk_lt HM0.out))
   have hml : w.heap.size + 1 < (X.drewN nq).heap.size := blk_lt (blk_below HM0.out hbq (blk_lt HM0.out))
   clear hbq a0 cx
   go_wp2_with fail
   rw [HO.out]
   exact mv_ret Mv.zero 1 (w.heap.size + 1) rfl rfl rfl HE2.out.1 HE2.out.2
end
def walkO : Int → List Dq → List Dq
 | _, [] => []
 | left, x :: l => if x.opn - min left x.opn = 0 then walkO (left - min left x.opn) l else { x with opn := x.opn - min left x.opn } :: walkO (left - min left x.opn) l
def restOf (its : List Dq) (a : Int) (x : Dq) : Dq := ⟨x.due, x.kind, x.per, x.opn - paidI its a x⟩
theorem key_rest (its : List Dq) (a : Int) (x : Dq) : keyI (restOf its a x) = keyI x := rfl
theorem ord_rest {its : List Dq} {a : Int} (h : placesE its = 0) (h2 : placesE (restI its a) = 0) : ordS (restI its a) = (ordS its).map (restOf its a) := by
 have ho := ordS_is h
 refine (IsOrd.same ⟨?_, ?_⟩ (ordS_is h2)).symm
 · exact ho.1.map (restOf its a)
 · exact List.pairwise_map.2 (ho.2.imp fun h => by rw [key_rest, key_rest]; exact h)
theorem rise_ahd {pre l : List Dq} {x : Dq} (h : (pre ++ x :: l).Pairwise fun a b => keyI a < keyI b) : ahd (pre ++ x :: l) (keyI x) = opens pre := by
 obtain ⟨_, h2, h3⟩ := List.pairwise_append.1 h
 have h4 := (List.pairwise_cons.1 h2).1
 unfold ahd
 rw [List.filter_append, List.filter_cons, if_neg (by simp), opens_app]
 have e1 : pre.filter (fun y => decide (keyI y < keyI x)) = pre := List.filter_eq_self.2 fun y hy => by simpa using h3 y hy x (by simp)
 have e2 : l.filter (fun y => decide (keyI y < keyI x)) = [] := List.filter_eq_nil_iff.2 fun y hy => by have := h4 y hy; simp; omega
 rw [e1, e2]; simp [opens]
theorem live_cons0 {x : Dq} {l : List Dq} (h : x.opn = 0) : live (x :: l) = live l := by unfold live; rw [List.filter_cons, if_neg (by simp [nil0, h])]
theorem live_cons1 {x : Dq} {l : List Dq} (h : x.opn ≠ 0) : live (x :: l) = x :: live l := by unfold live; rw [List.filter_cons, if_pos (by simp [nil0, h])]
theorem walk_is {a : Int} {s : List Dq} (hs : s.Pairwise fun a b => keyI a < keyI b) (hn : ∀ x ∈ s, 0 ≤ x.opn) : ∀ (l pre : List Dq), s = pre ++ l → live (l.map (restOf s a)) = walkO (max 0 (a - opens pre)) (live l)
 | [], pre, _ => by simp [live, walkO]
 | x :: l, pre, e => by
   have ih := walk_is (a := a) hs hn l (pre ++ [x]) (by rw [e]; simp)
   have hx : 0 ≤ x.opn := hn x (by rw [e]; simp)
   have ha : ahd s (keyI x) = opens pre := by rw [e]; exact rise_ahd (by rw [← e]; exact hs)
   have hp : paidI s a x = min (max 0 (a - opens pre)) x.opn := by unfold paidI clampP; rw [ha]; omega
   have eo : opens (pre ++ [x]) = opens pre + x.opn := by rw [opens_app]; simp [opens]
   rw [eo] at ih
   have ep : opens pre = opens pre := rfl
   rw [List.map_cons]
   by_cases h0 : x.opn = 0
   · have h1 : (restOf s a x).opn = 0 := by show x.opn - paidI s a x = 0; rw [hp]; omega
     rw [live_cons0 h1, live_cons0 h0, ih, h0, Int.add_zero]
   · rw [live_cons1 h0, walkO]
     have em : max 0 (a - opens pre) - min (max 0 (a - opens pre)) x.opn = max 0 (a - (opens pre + x.opn)) := by omega
     rw [em]
     by_cases h1 : x.opn - min (max 0 (a - opens pre)) x.opn = 0
     · rw [if_pos h1, live_cons0 (by show x.opn - paidI s a x = 0; rw [hp]; exact h1), ih]
     · rw [if_neg h1, live_cons1 (by show x.opn - paidI s a x ≠ 0; rw [hp]; exact h1), ih]
       congr 1
       unfold restOf; rw [hp]
theorem order_pays {S : Ac} (h : Good S) {id a : Int} (ha : 1 ≤ a) (he : (payS S id a).2.2 = 0) : openS (payS S id a).1.ps = walkO a (openS S.ps) := by
 unfold payS at he ⊢
 by_cases h0 : ¬ ((1 ≤ id ∧ id ≤ 1099511627776) ∧ 1 ≤ a ∧ a ≤ 1125899906842624)
 · rw [if_pos h0] at he; simp at he
 · rw [if_neg h0] at he ⊢
   by_cases h1 : 0 ≤ S.pay id
   · rw [if_pos h1] at he; simp at he
   · rw [if_neg h1] at he ⊢
     by_cases h2 : 50 ≤ S.ms.length
     · rw [if_pos h2] at he; simp at he
     · rw [if_neg h2] at he ⊢
       obtain ⟨ps, e, hi, hr, hp, hri⟩ := h.paid (a := a) (by omega)
       unfold pay1 at he ⊢
       rw [e] at he ⊢
       simp only at he ⊢
       by_cases h3 : (addS S.cr (leftI (itemsOf S.ps) a)).2 = 0
       · rw [if_pos h3]
         show openS ps = _
         have hpl := items_ok hri hp (by rw [ret_len hr]; have := h.np; omega)
         rw [hi] at hpl
         have ho := ordS_is h.places
         have hs := ho.places h.places
         unfold openS
         rw [hi, ord_rest h.places hpl]
         have e2 : (ordS (itemsOf S.ps)).map (restOf (itemsOf S.ps) a) = (ordS (itemsOf S.ps)).map (restOf (ordS (itemsOf S.ps)) a) := List.map_congr_left fun x _ => by unfold restOf; rw [paidI_perm ho.1]
         rw [e2]
         have := walk_is (a := a) ho.2 (fun x hx => by have := okI_yes (List.all_eq_true.1 (placesE_ok hs).2.1 x hx); omega) (ordS (itemsOf S.ps)) [] rfl
         rw [this]
         congr 1
         simp [opens]; omega
       · rw [if_neg h3] at he; simp at he
def flatS : Sch := ⟨[⟨0, 1000⟩], 0, 0, 500, 5, 10⟩
def wakeR : Ret := ⟨1, 100, 0, 1000000, 0⟩
theorem flat_ok : OkS flatS := by
 refine ⟨by decide, by decide, by decide, rfl, fun i hi => ?_, by decide, by decide, ?_⟩
 · have : i = 0 := by have : i < 1 := hi; omega
   subst this
   exact ⟨by decide, by decide, fun h => by omega⟩
 · decide
theorem flat_up : up_ flatS.bs 1000000 1 = 1000000000 := by
 simp [up_, piece, lft, fr, bpA, flatS]
 decide
theorem wake_bill : billS flatS (wakeR.onDay 100) = (⟨100000, 100000, 0, 0⟩, 0) := by
 rw [billS_yes flat_ok (by decide)]
 have ht : taxV flatS 1000000 = 100000 := by
  unfold taxV partS
  have : max ((1000000 : Int) - flatS.ded) 0 = 1000000 := by decide
  rw [this]
  have e : flatS.bs.length = 1 := rfl
  rw [e, flat_up]; decide
 have hl : lateI (wakeR.onDay 100) = 0 := late_none (by decide)
 have hp : prinV flatS (wakeR.onDay 100) = 100000 := by unfold prinV; show max (taxV flatS 1000000 - 0) 0 = _; rw [ht]; decide
 unfold billV
 rw [hl, hp]
 show ((⟨taxV flatS 1000000, 100000, penV flatS 100000 0, max (0 - taxV flatS 1000000) 0⟩ : Bl), (0 : Int)) = _
 rw [ht]
 rfl
theorem simple_is {p bp d : Int} (hp : 0 ≤ p ∧ p ≤ 4611686018427387904) (hb : 0 ≤ bp ∧ bp ≤ 100000) (hd : 0 ≤ d ∧ d ≤ 3652058) {x : Int} (h : p * (bp * d) / 3650000 = x) (hx : 0 ≤ x ∧ x ≤ 4611686018427387904) : simpleS p bp d = (x, 0) := by
 have h1 : okP p = true := by simpa [okP] using hp
 have h2 : okR bp = true := by simpa [okR] using hb
 have h3 : okD d = true := by simpa [okD] using hd
 rw [simpleS, h1, h2, h3, h]
 exact told_yes (by simp [amt]; omega)
def wakeP0 : Per := ⟨wakeR.onDay 100, 0, 0, 100000, 100, 0, 0⟩
def wakeP1 : Per := ⟨wakeR.onDay 100, 0, 1000, 100000, 100, 0, 1000⟩
theorem add_is {a b x : Int} (h : a + b = x) (ha : -4611686018427387904 ≤ a ∧ a ≤ 4611686018427387904) (hb : -4611686018427387904 ≤ b ∧ b ≤ 4611686018427387904) (hx : -4611686018427387904 ≤ x ∧ x ≤ 4611686018427387904) : addS a b = (x, 0) := by
 rw [add_yes (by simp [amt]; omega) (by omega), h]
theorem wake_settle0 : settleS 100 365 wakeP0 = (0, 0, wakeP0) := by
 have hi : interestS 100 365 wakeP0 = (0, 0) := by
  unfold interestS wakeP0
  rw [if_neg (by decide)]
  simp only [Int.sub_self]
  have hs : simpleS 100000 365 0 = (0, 0) := simple_is (by decide) (by decide) (by decide) (x := 0) (by decide) (by decide)
  have ha : addS 0 0 = (0, 0) := add_is (by decide) (by decide) (by decide) (by decide)
  rw [hs]
  exact ha
 unfold settleS
 rw [hi]
 have ha : addS wakeP0.o1 ((0 : Int) - wakeP0.acc) = (0, 0) := add_is (by decide) (by decide) (by decide) (by decide)
 simp only [ha]
 simp [wakeP0]
theorem wake_settle1 : settleS 200 365 wakeP0 = (0, 1000, wakeP1) := by
 have hi : interestS 200 365 wakeP0 = (1000, 0) := by
  unfold interestS wakeP0
  rw [if_neg (by decide)]
  have hs : simpleS 100000 365 (200 - 100) = (1000, 0) := simple_is (by decide) (by decide) (by decide) (by decide) (by decide)
  have ha : addS 0 1000 = (1000, 0) := add_is (by decide) (by decide) (by decide) (by decide)
  simp only [hs]
  exact ha
 unfold settleS
 rw [hi]
 have ha : addS wakeP0.o1 ((1000 : Int) - wakeP0.acc) = (1000, 0) := add_is (by decide) (by decide) (by decide) (by decide)
 simp only [ha]
 simp [wakeP0, wakeP1]
def wakeA0 : Ac := Ac.new 100 365
def wakeA1 : Ac := ⟨100, 365, 0, [wakeP0], []⟩
def wakeA2 : Ac := ⟨200, 365, 0, [wakeP1], []⟩
theorem wake_file : fileS wakeA0 flatS wakeR = (wakeA1, ⟨0, 0, 100000, 0, 0, 0⟩, 0) := by
 unfold fileS
 have hd : wakeA0.day = 100 := rfl
 rw [hd, wake_bill]
 rw [if_neg (by decide), if_neg (by simp [Ac.place, wakeA0, Ac.new, idxI]), if_neg (by simp [wakeA0, Ac.new])]
 unfold file1
 have e : newPer (wakeR.onDay 100) ⟨100000, 100000, 0, 0⟩ = wakeP0 := rfl
 have hb : wakeA0.bp = 365 := rfl
 rw [hd, hb]
 simp only [e, wake_settle0]
 have ha : addS wakeA0.cr 0 = (0, 0) := add_is (by decide) (by decide) (by decide) (by decide)
 simp only [ha]
 rfl
theorem wake_adv : advanceS wakeA1 100 = (wakeA2, ⟨0, 1000, 0, 0, 0, 0⟩, 0) := by
 unfold advanceS
 rw [if_neg (by decide), if_neg (by decide)]
 unfold advance1
 have e : advK (wakeA1.day + 100) wakeA1.bp wakeA1.ps wakeA1.ps.length = (0, 1000, [wakeP1]) := by
  show advK (100 + 100) 365 [wakeP0] 1 = _
  have h0 : advK (100 + 100) 365 [wakeP0] 0 = (0, 0, [wakeP0]) := rfl
  rw [advK, h0]
  have hg : ([wakeP0] : List Per).getD 0 Per.zero = wakeP0 := rfl
  simp only [hg]
  have hs : settleS (100 + 100) 365 wakeP0 = (0, 1000, wakeP1) := wake_settle1
  simp only [hs]
  have ha : addS 0 1000 = (1000, 0) := add_is (by decide) (by decide) (by decide) (by decide)
  simp only [ha]
  rfl
 rw [e]
 rfl
theorem wake_good : Good wakeA1 ∧ Good wakeA2 := by
 have h0 : Good wakeA0 := Good.new (by decide) (by decide)
 have h1 := h0.file flatS wakeR
 rw [wake_file] at h1
 have h2 := h1.advance 100
 rw [show (wakeA1, (⟨0, 0, 100000, 0, 0, 0⟩ : Mv), (0 : Int)).1 = wakeA1 from rfl, wake_adv] at h2
 exact ⟨h1, h2⟩
theorem wake_open : openS wakeA2.ps = [⟨100, 1, 1, 1000⟩, ⟨100, 2, 1, 100000⟩] := by
 have h := (wake_good.2).places
 have e : itemsOf wakeA2.ps = [⟨100, 0, 1, 0⟩, ⟨100, 1, 1, 1000⟩, ⟨100, 2, 1, 100000⟩] := rfl
 have ho : IsOrd (itemsOf wakeA2.ps) (itemsOf wakeA2.ps) := ⟨List.Perm.refl _, by rw [e]; simp [keyI]⟩
 unfold openS
 rw [← ho.eq h, e]
 simp [live, nil0]
theorem wake_pay : (payS wakeA2 1 1500).2.2 = 0 ∧ (payS wakeA2 1 1500).2.1.paid = 1500 ∧ openS (payS wakeA2 1 1500).1.ps = [⟨100, 2, 1, 99500⟩] := by
 have hG := wake_good.2
 have he : (payS wakeA2 1 1500).2.2 = 0 ∧ (payS wakeA2 1 1500).2.1.paid = 1500 := by
  obtain ⟨ps, e1, e2⟩ := pay_ok (id := 1) (a := 1500) hG (by decide) (by decide) (by decide) (fun m hm => by simp [wakeA2] at hm) (by decide)
  rw [e1]
  refine ⟨rfl, ?_⟩
  show 1500 - leftI (itemsOf wakeA2.ps) 1500 = 1500
  have e : leftI (itemsOf wakeA2.ps) 1500 = 0 := by
   unfold leftI
   have : opens (itemsOf wakeA2.ps) = 101000 := by decide
   rw [this]; decide
  rw [e]; rfl
 refine ⟨he.1, he.2, ?_⟩
 rw [order_pays hG (by decide) he.1, wake_open]
 have e1 : min (1500 : Int) 1000 = 1000 := by decide
 have e2 : min (500 : Int) 100000 = 500 := by decide
 simp [walkO, e1, e2]
end Go.Proofs.YtbjjgnaojoaoiaaGreat
