/- What is saved of an account, in plain words. -/
import Derived.Test.YtbjjgnaojoaoiaaGreatK54
import Derived.Test.YtbjjgnaojoaoiaaGreatK36
namespace Go.Proofs.YtbjjgnaojoaoiaaGreat
set_option linter.unusedVariables false
set_option linter.unusedSimpArgs false

/-- What is saved of a period, of an item, of a payment, of an account. -/
def perN (p : Per) : List Int := [p.ret.per, p.ret.due, p.ret.filed, p.ret.inc, p.ret.wh, p.o0, p.o1, p.o2, p.since, p.done, p.acc]
def itN (x : Dq) : List Int := [x.due, x.kind, x.per, x.opn]
def revN (b : Bool) : Int := if b then 1 else 0
def pmN (m : Pm) : List Int := [m.id, m.day, m.amt, (m.parts.length : Int)] ++ m.parts.flatMap itN ++ [m.rest, revN m.rev]
def saveN (S : Ac) : List Int := [S.day, S.bp, S.cr, (S.ps.length : Int)] ++ S.ps.flatMap perN ++ [(S.ms.length : Int)] ++ S.ms.flatMap pmN
def saveB (S : Ac) : List Nat := numsB (saveN S)
theorem okN_of {n m : Int} (h : 0 ≤ n ∧ n ≤ m) (hm : m < 18446744073709551616) : okN n := ⟨h.1, by omega⟩
theorem perN_ok {day bp : Int} {p : Per} (h : PerOk day bp p) : ∀ n ∈ perN p, okN n := by
  obtain ⟨r1, r2, r3, r4, r5⟩ := retB_yes h.ret
  have d1 := dayB_yes r2
  have d2 := dayB_yes r3
  have d4 := mny_yes r4
  have d5 := mny_yes r5
  have d3 := h.since0; have b0 := h.b0; have b1 := h.b1; have b2 := h.b2; have b3 := h.done; have b4 := h.acc
  intro n hn
  simp only [perN, List.mem_cons, List.not_mem_nil, or_false] at hn
  unfold okN
  rcases hn with rfl | rfl | rfl | rfl | rfl | rfl | rfl | rfl | rfl | rfl | rfl <;> omega
theorem okI_ok {x : Dq} (h : okI x = true) : ∀ n ∈ itN x, okN n := by
  have := okI_yes h
  intro n hn
  simp only [itN, List.mem_cons, List.not_mem_nil, or_false] at hn
  unfold okN
  rcases hn with rfl | rfl | rfl | rfl <;> omega
theorem part_okI {day bp : Int} {ps : List Per} {x : Dq} (hp : ∀ p ∈ ps, PerOk day bp p) (h : Placed ps x ∧ (∃ p ∈ ps, p.ret.per = x.per ∧ p.ret.due = x.due) ∧ 1 ≤ x.opn ∧ x.opn ≤ 4611686018427387904) : okI x = true := by
  obtain ⟨⟨_, hk⟩, ⟨p, hpp, e1, e2⟩, h3, h4⟩ := h
  have h5 := hp p hpp
  have h6 := h5.due
  have h7 := (retB_yes h5.ret).1
  unfold okI
  have : 0 ≤ x.due ∧ x.due ≤ 3652058 ∧ 0 ≤ x.kind ∧ x.kind ≤ 2 ∧ 1 ≤ x.per ∧ x.per ≤ 99999 ∧ 0 ≤ x.opn ∧ x.opn ≤ 4611686018427387904 := by
    refine ⟨by omega, by omega, ?_, ?_, by omega, by omega, by omega, h4⟩ <;> rcases hk with e | e | e <;> omega
  simpa using this
theorem pmN_ok {day bp : Int} {ps : List Per} {m : Pm} (hp : ∀ p ∈ ps, PerOk day bp p) (h : PmOk ps m) : ∀ n ∈ pmN m, okN n := by
  have h1 := h.id; have h2 := h.day; have h3 := h.amt; have h4 := h.len; have h5 := h.rest; have h6 := h.sum
  have h7 := opens_nn (l := m.parts) (fun x hx => by have := (h.placed x hx).2.2; omega)
  intro n hn
  unfold pmN at hn
  simp only [List.mem_append, List.mem_cons, List.not_mem_nil, or_false, List.mem_flatMap] at hn
  rcases hn with ((rfl | rfl | rfl | rfl) | ⟨x, hx, hn⟩) | (rfl | rfl)
  · unfold okN; omega
  · unfold okN; omega
  · unfold okN; omega
  · unfold okN; omega
  · exact okI_ok (part_okI hp (h.placed x hx)) n hn
  · unfold okN; omega
  · unfold okN revN; split <;> omega
theorem saveN_ok {S : Ac} (h : Good S) : ∀ n ∈ saveN S, okN n := by
  have h1 := h.day; have h2 := h.bp; have h3 := h.cr; have h4 := h.np; have h5 := h.nm
  intro n hn
  unfold saveN at hn
  simp only [List.mem_append, List.mem_cons, List.not_mem_nil, or_false, List.mem_flatMap] at hn
  rcases hn with (((rfl | rfl | rfl | rfl) | ⟨p, hp, hn⟩) | rfl) | ⟨m, hm, hn⟩
  · unfold okN; omega
  · unfold okN; omega
  · unfold okN; omega
  · unfold okN; omega
  · exact perN_ok (h.per p hp) n hn
  · unfold okN; omega
  · exact pmN_ok h.per (h.pm m hm) n hn
theorem flat_len_le {α β : Type} {f : α → List β} {k : Nat} : ∀ {l : List α}, (∀ x ∈ l, (f x).length ≤ k) → (l.flatMap f).length ≤ l.length * k
  | [], _ => by simp
  | x :: l, h => by
    have h1 := flat_len_le (l := l) fun y hy => h y (by simp [hy])
    have h2 := h x (by simp)
    rw [List.flatMap_cons, List.length_append, List.length_cons, Nat.succ_mul]; omega
theorem saveN_len {S : Ac} (h : Good S) : (saveN S).length ≤ 13000 := by
  have a := flat_len_le (f := perN) (k := 11) (l := S.ps) (fun p _ => by simp [perN])
  have b := flat_len_le (f := pmN) (k := 246) (l := S.ms) (fun m hm => by
    have := (h.pm m hm).len
    have c := flat_len_le (f := itN) (k := 4) (l := m.parts) (fun x _ => by simp [itN])
    unfold pmN
    simp only [List.length_append, List.length_cons, List.length_nil]
    omega)
  have h4 := h.np; have h5 := h.nm
  unfold saveN
  simp only [List.length_append, List.length_cons, List.length_nil]
  omega
/-- What was saved so far. -/
theorem pre_ok {S : Ac} (h : Good S) {P : List Int} (hp : ∃ R, P ++ R = saveN S) : (∀ n ∈ P, okN n) ∧ (numsB P).length ≤ 130000 := by
  obtain ⟨R, hR⟩ := hp
  have h1 : ∀ n ∈ P, okN n := fun n hn => saveN_ok h n (by rw [← hR]; simp [hn])
  refine ⟨h1, ?_⟩
  have h2 := numsB_len h1
  have h3 := saveN_len h
  have h4 : P.length ≤ (saveN S).length := by rw [← hR, List.length_append]; omega
  omega
def hdrN (S : Ac) : List Int := [S.day, S.bp, S.cr, (S.ps.length : Int)]
def pre1 (S : Ac) (k : Nat) : List Int := hdrN S ++ (S.ps.take k).flatMap perN
def pre2 (S : Ac) (k : Nat) : List Int := hdrN S ++ S.ps.flatMap perN ++ [(S.ms.length : Int)] ++ (S.ms.take k).flatMap pmN
def pmH (m : Pm) : List Int := [m.id, m.day, m.amt, (m.parts.length : Int)]
def pre3 (S : Ac) (k : Nat) (m : Pm) (j : Nat) : List Int := pre2 S k ++ pmH m ++ (m.parts.take j).flatMap itN
theorem pre1_ok {S : Ac} (k : Nat) : ∃ R, pre1 S k ++ R = saveN S := by
  refine ⟨(S.ps.drop k).flatMap perN ++ ([(S.ms.length : Int)] ++ S.ms.flatMap pmN), ?_⟩
  unfold pre1 saveN hdrN
  have : S.ps.flatMap perN = (S.ps.take k).flatMap perN ++ (S.ps.drop k).flatMap perN := by rw [← List.flatMap_append, List.take_append_drop]
  rw [this]; simp only [List.append_assoc]
theorem pre2_ok {S : Ac} (k : Nat) : ∃ R, pre2 S k ++ R = saveN S := by
  refine ⟨(S.ms.drop k).flatMap pmN, ?_⟩
  unfold pre2 saveN hdrN
  have : S.ms.flatMap pmN = (S.ms.take k).flatMap pmN ++ (S.ms.drop k).flatMap pmN := by rw [← List.flatMap_append, List.take_append_drop]
  rw [this]; simp only [List.append_assoc]
theorem pmN_eq (m : Pm) : pmN m = pmH m ++ m.parts.flatMap itN ++ [m.rest, revN m.rev] := rfl
theorem pre2_next {S : Ac} {k : Nat} (h : k < S.ms.length) : pre2 S (k + 1) = pre2 S k ++ pmN S.ms[k] := by
  unfold pre2
  rw [List.take_succ_eq_append_getElem h, List.flatMap_append]; simp
theorem pre1_next {S : Ac} {k : Nat} (h : k < S.ps.length) : pre1 S (k + 1) = pre1 S k ++ perN S.ps[k] := by
  unfold pre1
  rw [List.take_succ_eq_append_getElem h, List.flatMap_append]; simp
theorem pre3_ok {S : Ac} {k : Nat} (h : k < S.ms.length) (j : Nat) : ∃ R, pre3 S k S.ms[k] j ++ R = saveN S := by
  obtain ⟨R, hR⟩ := pre2_ok (S := S) (k + 1)
  refine ⟨(S.ms[k].parts.drop j).flatMap itN ++ [S.ms[k].rest, revN S.ms[k].rev] ++ R, ?_⟩
  rw [← hR, pre2_next h, pmN_eq]
  unfold pre3
  have : S.ms[k].parts.flatMap itN = (S.ms[k].parts.take j).flatMap itN ++ (S.ms[k].parts.drop j).flatMap itN := by rw [← List.flatMap_append, List.take_append_drop]
  rw [this]; simp only [List.append_assoc]
theorem pre3_next {S : Ac} {k j : Nat} {m : Pm} (h : j < m.parts.length) : pre3 S k m (j + 1) = pre3 S k m j ++ itN m.parts[j] := by
  unfold pre3
  rw [List.take_succ_eq_append_getElem h, List.flatMap_append]; simp
theorem pre3_last {S : Ac} {k : Nat} (h : k < S.ms.length) : pre3 S k S.ms[k] S.ms[k].parts.length ++ [S.ms[k].rest, revN S.ms[k].rev] = pre2 S (k + 1) := by
  rw [pre2_next h, pmN_eq]
  unfold pre3
  rw [List.take_length]; simp only [List.append_assoc]
theorem pre1_last (S : Ac) : pre1 S S.ps.length ++ [(S.ms.length : Int)] = pre2 S 0 := by
  unfold pre1 pre2
  rw [List.take_length]; simp
theorem pre2_last (S : Ac) : pre2 S S.ms.length = saveN S := by
  unfold pre2 saveN hdrN
  rw [List.take_length]
end Go.Proofs.YtbjjgnaojoaoiaaGreat
