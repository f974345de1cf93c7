/- Codes of numbers, in plain words. -/
import Derived.Test.YtbjjgnaojoaoiaaGreatK46
import Derived.Test.YtbjjgnaojoaoiaaGreatK34
namespace Go.Proofs.YtbjjgnaojoaoiaaGreat
set_option linter.unusedVariables false
set_option linter.unusedSimpArgs false

/-- What the bytes of a row tell so far. -/
def valB (l : List Nat) : Nat := l.foldl (fun a c => a * 128 + c % 128) 0
theorem valB_snoc (l : List Nat) (c : Nat) : valB (l ++ [c]) = valB l * 128 + c % 128 := by simp [valB]
/-- The leading digits of a number that more follow. -/
def headB (n : Nat) : List Nat := (tailB n).reverse
theorem headB_pos {n : Nat} (h : 0 < n) : headB n = headB (n / 128) ++ [n % 128 + 128] := by unfold headB; rw [tailB_pos h]; simp
theorem headB_zero : headB 0 = [] := by unfold headB; rw [tailB_zero]; rfl
theorem numB_eq (n : Nat) : numB n = headB (n / 128) ++ [n % 128] := by unfold numB headB; simp
theorem headB_ind {P : Nat → Prop} (h0 : P 0) (h1 : ∀ n, 0 < n → P (n / 128) → P n) (n : Nat) : P n := by
  induction n using Nat.strongRecOn with
  | ind n ih =>
    by_cases h : n = 0
    · subst h; exact h0
    · exact h1 n (by omega) (ih _ (by omega))
theorem headB_val (n : Nat) : valB (headB n) = n := by
  refine headB_ind (P := fun n => valB (headB n) = n) (by rw [headB_zero]; rfl) (fun n h ih => ?_) n
  rw [headB_pos h, valB_snoc, ih]; omega
theorem headB_take {n k : Nat} (h : k ≤ (headB n).length) : valB ((headB n).take k) ≤ n := by
  refine headB_ind (P := fun n => ∀ k, k ≤ (headB n).length → valB ((headB n).take k) ≤ n) (fun k hk => ?_) (fun n h ih k hk => ?_) n k h
  · rw [headB_zero]; simp [valB]
  · rw [headB_pos h] at hk ⊢
    by_cases hk2 : k ≤ (headB (n / 128)).length
    · rw [List.take_append_of_le_length hk2]
      have := ih k hk2; omega
    · have e : k = (headB (n / 128) ++ [n % 128 + 128]).length := by simp at hk ⊢; omega
      rw [e, List.take_length, ← headB_pos h, headB_val]; exact Nat.le_refl _
theorem headB_at {n k : Nat} (h : k < (headB n).length) : 128 ≤ (headB n)[k] ∧ (headB n)[k] < 256 ∧ (k = 0 → 128 < (headB n)[k]) := by
  refine headB_ind (P := fun n => ∀ k (h : k < (headB n).length), 128 ≤ (headB n)[k] ∧ (headB n)[k] < 256 ∧ (k = 0 → 128 < (headB n)[k])) (fun k hk => ?_) (fun n h ih k hk => ?_) n k h
  · exfalso; rw [headB_zero] at hk; simp at hk
  · have hl : (headB n).length = (headB (n / 128)).length + 1 := by rw [headB_pos h]; simp
    have e : ∀ (l : List Nat) (hl : headB n = l) (hk2 : k < l.length), (headB n)[k] = l[k] := by intro l hl hk2; subst hl; rfl
    have hk2 : k < (headB (n / 128) ++ [n % 128 + 128]).length := by simp; omega
    rw [e _ (headB_pos h) hk2]
    by_cases hk3 : k < (headB (n / 128)).length
    · rw [List.getElem_append_left hk3]; exact ih k hk3
    · rw [List.getElem_append_right (by omega)]
      simp only [List.getElem_singleton]
      refine ⟨by omega, by omega, fun h0 => ?_⟩
      subst h0
      have h3 : (headB (n / 128)).length = 0 := by omega
      have h4 : n / 128 = 0 := by
        have := headB_val (n / 128)
        rw [List.length_eq_zero_iff.1 h3] at this
        simpa [valB] using this.symm
      omega
theorem headB_take_lt {n k : Nat} (h : k < (headB n).length) : valB ((headB n).take k) ≤ n / 128 := by
  have h0 : 0 < n := by
    rcases Nat.eq_zero_or_pos n with rfl | h0
    · rw [headB_zero] at h; simp at h
    · exact h0
  have hl : (headB n).length = (headB (n / 128)).length + 1 := by rw [headB_pos h0]; simp
  rw [headB_pos h0, List.take_append_of_le_length (by omega)]
  exact headB_take (by omega)
theorem headB_len : ∀ (j n : Nat), n < 128 ^ j → (headB n).length ≤ j
  | 0, n, h => by
    have : n = 0 := by simpa using h
    subst this; rw [headB_zero]; simp
  | j + 1, n, h => by
    rcases Nat.eq_zero_or_pos n with rfl | h0
    · rw [headB_zero]; simp
    · rw [headB_pos h0]
      have := headB_len j (n / 128) (by rw [Nat.pow_succ] at h; omega)
      simp; omega
theorem numB_len {n : Nat} (h : n < 18446744073709551616) : (numB n).length ≤ 10 := by
  rw [numB_eq]
  have := headB_len 9 (n / 128) (by omega)
  simp; omega
theorem numB_pos (n : Nat) : 0 < (numB n).length := by rw [numB_eq]; simp
theorem numB_small {n : Nat} : ∀ x ∈ numB n, x < 256 := by
  intro x hx
  rw [numB_eq] at hx
  rcases List.mem_append.1 hx with hx | hx
  · obtain ⟨i, hi, rfl⟩ := List.mem_iff_getElem.1 hx
    exact (headB_at hi).2.1
  · simp at hx; omega

/-- Numbers as their codes, one behind the other. -/
def numsB (l : List Int) : List Nat := l.flatMap fun n => numB n.toNat
theorem numsB_app (a b : List Int) : numsB (a ++ b) = numsB a ++ numsB b := by simp [numsB]
theorem numsB_cons (a : Int) (b : List Int) : numsB (a :: b) = numB a.toNat ++ numsB b := by simp [numsB]
theorem numsB_nil : numsB [] = [] := rfl
/-- A number that has a code of ten bytes at most. -/
def okN (n : Int) : Prop := 0 ≤ n ∧ n < 18446744073709551616
theorem numsB_len {l : List Int} (h : ∀ n ∈ l, okN n) : (numsB l).length ≤ l.length * 10 := by
  induction l with
  | nil => simp [numsB]
  | cons n l ih =>
    have h1 := h n (by simp)
    have h2 := numB_len (n := n.toNat) (by unfold okN at h1; omega)
    have h3 := ih fun m hm => h m (by simp [hm])
    rw [numsB_cons, List.length_append, List.length_cons, Nat.succ_mul]; omega
theorem numsB_small {l : List Int} : ∀ x ∈ numsB l, x < 256 := by
  intro x hx
  unfold numsB at hx
  obtain ⟨n, _, hx⟩ := List.mem_flatMap.1 hx
  exact numB_small x hx
end Go.Proofs.YtbjjgnaojoaoiaaGreat
/- Advancing in parts is advancing at once, in plain words. -/
namespace Go.Proofs.YtbjjgnaojoaoiaaGreat
set_option linter.unusedVariables false
set_option linter.unusedSimpArgs false

/-- Principal of all periods. -/
def prinP (ps : List Per) : Int := (ps.map Per.o2).sum
theorem prin_set (ps : List Per) (i : Nat) (h : i < ps.length) (p : Per) : prinP (ps.set i p) = prinP ps - ps[i].o2 + p.o2 := by
  unfold prinP
  rw [List.map_set, sum_setZ _ _ (by simpa using h)]; simp
theorem prin_ins (ps : List Per) (i : Nat) (p : Per) : prinP (insP ps i p) = prinP ps + p.o2 := by
  unfold prinP insP
  conv => rhs; rw [← List.take_append_drop i ps]
  simp only [List.map_append, List.sum_append, List.map_cons, List.sum_cons]; omega
theorem setO_o2 (day : Int) (p : Per) {kind : Int} (hk : kind = 0 ∨ kind = 1 ∨ kind = 2) (v : Int) : (Per.setO day p kind v).o2 = if kind = 2 then v else p.o2 := by
  unfold Per.setO Per.putO
  rcases hk with rfl | rfl | rfl
  · simp
  · simp
  · split <;> simp
theorem give1_prin {ps ps' : List Per} (h : RiseP ps) {day times : Int} {x : Dq} (hx : Placed ps x) (ho : 0 ≤ x.opn) (ht : times = 1 ∨ times = -1) (hg : give1 day times ps x = some ps') : prinP ps' ≤ prinP ps + (if times = 1 then x.opn else 0) := by
  obtain ⟨_, _, i, hi, hper, rfl, _, _⟩ := give1_items h hx hg
  rw [prin_set _ _ hi, setO_o2 _ _ hx.2]
  by_cases hk : x.kind = 2
  · rw [if_pos hk, hk]
    have : ps[i].opn 2 = ps[i].o2 := by simp [Per.opn]
    rw [this]
    rcases ht with rfl | rfl
    · rw [if_pos rfl]; omega
    · rw [if_neg (by decide)]; omega
  · rw [if_neg hk]; split <;> omega
theorem giveS_prin {day times : Int} (ht : times = 1 ∨ times = -1) : ∀ (l : List Dq) {ps ps' : List Per}, RiseP ps → (∀ x ∈ l, Placed ps x) → (∀ x ∈ l, 0 ≤ x.opn) → giveS day times ps l = some ps' → prinP ps' ≤ prinP ps + (if times = 1 then opens l else 0)
  | [], ps, ps', h, _, _, hg => by
    simp only [giveS] at hg; injection hg with hg; subst hg; simp [opens]
  | x :: l, ps, ps', h, hl, ho, hg => by
    simp only [giveS] at hg
    cases h1 : give1 day times ps x with
    | none => rw [h1] at hg; cases hg
    | some ps1 =>
      rw [h1] at hg
      obtain ⟨_, e2, _⟩ := give1_items h (hl x (by simp)) h1
      have e3 := give1_prin h (hl x (by simp)) (ho x (by simp)) ht h1
      have e4 := giveS_prin ht l (riseP_ret h e2) (fun y hy => (hl y (by simp [hy])).ret e2) (fun y hy => ho y (by simp [hy])) hg
      rw [opens_cons]
      rcases ht with rfl | rfl
      · rw [if_pos rfl] at e3 e4 ⊢; omega
      · rw [if_neg (by decide)] at e3 e4 ⊢; omega
theorem paid_prin {S : Ac} (h : Good S) {a : Int} (ha : 0 ≤ a) {ps : List Per} (e : giveS S.day (-1) S.ps (partsOf (itemsOf S.ps) a) = some ps) : prinP ps ≤ prinP S.ps := by
  have hpl := h.places
  have hl : ∀ x ∈ partsOf (itemsOf S.ps) a, Placed S.ps x ∧ 0 ≤ x.opn := fun x hx => by
    obtain ⟨y, hy, e, h1, h2⟩ := parts_of hpl hx
    obtain ⟨p, hpp, f1, f2, f3, f4⟩ := items_opn hy
    obtain ⟨i, hi, rfl⟩ := List.mem_iff_getElem.1 hpp
    have e1 : x.per = y.per := by rw [e]
    have e2 : x.kind = y.kind := by rw [e]
    exact ⟨⟨⟨i, hi, by rw [e1, f1]; exact place_at h.rise hi⟩, by rw [e2]; exact f3⟩, by omega⟩
  have := giveS_prin (.inr rfl) _ h.rise (fun x hx => (hl x hx).1) (fun x hx => (hl x hx).2) e
  rw [if_neg (by decide)] at this
  omega
/-- All periods settle. -/
def setAll (T bp : Int) (ps : List Per) : List Per := ps.map fun p => (settleS T bp p).2.2
def setSum (T bp : Int) (ps : List Per) : Int := (ps.map fun p => (settleS T bp p).2.1).sum
theorem take_set_next {α : Type} (f : α → α) (l : List α) {k : Nat} (h : k < l.length) : ((l.take k).map f ++ l.drop k).set k (f l[k]) = (l.take (k + 1)).map f ++ l.drop (k + 1) := by
  have h1 : ((l.take k).map f).length = k := by simp; omega
  rw [List.set_append_right _ _ (by omega), h1, Nat.sub_self, List.drop_eq_getElem_cons h, List.set_cons_zero, List.take_succ_eq_append_getElem h, List.map_append]
  simp
theorem advK_is {T bp : Int} {ps : List Per} : ∀ k, k ≤ ps.length → (advK T bp ps k).1 = 0 → (advK T bp ps k).2.2 = (ps.take k).map (fun p => (settleS T bp p).2.2) ++ ps.drop k ∧ (advK T bp ps k).2.1 = setSum T bp (ps.take k) ∧ ∀ p ∈ ps.take k, (settleS T bp p).1 = 0
  | 0, _, _ => ⟨by simp [advK], by simp [advK, setSum], by simp⟩
  | k + 1, hk, h => by
    by_cases h0 : (advK T bp ps k).1 ≠ 0
    · rw [advK, if_pos h0] at h; exact absurd h h0
    · obtain ⟨e1, e2, e3⟩ := advK_is k (by omega) (by omega : (advK T bp ps k).1 = 0)
      have hkl : k < ps.length := by omega
      have hl1 : ((ps.take k).map fun p => (settleS T bp p).2.2).length = k := by simp; omega
      have hg : (advK T bp ps k).2.2.getD k Per.zero = ps[k] := by
        rw [e1, List.getD_eq_getElem?_getD, List.getElem?_append_right (by omega), hl1, Nat.sub_self, List.drop_eq_getElem_cons hkl]; rfl
      by_cases h1 : (settleS T bp ps[k]).1 ≠ 0
      · rw [advK, if_neg h0, hg, if_pos h1] at h; exact absurd h h1
      · by_cases h2 : (addS (advK T bp ps k).2.1 (settleS T bp ps[k]).2.1).2 ≠ 0
        · rw [advK, if_neg h0, hg, if_neg h1, if_pos h2] at h; simp at h
        · have e : advK T bp ps (k + 1) = (0, (addS (advK T bp ps k).2.1 (settleS T bp ps[k]).2.1).1, (advK T bp ps k).2.2.set k (settleS T bp ps[k]).2.2) := by
            rw [advK, if_neg h0, hg, if_neg h1, if_neg h2]
          obtain ⟨f1, _, _⟩ := add_ok (by omega : (addS (advK T bp ps k).2.1 (settleS T bp ps[k]).2.1).2 = 0)
          rw [e]
          refine ⟨?_, ?_, ?_⟩
          · show (advK T bp ps k).2.2.set k _ = _
            rw [e1]
            exact take_set_next (fun p => (settleS T bp p).2.2) ps hkl
          · show (addS _ _).1 = _
            rw [f1, e2, List.take_succ_eq_append_getElem hkl]
            unfold setSum
            rw [List.map_append, List.sum_append]; simp
          · intro p hp
            rw [List.take_succ_eq_append_getElem hkl] at hp
            rcases List.mem_append.1 hp with hp | hp
            · exact e3 p hp
            · simp at hp; subst hp; omega
theorem setSum_take {T bp : Int} {ps : List Per} (hn : ∀ p ∈ ps, 0 ≤ (settleS T bp p).2.1) (k : Nat) : 0 ≤ setSum T bp (ps.take k) ∧ setSum T bp (ps.take k) ≤ setSum T bp ps := by
  have h1 : ∀ l : List Per, (∀ p ∈ l, 0 ≤ (settleS T bp p).2.1) → 0 ≤ setSum T bp l := fun l hl => by
    unfold setSum
    exact sum_nonneg fun x hx => by obtain ⟨p, hp, rfl⟩ := List.mem_map.1 hx; exact hl p hp
  have e : setSum T bp ps = setSum T bp (ps.take k) + setSum T bp (ps.drop k) := by
    unfold setSum
    rw [← List.sum_append, ← List.map_append, List.take_append_drop]
  have a := h1 (ps.take k) (fun p hp => hn p (List.mem_of_mem_take hp))
  have b := h1 (ps.drop k) (fun p hp => hn p (List.mem_of_mem_drop hp))
  omega
theorem advK_mk {T bp : Int} {ps : List Per} (h0 : ∀ p ∈ ps, (settleS T bp p).1 = 0) (hn : ∀ p ∈ ps, 0 ≤ (settleS T bp p).2.1) (hs : setSum T bp ps ≤ 4611686018427387904) : ∀ k, k ≤ ps.length → (advK T bp ps k).1 = 0
  | 0, _ => rfl
  | k + 1, hk => by
    have ih := advK_mk h0 hn hs k (by omega)
    obtain ⟨e1, e2, e3⟩ := advK_is k (by omega) ih
    have hkl : k < ps.length := by omega
    have hl1 : ((ps.take k).map fun p => (settleS T bp p).2.2).length = k := by simp; omega
    have hg : (advK T bp ps k).2.2.getD k Per.zero = ps[k] := by
      rw [e1, List.getD_eq_getElem?_getD, List.getElem?_append_right (by omega), hl1, Nat.sub_self, List.drop_eq_getElem_cons hkl]; rfl
    have hm := List.getElem_mem hkl
    have a1 := h0 _ hm
    have a2 := hn _ hm
    have b1 := setSum_take hn k
    have b2 := setSum_take hn (k + 1)
    have e4 : setSum T bp (ps.take (k + 1)) = setSum T bp (ps.take k) + (settleS T bp ps[k]).2.1 := by
      unfold setSum
      rw [List.take_succ_eq_append_getElem hkl, List.map_append, List.sum_append]; simp
    have e5 : addS (advK T bp ps k).2.1 (settleS T bp ps[k]).2.1 = ((advK T bp ps k).2.1 + (settleS T bp ps[k]).2.1, 0) := add_yes (by simp [amt]; omega) (by omega)
    rw [advK, if_neg (by omega), hg, if_neg (by omega), e5]
    rfl
/-- What a period settles in days that are not many. -/
theorem settle_bound {day T : Int} {p : Per} (h : PerOk day 700 p) (hT : day ≤ T) (hb : T ≤ day + 30000) (hs : (settleS T 700 p).1 = 0) : (settleS T 700 p).2.1 ≤ 6 * p.o2 + 1 := by
  obtain ⟨h1, h2, h3, h4⟩ := settle_some hs
  rw [h3]
  show (interestS T 700 p).1 - p.acc ≤ _
  have ho := h.b2
  by_cases hlt : T < p.since
  · have e : interestS T 700 p = (0, 0) := by unfold interestS; rw [if_pos hlt]
    have := h.acc
    rw [e]; show (0 : Int) - p.acc ≤ _; omega
  · have e : interestS T 700 p = if (simpleS p.o2 700 (T - p.since)).2 = 0 then addS p.done (simpleS p.o2 700 (T - p.since)).1 else (0, (simpleS p.o2 700 (T - p.since)).2) := by unfold interestS; rw [if_neg hlt]
    rw [e] at h1 ⊢
    by_cases h5 : (simpleS p.o2 700 (T - p.since)).2 = 0
    · rw [if_pos h5] at h1 ⊢
      obtain ⟨e1, _, _⟩ := add_ok h1
      obtain ⟨f1, _⟩ := simple_okZ h5
      rw [e1, f1]
      have hd : p.o2 * (700 * (T - p.since)) = 700 * (p.o2 * (T - p.since)) := by rw [Int.mul_left_comm]
      by_cases h3 : p.since ≤ day
      · have hx := h.int h3
        have e' : interestS day 700 p = if (simpleS p.o2 700 (day - p.since)).2 = 0 then addS p.done (simpleS p.o2 700 (day - p.since)).1 else (0, (simpleS p.o2 700 (day - p.since)).2) := by unfold interestS; rw [if_neg (by omega)]
        rw [e'] at hx
        by_cases h6 : (simpleS p.o2 700 (day - p.since)).2 = 0
        · rw [if_pos h6] at hx
          have h7 : (addS p.done (simpleS p.o2 700 (day - p.since)).1).2 = 0 := by rw [hx]
          obtain ⟨e2, _, _⟩ := add_ok h7
          obtain ⟨f2, _⟩ := simple_okZ h6
          rw [f2] at e2
          have h8 : (addS p.done (simpleS p.o2 700 (day - p.since)).1).1 = p.acc := by rw [hx]
          rw [f2] at h8
          rw [e2] at h8
          have hd2 : p.o2 * (700 * (day - p.since)) = 700 * (p.o2 * (day - p.since)) := by rw [Int.mul_left_comm]
          have hm : p.o2 * (T - p.since) = p.o2 * (day - p.since) + p.o2 * (T - day) := by rw [← Int.mul_add]; congr 1; omega
          have hm2 : p.o2 * (T - day) ≤ p.o2 * 30000 := Int.mul_le_mul_of_nonneg_left (by omega) ho.1
          rw [hd, hm]
          rw [hd2] at h8
          generalize p.o2 * (day - p.since) = X at *
          generalize p.o2 * (T - day) = Y at *
          omega
        · rw [if_neg h6] at hx
          exact absurd (congrArg Prod.snd hx) h6
      · have h6 := h.none_ (by omega)
        have hm2 : p.o2 * (T - p.since) ≤ p.o2 * 30000 := Int.mul_le_mul_of_nonneg_left (by omega) ho.1
        rw [hd]
        generalize p.o2 * (T - p.since) = X at *
        omega
    · rw [if_neg h5] at h1; exact absurd h1 h5
/-- Settled twice is settled at once. -/
theorem settle_twice {day bp T1 T2 : Int} {p : Per} (h : PerOk day bp p) (h1 : day ≤ T1) (h2 : T1 ≤ T2) (s1 : (settleS T1 bp p).1 = 0) (s2 : (settleS T2 bp (settleS T1 bp p).2.2).1 = 0) :
    settleS T2 bp p = (0, (settleS T1 bp p).2.1 + (settleS T2 bp (settleS T1 bp p).2.2).2.1, (settleS T2 bp (settleS T1 bp p).2.2).2.2) := by
  obtain ⟨q1, q2, q3, _, q5, _⟩ := h.settle h1 s1
  obtain ⟨r1, r2, r3, _, r5, _⟩ := q1.settle h2 s2
  have hb := h.b1
  have rb := r1.b1
  obtain ⟨a1, a2, a3, a4⟩ := settle_some s1
  rw [a3] at s2 q3 q5 r3 r5 rb ⊢
  obtain ⟨b1, b2, b3, b4⟩ := settle_some s2
  rw [b3] at r3 r5 rb ⊢
  have e : ∀ x y : Int, interestS T2 bp { p with o1 := x, acc := y } = interestS T2 bp p := fun x y => interest_eq T2 bp rfl rfl rfl
  rw [e] at b1 b2 b3 b4 r3 r5 rb ⊢
  simp only at b1 b2 b3 b4 q3 q5 r3 r5 rb ⊢
  have hacc := h.acc
  have hib := interest_bd T2 bp p
  have ha : addS p.o1 ((interestS T2 bp p).1 - p.acc) = (p.o1 + ((interestS T2 bp p).1 - p.acc), 0) := add_yes (by simp [amt]; omega) (by omega)
  unfold settleS
  rw [if_neg (by omega), ha, if_neg (by simp)]
  refine Prod.ext rfl (Prod.ext ?_ ?_)
  · show (interestS T2 bp p).1 - p.acc = ((interestS T1 bp p).1 - p.acc) + ((interestS T2 bp p).1 - (interestS T1 bp p).1); omega
  · show ({ p with o1 := _, acc := _ } : Per) = { p with o1 := _, acc := _ }
    congr 1
    omega
/-- Nothing settles on the same day. -/
theorem settle_none {day bp : Int} {p : Per} (h : PerOk day bp p) : settleS day bp p = (0, 0, p) := by
  have hb := h.b1
  have hi : interestS day bp p = (p.acc, 0) := by
    by_cases h1 : p.since ≤ day
    · exact h.int h1
    · have := h.none_ (by omega)
      unfold interestS; rw [if_pos (by omega), this.2]
  have ha : addS p.o1 (p.acc - p.acc) = (p.o1, 0) := by rw [Int.sub_self]; exact add_zero_amt hb
  unfold settleS
  rw [hi]
  simp only [ha]
  rw [if_neg (by simp), if_neg (by simp)]
  simp
/-- Behind some days: what the account is, if it was advanced at once. -/
structure AdvTo (S T : Ac) (s : Int) : Prop where
  day : T.day = S.day + s
  ps : T.ps = setAll T.day S.bp S.ps
  ok : ∀ p ∈ S.ps, (settleS T.day S.bp p).1 = 0
  bp : T.bp = S.bp
  cr : T.cr = S.cr
  ms : T.ms = S.ms
theorem AdvTo.start {S : Ac} (h : Good S) : AdvTo S S 0 :=
  ⟨by omega, by
    unfold setAll
    have : S.ps.map (fun p => (settleS S.day S.bp p).2.2) = S.ps.map id := List.map_congr_left fun p hp => by rw [settle_none (h.per p hp)]; rfl
    rw [this, List.map_id], fun p hp => by rw [settle_none (h.per p hp)], rfl, rfl, rfl⟩
theorem advance_is {S : Ac} {d : Int} (he : (advanceS S d).2.2 = 0) : (0 ≤ d ∧ d ≤ 36500) ∧ S.day + d ≤ 3652058 ∧ (∀ p ∈ S.ps, (settleS (S.day + d) S.bp p).1 = 0) ∧ (advanceS S d).1 = { S with day := S.day + d, ps := setAll (S.day + d) S.bp S.ps } := by
  unfold advanceS at he ⊢
  by_cases h0 : ¬ (0 ≤ d ∧ d ≤ 36500)
  · rw [if_pos h0] at he; simp at he
  · rw [if_neg h0] at he ⊢
    by_cases h1 : 3652058 < S.day + d
    · rw [if_pos h1] at he; simp at he
    · rw [if_neg h1] at he ⊢
      unfold advance1 at he ⊢
      by_cases h2 : (advK (S.day + d) S.bp S.ps S.ps.length).1 ≠ 0
      · rw [if_pos h2] at he; exact absurd he h2
      · rw [if_neg h2]
        obtain ⟨e1, e2, e3⟩ := advK_is S.ps.length (Nat.le_refl _) (by omega : (advK (S.day + d) S.bp S.ps S.ps.length).1 = 0)
        rw [List.take_length] at e1 e3
        rw [List.drop_length, List.append_nil] at e1
        refine ⟨by simpa using h0, by omega, e3, ?_⟩
        simp only [e1]
        rfl
theorem AdvTo.next {S T : Ac} {s d : Int} (hS : Good S) (h : AdvTo S T s) (hs : 0 ≤ s) (he : (advanceS T d).2.2 = 0) : AdvTo S (advanceS T d).1 (s + d) := by
  obtain ⟨a1, a2, a3, a4⟩ := advance_is he
  have hd := h.day
  have key : ∀ p ∈ S.ps, settleS (T.day + d) S.bp p = (0, (settleS T.day S.bp p).2.1 + (settleS (T.day + d) S.bp (settleS T.day S.bp p).2.2).2.1, (settleS (T.day + d) S.bp (settleS T.day S.bp p).2.2).2.2) := fun p hp => by
    refine settle_twice (hS.per p hp) (by omega) (by omega) (h.ok p hp) ?_
    have := a3 (settleS T.day S.bp p).2.2 (by rw [h.ps]; exact List.mem_map_of_mem (f := fun p => (settleS T.day S.bp p).2.2) hp)
    rw [h.bp] at this
    exact this
  rw [a4]
  refine ⟨by show T.day + d = _; omega, ?_, ?_, h.bp, h.cr, h.ms⟩
  · show setAll (T.day + d) T.bp T.ps = setAll (T.day + d) S.bp S.ps
    rw [h.ps, h.bp]
    unfold setAll
    rw [List.map_map]
    apply List.map_congr_left
    intro p hp
    show (settleS (T.day + d) S.bp (settleS T.day S.bp p).2.2).2.2 = _
    rw [key p hp]
  · intro p hp
    show (settleS (T.day + d) S.bp p).1 = 0
    rw [key p hp]
theorem sum_le_of {α : Type} {f g : α → Int} : ∀ {l : List α}, (∀ x ∈ l, f x ≤ g x) → (l.map f).sum ≤ (l.map g).sum
  | [], _ => by simp
  | x :: l, h => by
    have := sum_le_of (l := l) fun y hy => h y (by simp [hy])
    have := h x (by simp)
    simp only [List.map_cons, List.sum_cons]; omega
theorem sum_six (l : List Per) : (l.map fun p => 6 * p.o2 + 1).sum = 6 * prinP l + l.length := by
  induction l with
  | nil => simp [prinP]
  | cons p l ih => simp only [prinP, List.map_cons, List.sum_cons, List.length_cons] at *; omega
/-- At once. -/
theorem AdvTo.at_once {S T : Ac} {s : Int} (hS : Good S) (hb : S.bp = 700) (hp : prinP S.ps ≤ 288230376151711744) (h : AdvTo S T s) (hs : 0 ≤ s) (hs2 : s ≤ 30000) (hT : T.day ≤ 3652058) : (advanceS S s).2.2 = 0 ∧ (advanceS S s).1 = T := by
  have hd := h.day
  have hn : ∀ p ∈ S.ps, 0 ≤ (settleS (S.day + s) S.bp p).2.1 := fun p hp => by
    have := h.ok p hp
    rw [hd] at this
    exact ((hS.per p hp).settle (by omega) this).2.2.1
  have hsum : setSum (S.day + s) S.bp S.ps ≤ 4611686018427387904 := by
    have h1 : setSum (S.day + s) S.bp S.ps ≤ (S.ps.map fun p => 6 * p.o2 + 1).sum := sum_le_of fun p hp => by
      have := h.ok p hp
      rw [hd] at this
      have hpo := hS.per p hp
      rw [hb] at this hpo ⊢
      exact settle_bound hpo (by omega) (by omega) this
    rw [sum_six] at h1
    have := hS.np
    omega
  have hok : (advK (S.day + s) S.bp S.ps S.ps.length).1 = 0 := advK_mk (fun p hp => by rw [← hd]; exact h.ok p hp) hn hsum _ (Nat.le_refl _)
  have he : (advanceS S s).2.2 = 0 := by
    unfold advanceS
    rw [if_neg (by omega), if_neg (by omega)]
    unfold advance1
    rw [if_neg (by omega)]
  refine ⟨he, ?_⟩
  obtain ⟨_, _, _, e⟩ := advance_is he
  rw [e]
  obtain ⟨d, b, c, ps, ms⟩ := T
  have := h.ps; have := h.bp; have := h.cr; have := h.ms
  simp only at *
  subst_vars
  rfl
end Go.Proofs.YtbjjgnaojoaoiaaGreat
/- By a step the principal of all periods does not go up by much; the rate stays. -/
namespace Go.Proofs.YtbjjgnaojoaoiaaGreat
set_option linter.unusedVariables false
set_option linter.unusedSimpArgs false

theorem amd3_c2 {day bp m0 m2 : Int} {p : Per} (h : PerOk day bp p) (hd : 0 ≤ day ∧ day ≤ 3652058) (hb : 0 ≤ bp ∧ bp ≤ 100000) (he : (amd3 day m0 m2 p).1 = 0) : (amd3 day m0 m2 p).2.1.c2 = max m2 (-p.o2) := by
  unfold amd3 at he ⊢
  have e : ∀ k, (amdK day m0 m2 p (k + 1)).1 = 0 → (amdK day m0 m2 p k).1 = 0 := fun k hk => by
    by_cases h0 : (amdK day m0 m2 p k).1 ≠ 0
    · rw [amdK, if_pos h0] at hk; simp at hk
    · omega
  have h2 := amdK_ok h hd hb (m0 := m0) (m2 := m2) 2 (by omega) (e 2 he)
  have i1 := h2.o2; have i2 := h2.z2 (by omega)
  have he2 := e 2 he
  rw [amdK, if_neg (by omega)] at he ⊢
  generalize amdK day m0 m2 p 2 = r at *
  by_cases h1 : (amd1 day ((2 : Nat) : Int) (moreK m0 m2 2) r.2.2).1 ≠ 0
  · rw [if_pos h1] at he; simp at he
  · rw [if_neg h1]
    show (r.2.1.putK 2 _ _).c2 = _
    have e1 : ∀ (m : Mv) (c cr : Int), (m.putK 2 c cr).c2 = c := fun m c cr => rfl
    rw [e1]
    have hm : moreK m0 m2 2 = m2 := rfl
    rw [hm] at h1 ⊢
    unfold amd1 at h1 ⊢
    have ho : r.2.2.opn ((2 : Nat) : Int) = p.o2 := by
      have : r.2.2.opn ((2 : Nat) : Int) = r.2.2.o2 := by simp [Per.opn]
      rw [this]; omega
    rw [ho] at h1 ⊢
    by_cases h3 : (addS p.o2 (max m2 (-p.o2))).2 ≠ 0
    · rw [if_pos h3] at h1; simp at h1
    · rw [if_neg h3]
      obtain ⟨f1, _, _⟩ := add_ok (by omega : (addS p.o2 (max m2 (-p.o2))).2 = 0)
      show (addS p.o2 (max m2 (-p.o2))).1 - p.o2 = _
      omega
theorem prin_file {S : Ac} (h : Good S) (s : Sch) (r : Ret) : prinP (fileS S s r).1.ps ≤ prinP S.ps + 2251799813685248 ∧ (fileS S s r).1.bp = S.bp := by
  unfold fileS
  by_cases h0 : (billS s (r.onDay S.day)).2 ≠ 0
  · rw [if_pos h0]; exact ⟨by show prinP S.ps ≤ _; omega, rfl⟩
  · rw [if_neg h0]
    by_cases h1 : S.place r.per ≠ -1
    · rw [if_pos h1]; exact ⟨by show prinP S.ps ≤ _; omega, rfl⟩
    · rw [if_neg h1]
      by_cases h2 : 20 ≤ S.ps.length
      · rw [if_pos h2]; exact ⟨by show prinP S.ps ≤ _; omega, rfl⟩
      · rw [if_neg h2]
        obtain ⟨b, er, hbl⟩ : ∃ b er, billS s (r.onDay S.day) = (b, er) := ⟨_, _, rfl⟩
        rw [hbl] at h0 ⊢
        simp only at h0 ⊢
        have hbb : retB (r.onDay S.day) = true ∧ (0 ≤ b.prin ∧ b.prin ≤ 1125899906842624) ∧ (0 ≤ b.pen ∧ b.pen ≤ b.prin) ∧ (0 ≤ b.exc ∧ b.exc ≤ 1125899906842624) := by
          by_cases hs : OkS s
          · by_cases hrr : retB (r.onDay S.day) = true
            · rw [billS_yes hs hrr] at hbl
              have h3 := bill_bd hs hrr
              injection hbl with hbl _
              rw [hbl] at h3
              exact ⟨hrr, h3.2.1, h3.2.2.1, h3.2.2.2.1⟩
            · rw [billS_no2 hrr] at hbl; injection hbl with _ h; omega
          · rw [billS_no1 hs] at hbl; injection hbl with _ h; omega
        obtain ⟨hrr, hpr, hpe, hex⟩ := hbb
        unfold file1
        by_cases h3 : (settleS S.day S.bp (newPer (r.onDay S.day) b)).1 ≠ 0
        · rw [if_pos h3]; exact ⟨by show prinP S.ps ≤ _; omega, rfl⟩
        · rw [if_neg h3]
          by_cases h4 : (addS S.cr b.exc).2 ≠ 0
          · rw [if_pos h4]; exact ⟨by show prinP S.ps ≤ _; omega, rfl⟩
          · rw [if_neg h4]
            obtain ⟨k1, k2, k3, k4, k5, k6⟩ := newPer_ok h hrr hpr hpe (by omega)
            refine ⟨?_, rfl⟩
            show prinP (insP _ _ _) ≤ _
            rw [prin_ins, k6]; omega
theorem prin_amend {S : Ac} (h : Good S) (s : Sch) (n inc wh : Int) : prinP (amendS S s n inc wh).1.ps ≤ prinP S.ps + 2251799813685248 ∧ (amendS S s n inc wh).1.bp = S.bp := by
  unfold amendS
  by_cases h0 : S.place n = -1
  · rw [if_pos h0]; exact ⟨by show prinP S.ps ≤ _; omega, rfl⟩
  · rw [if_neg h0]
    obtain ⟨i, hi, e1, e2, e3⟩ := place_at2 h0
    rw [e3, e1, Int.toNat_natCast]
    unfold amend1
    by_cases h1 : (changeS s S.ps[i].ret (S.ps[i].ret.other2 inc wh)).2 ≠ 0
    · rw [if_pos h1]; exact ⟨by show prinP S.ps ≤ _; omega, rfl⟩
    · rw [if_neg h1]
      obtain ⟨k1, k2, k3, k4, k5, k6⟩ := change_ok (by omega : (changeS s S.ps[i].ret (S.ps[i].ret.other2 inc wh)).2 = 0)
      generalize changeS s S.ps[i].ret (S.ps[i].ret.other2 inc wh) = ch at *
      have hp := (h.per _ (List.getElem_mem hi)).with_ k3
      by_cases h2 : (amd3 S.day ch.1.pen (ch.1.prin - ch.1.exc) (S.ps[i].with_ (S.ps[i].ret.other2 inc wh))).1 ≠ 0
      · rw [if_pos h2]; exact ⟨by show prinP S.ps ≤ _; omega, rfl⟩
      · rw [if_neg h2]
        have hc := amd3_c2 hp h.day h.bp (by omega : (amd3 S.day ch.1.pen (ch.1.prin - ch.1.exc) (S.ps[i].with_ (S.ps[i].ret.other2 inc wh))).1 = 0)
        obtain ⟨q1, q2, q3, q4, q5, q6, _⟩ := amd3_ok hp h.day h.bp (by omega : (amd3 S.day ch.1.pen (ch.1.prin - ch.1.exc) (S.ps[i].with_ (S.ps[i].ret.other2 inc wh))).1 = 0)
        generalize amd3 S.day ch.1.pen (ch.1.prin - ch.1.exc) (S.ps[i].with_ (S.ps[i].ret.other2 inc wh)) = am at *
        by_cases h3 : (addS S.cr am.2.1.cr).2 ≠ 0
        · rw [if_pos h3]; exact ⟨by show prinP S.ps ≤ _; omega, rfl⟩
        · rw [if_neg h3]
          refine ⟨?_, rfl⟩
          show prinP (S.ps.set i am.2.2) ≤ _
          rw [prin_set _ _ hi, q6, hc]
          have hb := hp.b2
          have e : (S.ps[i].with_ (S.ps[i].ret.other2 inc wh)).o2 = S.ps[i].o2 := rfl
          rw [e] at hb ⊢
          omega
theorem prin_pay {S : Ac} (h : Good S) (id a : Int) : prinP (payS S id a).1.ps ≤ prinP S.ps + 2251799813685248 ∧ (payS S id a).1.bp = S.bp := by
  have hz : prinP S.ps ≤ prinP S.ps + 2251799813685248 := by omega
  unfold payS
  by_cases h0 : ¬ ((1 ≤ id ∧ id ≤ 1099511627776) ∧ 1 ≤ a ∧ a ≤ 1125899906842624)
  · rw [if_pos h0]; exact ⟨hz, rfl⟩
  · rw [if_neg h0]
    have ha : (1 ≤ id ∧ id ≤ 1099511627776) ∧ 1 ≤ a ∧ a ≤ 1125899906842624 := by simp at h0; omega
    by_cases h1 : 0 ≤ S.pay id
    · rw [if_pos h1]; exact ⟨hz, rfl⟩
    · rw [if_neg h1]
      by_cases h2 : 50 ≤ S.ms.length
      · rw [if_pos h2]; exact ⟨hz, rfl⟩
      · rw [if_neg h2]
        unfold pay1
        cases e : giveS S.day (-1) S.ps (partsOf (itemsOf S.ps) a) with
        | none => exact ⟨hz, rfl⟩
        | some ps =>
          have := paid_prin h (by omega) e
          simp only
          split
          · exact ⟨by show prinP ps ≤ _; omega, rfl⟩
          · exact ⟨hz, rfl⟩
theorem prin_offset {S : Ac} (h : Good S) (a : Int) : prinP (offsetS S a).1.ps ≤ prinP S.ps + 2251799813685248 ∧ (offsetS S a).1.bp = S.bp := by
  have hz : prinP S.ps ≤ prinP S.ps + 2251799813685248 := by omega
  unfold offsetS
  by_cases h0 : ¬ (1 ≤ a ∧ a ≤ 1125899906842624)
  · rw [if_pos h0]; exact ⟨hz, rfl⟩
  · rw [if_neg h0]
    have ha : 1 ≤ a ∧ a ≤ 1125899906842624 := by simpa using h0
    by_cases h1 : S.cr < a
    · rw [if_pos h1]; exact ⟨hz, rfl⟩
    · rw [if_neg h1]
      unfold offset1
      cases e : giveS S.day (-1) S.ps (partsOf (itemsOf S.ps) a) with
      | none => exact ⟨hz, rfl⟩
      | some ps =>
        have := paid_prin h (by omega) e
        exact ⟨by show prinP ps ≤ _; omega, rfl⟩
theorem prin_refund {S : Ac} (a : Int) : prinP (refundS S a).1.ps ≤ prinP S.ps + 2251799813685248 ∧ (refundS S a).1.bp = S.bp := by
  have hz : prinP S.ps ≤ prinP S.ps + 2251799813685248 := by omega
  unfold refundS
  split
  · exact ⟨hz, rfl⟩
  · split
    · exact ⟨hz, rfl⟩
    · exact ⟨hz, rfl⟩
theorem prin_advance {S : Ac} (h : Good S) (d : Int) : prinP (advanceS S d).1.ps ≤ prinP S.ps + 2251799813685248 ∧ (advanceS S d).1.bp = S.bp := by
  by_cases he : (advanceS S d).2.2 = 0
  · obtain ⟨a1, a2, a3, a4⟩ := advance_is he
    have hday := h.day
    rw [a4]
    refine ⟨?_, rfl⟩
    show prinP (setAll (S.day + d) S.bp S.ps) ≤ _
    have : prinP (setAll (S.day + d) S.bp S.ps) = prinP S.ps := by
      unfold prinP setAll
      rw [List.map_map]
      congr 1
      apply List.map_congr_left
      intro p hp
      exact ((h.per p hp).settle (by omega) (a3 p hp)).2.2.2.2.2
    omega
  · rw [advance_same he]; exact ⟨by omega, rfl⟩
theorem prin_reverse {S : Ac} (h : Good S) (id : Int) : prinP (reverseS S id).1.ps ≤ prinP S.ps + 2251799813685248 ∧ (reverseS S id).1.bp = S.bp := by
  have hz : prinP S.ps ≤ prinP S.ps + 2251799813685248 := by omega
  unfold reverseS
  by_cases h0 : S.pay id < 0
  · rw [if_pos h0]; exact ⟨hz, rfl⟩
  · rw [if_neg h0]
    obtain ⟨i, hi, e1, e2, e3⟩ := pay_at h0
    rw [e3, e1, Int.toNat_natCast]
    by_cases h1 : S.ms[i].rev = true
    · rw [if_pos h1]; exact ⟨hz, rfl⟩
    · rw [if_neg h1]
      by_cases h2 : S.cr < S.ms[i].rest
      · rw [if_pos h2]; exact ⟨hz, rfl⟩
      · rw [if_neg h2]
        unfold reverse1
        have hm := h.pm _ (List.getElem_mem hi)
        cases hg : giveS S.day 1 S.ps S.ms[i].parts with
        | none => exact ⟨hz, rfl⟩
        | some ps =>
          have := giveS_prin (.inl rfl) _ h.rise (fun x hx => (hm.placed x hx).1) (fun x hx => by have := (hm.placed x hx).2.2; omega) hg
          rw [if_pos rfl] at this
          have a1 := hm.sum; have a2 := hm.rest; have a3 := hm.amt
          exact ⟨by show prinP ps ≤ _; omega, rfl⟩
theorem prin_step {S : Ac} (h : Good S) (t : Stp) : prinP (stepS S t).1.ps ≤ prinP S.ps + 2251799813685248 ∧ (stepS S t).1.bp = S.bp := by
  unfold stepS
  split
  · exact prin_file h t.s t.r
  · split
    · exact prin_amend h t.s t.n t.a t.b
    · split
      · exact prin_pay h t.n t.a
      · split
        · exact prin_reverse h t.n
        · split
          · exact prin_offset h t.a
          · split
            · exact prin_refund t.a
            · exact prin_advance h t.n
end Go.Proofs.YtbjjgnaojoaoiaaGreat
/- What is saved of an account, in plain words. -/
namespace Go.Proofs.YtbjjgnaojoaoiaaGreat
set_option linter.unusedVariables false
set_option linter.unusedSimpArgs false

/-- What is saved of a period, of an item, of a payment, of an account. -/
def perN (p : Per) : List Int := [p.ret.per, p.ret.due, p.ret.filed, p.ret.inc, p.ret.wh, p.o0, p.o1, p.o2, p.since, p.done, p.acc]
def itN (x : Dq) : List Int := [x.due, x.kind, x.per, x.opn]
def revN (b : Bool) : Int := if b then 1 else 0
def pmN (m : Pm) : List Int := [m.id, m.day, m.amt, (m.parts.length : Int)] ++ m.parts.flatMap itN ++ [m.rest, revN m.rev]
def saveN (S : Ac) : List Int := [S.day, S.bp, S.cr, (S.ps.length : Int)] ++ S.ps.flatMap perN ++ [(S.ms.length : Int)] ++ S.ms.flatMap pmN
def saveB (S : Ac) : List Nat := numsB (saveN S)
theorem okN_of {n m : Int} (h : 0 ≤ n ∧ n ≤ m) (hm : m < 18446744073709551616) : okN n := ⟨h.1, by omega⟩
theorem perN_ok {day bp : Int} {p : Per} (h : PerOk day bp p) : ∀ n ∈ perN p, okN n := by
  obtain ⟨r1, r2, r3, r4, r5⟩ := retB_yes h.ret
  have d1 := dayB_yes r2
  have d2 := dayB_yes r3
  have d4 := mny_yes r4
  have d5 := mny_yes r5
  have d3 := h.since0; have b0 := h.b0; have b1 := h.b1; have b2 := h.b2; have b3 := h.done; have b4 := h.acc
  intro n hn
  simp only [perN, List.mem_cons, List.not_mem_nil, or_false] at hn
  unfold okN
  rcases hn with rfl | rfl | rfl | rfl | rfl | rfl | rfl | rfl | rfl | rfl | rfl <;> omega
theorem okI_ok {x : Dq} (h : okI x = true) : ∀ n ∈ itN x, okN n := by
  have := okI_yes h
  intro n hn
  simp only [itN, List.mem_cons, List.not_mem_nil, or_false] at hn
  unfold okN
  rcases hn with rfl | rfl | rfl | rfl <;> omega
theorem part_okI {day bp : Int} {ps : List Per} {x : Dq} (hp : ∀ p ∈ ps, PerOk day bp p) (h : Placed ps x ∧ (∃ p ∈ ps, p.ret.per = x.per ∧ p.ret.due = x.due) ∧ 1 ≤ x.opn ∧ x.opn ≤ 4611686018427387904) : okI x = true := by
  obtain ⟨⟨_, hk⟩, ⟨p, hpp, e1, e2⟩, h3, h4⟩ := h
  have h5 := hp p hpp
  have h6 := h5.due
  have h7 := (retB_yes h5.ret).1
  unfold okI
  have : 0 ≤ x.due ∧ x.due ≤ 3652058 ∧ 0 ≤ x.kind ∧ x.kind ≤ 2 ∧ 1 ≤ x.per ∧ x.per ≤ 99999 ∧ 0 ≤ x.opn ∧ x.opn ≤ 4611686018427387904 := by
    refine ⟨by omega, by omega, ?_, ?_, by omega, by omega, by omega, h4⟩ <;> rcases hk with e | e | e <;> omega
  simpa using this
theorem pmN_ok {day bp : Int} {ps : List Per} {m : Pm} (hp : ∀ p ∈ ps, PerOk day bp p) (h : PmOk ps m) : ∀ n ∈ pmN m, okN n := by
  have h1 := h.id; have h2 := h.day; have h3 := h.amt; have h4 := h.len; have h5 := h.rest; have h6 := h.sum
  have h7 := opens_nn (l := m.parts) (fun x hx => by have := (h.placed x hx).2.2; omega)
  intro n hn
  unfold pmN at hn
  simp only [List.mem_append, List.mem_cons, List.not_mem_nil, or_false, List.mem_flatMap] at hn
  rcases hn with ((rfl | rfl | rfl | rfl) | ⟨x, hx, hn⟩) | (rfl | rfl)
  · unfold okN; omega
  · unfold okN; omega
  · unfold okN; omega
  · unfold okN; omega
  · exact okI_ok (part_okI hp (h.placed x hx)) n hn
  · unfold okN; omega
  · unfold okN revN; split <;> omega
theorem saveN_ok {S : Ac} (h : Good S) : ∀ n ∈ saveN S, okN n := by
  have h1 := h.day; have h2 := h.bp; have h3 := h.cr; have h4 := h.np; have h5 := h.nm
  intro n hn
  unfold saveN at hn
  simp only [List.mem_append, List.mem_cons, List.not_mem_nil, or_false, List.mem_flatMap] at hn
  rcases hn with (((rfl | rfl | rfl | rfl) | ⟨p, hp, hn⟩) | rfl) | ⟨m, hm, hn⟩
  · unfold okN; omega
  · unfold okN; omega
  · unfold okN; omega
  · unfold okN; omega
  · exact perN_ok (h.per p hp) n hn
  · unfold okN; omega
  · exact pmN_ok h.per (h.pm m hm) n hn
theorem flat_len_le {α β : Type} {f : α → List β} {k : Nat} : ∀ {l : List α}, (∀ x ∈ l, (f x).length ≤ k) → (l.flatMap f).length ≤ l.length * k
  | [], _ => by simp
  | x :: l, h => by
    have h1 := flat_len_le (l := l) fun y hy => h y (by simp [hy])
    have h2 := h x (by simp)
    rw [List.flatMap_cons, List.length_append, List.length_cons, Nat.succ_mul]; omega
theorem saveN_len {S : Ac} (h : Good S) : (saveN S).length ≤ 13000 := by
  have a := flat_len_le (f := perN) (k := 11) (l := S.ps) (fun p _ => by simp [perN])
  have b := flat_len_le (f := pmN) (k := 246) (l := S.ms) (fun m hm => by
    have := (h.pm m hm).len
    have c := flat_len_le (f := itN) (k := 4) (l := m.parts) (fun x _ => by simp [itN])
    unfold pmN
    simp only [List.length_append, List.length_cons, List.length_nil]
    omega)
  have h4 := h.np; have h5 := h.nm
  unfold saveN
  simp only [List.length_append, List.length_cons, List.length_nil]
  omega
/-- What was saved so far. -/
theorem pre_ok {S : Ac} (h : Good S) {P : List Int} (hp : ∃ R, P ++ R = saveN S) : (∀ n ∈ P, okN n) ∧ (numsB P).length ≤ 130000 := by
  obtain ⟨R, hR⟩ := hp
  have h1 : ∀ n ∈ P, okN n := fun n hn => saveN_ok h n (by rw [← hR]; simp [hn])
  refine ⟨h1, ?_⟩
  have h2 := numsB_len h1
  have h3 := saveN_len h
  have h4 : P.length ≤ (saveN S).length := by rw [← hR, List.length_append]; omega
  omega
def hdrN (S : Ac) : List Int := [S.day, S.bp, S.cr, (S.ps.length : Int)]
def pre1 (S : Ac) (k : Nat) : List Int := hdrN S ++ (S.ps.take k).flatMap perN
def pre2 (S : Ac) (k : Nat) : List Int := hdrN S ++ S.ps.flatMap perN ++ [(S.ms.length : Int)] ++ (S.ms.take k).flatMap pmN
def pmH (m : Pm) : List Int := [m.id, m.day, m.amt, (m.parts.length : Int)]
def pre3 (S : Ac) (k : Nat) (m : Pm) (j : Nat) : List Int := pre2 S k ++ pmH m ++ (m.parts.take j).flatMap itN
theorem pre1_ok {S : Ac} (k : Nat) : ∃ R, pre1 S k ++ R = saveN S := by
  refine ⟨(S.ps.drop k).flatMap perN ++ ([(S.ms.length : Int)] ++ S.ms.flatMap pmN), ?_⟩
  unfold pre1 saveN hdrN
  have : S.ps.flatMap perN = (S.ps.take k).flatMap perN ++ (S.ps.drop k).flatMap perN := by rw [← List.flatMap_append, List.take_append_drop]
  rw [this]; simp only [List.append_assoc]
theorem pre2_ok {S : Ac} (k : Nat) : ∃ R, pre2 S k ++ R = saveN S := by
  refine ⟨(S.ms.drop k).flatMap pmN, ?_⟩
  unfold pre2 saveN hdrN
  have : S.ms.flatMap pmN = (S.ms.take k).flatMap pmN ++ (S.ms.drop k).flatMap pmN := by rw [← List.flatMap_append, List.take_append_drop]
  rw [this]; simp only [List.append_assoc]
theorem pmN_eq (m : Pm) : pmN m = pmH m ++ m.parts.flatMap itN ++ [m.rest, revN m.rev] := rfl
theorem pre2_next {S : Ac} {k : Nat} (h : k < S.ms.length) : pre2 S (k + 1) = pre2 S k ++ pmN S.ms[k] := by
  unfold pre2
  rw [List.take_succ_eq_append_getElem h, List.flatMap_append]; simp
theorem pre1_next {S : Ac} {k : Nat} (h : k < S.ps.length) : pre1 S (k + 1) = pre1 S k ++ perN S.ps[k] := by
  unfold pre1
  rw [List.take_succ_eq_append_getElem h, List.flatMap_append]; simp
theorem pre3_ok {S : Ac} {k : Nat} (h : k < S.ms.length) (j : Nat) : ∃ R, pre3 S k S.ms[k] j ++ R = saveN S := by
  obtain ⟨R, hR⟩ := pre2_ok (S := S) (k + 1)
  refine ⟨(S.ms[k].parts.drop j).flatMap itN ++ [S.ms[k].rest, revN S.ms[k].rev] ++ R, ?_⟩
  rw [← hR, pre2_next h, pmN_eq]
  unfold pre3
  have : S.ms[k].parts.flatMap itN = (S.ms[k].parts.take j).flatMap itN ++ (S.ms[k].parts.drop j).flatMap itN := by rw [← List.flatMap_append, List.take_append_drop]
  rw [this]; simp only [List.append_assoc]
theorem pre3_next {S : Ac} {k j : Nat} {m : Pm} (h : j < m.parts.length) : pre3 S k m (j + 1) = pre3 S k m j ++ itN m.parts[j] := by
  unfold pre3
  rw [List.take_succ_eq_append_getElem h, List.flatMap_append]; simp
theorem pre3_last {S : Ac} {k : Nat} (h : k < S.ms.length) : pre3 S k S.ms[k] S.ms[k].parts.length ++ [S.ms[k].rest, revN S.ms[k].rev] = pre2 S (k + 1) := by
  rw [pre2_next h, pmN_eq]
  unfold pre3
  rw [List.take_length]; simp only [List.append_assoc]
theorem pre1_last (S : Ac) : pre1 S S.ps.length ++ [(S.ms.length : Int)] = pre2 S 0 := by
  unfold pre1 pre2
  rw [List.take_length]; simp
theorem pre2_last (S : Ac) : pre2 S S.ms.length = saveN S := by
  unfold pre2 saveN hdrN
  rw [List.take_length]
end Go.Proofs.YtbjjgnaojoaoiaaGreat
