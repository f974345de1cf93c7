/- Runs of lists, in plain words: what the heap holds, and what is left of each list. -/
import Derived.Test.YtfcemlcocdhmfaaHN
namespace Go.Proofs.Ytfcemlcocdhmfaa
set_option linter.unusedVariables false
set_option linter.unusedSimpArgs false

abbrev Lst := Value × List El
def recs (x : Lst) : List Rc := x.2.map El.r
def LL (ls : List Lst) : List (List Rc) := ls.map recs
def runOf (k : Nat) (x : Lst) : List Rn := match x.2 with
  | [] => []
  | q :: qs => [⟨x.1, q :: qs, k⟩]
theorem runOf_nil {k : Nat} {x : Lst} (h : x.2 = []) : runOf k x = [] := by unfold runOf; rw [h]
theorem runOf_one {k : Nat} {x : Lst} (h : x.2 ≠ []) : runOf k x = [⟨x.1, x.2, k⟩] := by
  unfold runOf
  cases e : x.2 with
  | nil => exact absurd e h
  | cons q qs => rfl
def runsOf : Nat → List Lst → List Rn
  | _, [] => []
  | k, x :: t => runOf k x ++ runsOf (k + 1) t
theorem runsOf_snoc (x : Lst) : ∀ (l : List Lst) (k : Nat), runsOf k (l ++ [x]) = runsOf k l ++ runOf (k + l.length) x
  | [], k => by simp [runsOf]
  | y :: l, k => by
    rw [List.cons_append, runsOf, runsOf, runsOf_snoc x l (k + 1), List.append_assoc, List.length_cons]
    rw [show k + 1 + l.length = k + (l.length + 1) by omega]
theorem runsOf_len : ∀ (l : List Lst) (k : Nat), (runsOf k l).length ≤ l.length
  | [], k => by simp [runsOf]
  | y :: l, k => by
    have := runsOf_len l (k + 1)
    have h1 : (runOf k y).length ≤ 1 := by unfold runOf; split <;> simp
    simp [runsOf]; omega
theorem runsOf_mem : ∀ (l : List Lst) (k : Nat) (r : Rn), r ∈ runsOf k l → ∃ j x, l[j]? = some x ∧ r = ⟨x.1, x.2, k + j⟩ ∧ x.2 ≠ []
  | [], k, r, h => by simp [runsOf] at h
  | y :: l, k, r, h => by
    rw [runsOf, List.mem_append] at h
    rcases h with h | h
    · by_cases e : y.2 = []
      · rw [runOf_nil e] at h; simp at h
      · rw [runOf_one e] at h
        exact ⟨0, y, rfl, by simpa using h, e⟩
    · obtain ⟨j, x, h1, h2, h3⟩ := runsOf_mem l (k + 1) r h
      exact ⟨j + 1, x, by simpa using h1, by rw [h2]; congr 1; omega, h3⟩
theorem runsOf_has : ∀ (l : List Lst) (k j : Nat) (x : Lst), l[j]? = some x → x.2 ≠ [] → (⟨x.1, x.2, k + j⟩ : Rn) ∈ runsOf k l
  | [], k, j, x, h, _ => by simp at h
  | y :: l, k, j, x, h, h0 => by
    rw [runsOf, List.mem_append]
    cases j with
    | zero => simp at h; subst h; left; rw [runOf_one h0]; simp
    | succ j =>
      right
      have := runsOf_has l (k + 1) j x (by simpa using h) h0
      rwa [show k + 1 + j = k + (j + 1) by omega] at this
theorem runsOf_nodup : ∀ (l : List Lst) (k : Nat), ((runsOf k l).map Rn.pl).Nodup ∧ ∀ p ∈ (runsOf k l).map Rn.pl, k ≤ p
  | [], k => by simp [runsOf]
  | y :: l, k => by
    obtain ⟨h1, h2⟩ := runsOf_nodup l (k + 1)
    by_cases e : y.2 = []
    · rw [runsOf, runOf_nil e, List.nil_append]
      exact ⟨h1, fun p hp => by have := h2 p hp; omega⟩
    · rw [runsOf, runOf_one e, List.singleton_append, List.map_cons, List.nodup_cons]
      refine ⟨⟨fun hp => by have := h2 _ hp; simp at this; omega, h1⟩, fun p hp => ?_⟩
      rcases List.mem_cons.1 hp with hp | hp
      · rw [hp]; exact Nat.le_refl _
      · have := h2 p hp; omega
theorem inO_srt : ∀ {l : List Rc}, inO l = true → Srt ord2 l
  | [], _ => List.Pairwise.nil
  | [a], _ => List.pairwise_singleton _ _
  | a :: b :: l, h => by
    rw [inO, Bool.and_eq_true, decide_eq_true_eq] at h
    have ih := inO_srt h.2
    refine List.Pairwise.cons (fun y hy => ?_) ih
    rcases List.mem_cons.1 hy with e | hy
    · rw [e]; exact h.1
    · exact toOrd.trans _ _ _ h.1 (List.rel_of_pairwise_cons ih hy)
theorem srt_inO : ∀ {l : List Rc}, Srt ord2 l → inO l = true
  | [], _ => rfl
  | [a], _ => rfl
  | a :: b :: l, h => by
    rw [inO, Bool.and_eq_true, decide_eq_true_eq]
    exact ⟨List.rel_of_pairwise_cons h List.mem_cons_self, srt_inO h.of_cons⟩
/-- What the heap holds is what is left. -/
structure Fits (rem : Nat → List Rc) (hs : List Rn) : Prop where
  nd : (hs.map Rn.pl).Nodup
  at_ : ∀ r ∈ hs, rem r.pl = r.els.map El.r
  all : ∀ p, rem p ≠ [] → ∃ r ∈ hs, r.pl = p
  ne : ∀ r ∈ hs, r.els ≠ []
theorem Fits.perm {rem : Nat → List Rc} {hs ks : List Rn} (h : Fits rem hs) (p : ks.Perm hs) : Fits rem ks :=
  ⟨(p.map Rn.pl).nodup_iff.2 h.nd, fun r hr => h.at_ r (p.mem_iff.1 hr), fun q hq => by obtain ⟨r, h1, h2⟩ := h.all q hq; exact ⟨r, p.mem_iff.2 h1, h2⟩, fun r hr => h.ne r (p.mem_iff.1 hr)⟩
theorem LL_at (ls : List Lst) (j : Nat) : (LL ls)[j]? = ls[j]?.map recs := by simp [LL]
theorem Fits.start (ls : List Lst) : Fits (fun p => (LL ls)[p]?.getD []) (runsOf 0 ls) := by
  refine ⟨(runsOf_nodup ls 0).1, fun r hr => ?_, fun p hp => ?_, fun r hr => ?_⟩
  · obtain ⟨j, x, h1, rfl, h3⟩ := runsOf_mem ls 0 r hr
    simp [LL_at, h1, recs]
  · rw [LL_at] at hp
    cases e : ls[p]? with
    | none => rw [e] at hp; simp at hp
    | some x =>
      rw [e] at hp
      have hx : x.2 ≠ [] := fun h => hp (by simp [recs, h])
      exact ⟨_, runsOf_has ls 0 p x e hx, by simp⟩
  · obtain ⟨j, x, h1, rfl, h3⟩ := runsOf_mem ls 0 r hr; exact h3
theorem Fits.gone {rem : Nat → List Rc} {r : Rn} {rs : List Rn} (h : Fits rem (r :: rs)) : Fits (upd rem r.pl []) rs := by
  have hnd := h.nd
  rw [List.map_cons, List.nodup_cons] at hnd
  refine ⟨hnd.2, fun q hq => ?_, fun p hp => ?_, fun q hq => h.ne q (List.mem_cons_of_mem _ hq)⟩
  · have : q.pl ≠ r.pl := fun e => hnd.1 (by rw [← e]; exact List.mem_map_of_mem hq)
    rw [upd_ne _ _ this]; exact h.at_ q (List.mem_cons_of_mem _ hq)
  · have hne : p ≠ r.pl := fun e => by rw [e, upd_at] at hp; exact hp rfl
    rw [upd_ne _ _ hne] at hp
    obtain ⟨q, h1, h2⟩ := h.all p hp
    rcases List.mem_cons.1 h1 with h1 | h1
    · subst h1; exact absurd h2.symm hne
    · exact ⟨q, h1, h2⟩
theorem Fits.less {rem : Nat → List Rc} {r : Rn} {rs : List Rn} {lv : Value} {qs : List El} (h : Fits rem (r :: rs)) (hq : qs ≠ []) : Fits (upd rem r.pl (qs.map El.r)) (⟨lv, qs, r.pl⟩ :: rs) := by
  have hnd := h.nd
  rw [List.map_cons, List.nodup_cons] at hnd
  refine ⟨by rw [List.map_cons, List.nodup_cons]; exact hnd, fun q hq' => ?_, fun p hp => ?_, fun q hq' => ?_⟩
  · rcases List.mem_cons.1 hq' with e | hq'
    · subst e; rw [upd_at]
    · have : q.pl ≠ r.pl := fun e => hnd.1 (by rw [← e]; exact List.mem_map_of_mem hq')
      rw [upd_ne _ _ this]; exact h.at_ q (List.mem_cons_of_mem _ hq')
  · by_cases hne : p = r.pl
    · exact ⟨_, List.mem_cons_self, hne.symm⟩
    · rw [upd_ne _ _ hne] at hp
      obtain ⟨q, h1, h2⟩ := h.all p hp
      rcases List.mem_cons.1 h1 with h1 | h1
      · subst h1; exact absurd h2.symm hne
      · exact ⟨q, List.mem_cons_of_mem _ h1, h2⟩
  · rcases List.mem_cons.1 hq' with e | hq'
    · subst e; exact hq
    · exact h.ne q (List.mem_cons_of_mem _ hq')
theorem hd_of {r : Rn} {q : El} {qs : List El} (h : r.els = q :: qs) : r.hd = q.r := by unfold Rn.hd; rw [h]; rfl
/-- The first one of a heap stands ahead of all others. -/
theorem top_min {rem : Nat → List Rc} {r : Rn} {rs : List Rn} (h : Fits rem (r :: rs)) (hp : Hp LessR (fn (r :: rs)) (rs.length + 1)) :
    ∀ p' y ys, rem p' = y :: ys → p' ≠ r.pl → ord2 r.hd y < 0 ∨ ord2 r.hd y = 0 ∧ r.pl < p' := by
  intro p' y ys hy hne
  obtain ⟨q, h1, h2⟩ := h.all p' (by rw [hy]; simp)
  rcases List.mem_cons.1 h1 with h1 | h1
  · subst h1; exact absurd h2.symm hne
  · obtain ⟨j, hj, e⟩ := List.getElem_of_mem h1
    have hm := Hp.min loLess hp (j + 1) (by omega) (by omega)
    have e1 : fn (r :: rs) (j + 1) = q := by unfold fn; simp [hj, e]
    have e0 : fn (r :: rs) 0 = r := rfl
    rw [e1, e0] at hm
    have hyq : q.hd = y := by
      have := h.at_ q (List.mem_cons_of_mem _ h1)
      rw [h2, hy] at this
      cases e : q.els with
      | nil => rw [e] at this; simp at this
      | cons z zs => rw [e] at this; simp at this; rw [hd_of e, this.1]
    rcases not_less q r hm with h3 | ⟨h3, h4⟩
    · rw [hyq] at h3; exact .inl h3
    · rw [hyq] at h3; exact .inr ⟨h3, by omega⟩
def many (hs : List Rn) : Nat := (hs.map fun r => r.els.length).sum
theorem many_perm {hs ks : List Rn} (h : ks.Perm hs) : many ks = many hs := (h.map _).sum_nat
theorem many_cons (r : Rn) (rs : List Rn) : many (r :: rs) = r.els.length + many rs := by simp [many]
end Go.Proofs.Ytfcemlcocdhmfaa
