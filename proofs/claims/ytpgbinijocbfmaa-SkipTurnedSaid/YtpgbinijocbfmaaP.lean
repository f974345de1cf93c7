/- A record goes into the skip list: what the rows are in between. -/
import Derived.Test.YtpgbinijocbfmaaN2
namespace Go.Proofs.Ytpgbinijocbfmaa
open Go.RowKit Go
set_option linter.unusedVariables false
set_option linter.unusedSimpArgs false

/-! plain lists -/
theorem split_order {α : Type} {a a2 : α} : ∀ {P S P2 S2 : List α}, P ++ a :: S = P2 ++ a2 :: S2 → (P = P2 ∧ a = a2 ∧ S = S2) ∨ a ∈ S2 ∨ a2 ∈ S
  | [], S, [], S2, e => by simp at e; exact .inl ⟨rfl, e.1, e.2⟩
  | [], S, p :: P2, S2, e => by simp at e; exact .inr (.inr (by rw [e.2]; simp))
  | p :: P, S, [], S2, e => by simp at e; exact .inr (.inl (by rw [← e.2]; simp))
  | p :: P, S, p2 :: P2, S2, e => by
    simp at e
    rcases split_order e.2 with ⟨h1, h2, h3⟩ | h | h
    · exact .inl ⟨by rw [e.1, h1], h2, h3⟩
    · exact .inr (.inl h)
    · exact .inr (.inr h)
theorem nodup_far {X P S : List Nd} {a x : Nd} (hn : (X.map Nd.nb).Nodup) (e : X = P ++ a :: S) (hx : x ∈ S) : x.nb ≠ a.nb := by
  rw [e, List.map_append, List.map_cons, List.nodup_append] at hn
  have := (List.nodup_cons.1 hn.2.1).1
  intro h
  exact this (List.mem_map.2 ⟨x, hx, h⟩)
theorem compare_swap : ∀ a b : List UInt8, Lib.compareBytes b a = - Lib.compareBytes a b
  | [], [] => rfl
  | [], _ :: _ => rfl
  | _ :: _, [] => rfl
  | x :: a, y :: b => by
    unfold Lib.compareBytes
    by_cases h1 : x < y
    · have h2 : ¬ y < x := fun h => UInt8.lt_asymm h1 h
      simp only [h1, h2, if_true, if_false]; rfl
    · by_cases h2 : y < x
      · simp only [h1, h2, if_true, if_false]
      · simp only [h1, h2, if_false]
        exact compare_swap a b
theorem ahd_of_not {b : Rc} {n : Rc} (h1 : ¬ ordS b n.key n.seq < 0) (h2 : ¬ ordS b n.key n.seq = 0) : ahd n b := by
  unfold ahd
  rw [ordS_lt] at h1 ⊢
  rw [ordS_eq] at h2
  have h3 := compare_swap b.key n.key
  by_cases hk : b.key = n.key
  · refine .inr ⟨hk.symm, ?_⟩
    have q1 : ¬ n.seq < b.seq := fun h => h1 (.inr ⟨hk, h⟩)
    have q2 : ¬ n.seq = b.seq := fun h => h2 ⟨hk, h⟩
    omega
  · refine .inl ?_
    have q1 : ¬ Lib.compareBytes b.key n.key < 0 := fun h => h1 (.inl h)
    have q2 : ¬ Lib.compareBytes b.key n.key = 0 := fun h => hk (compare_eq h)
    omega
theorem sorted_in {A B : List Nd} {n : Nd} (h : Sorted ((A ++ B).map Nd.r)) (hA : ∀ a ∈ A, ordS a.r n.r.key n.r.seq < 0) (hB : ∀ b ∈ B, ¬ ordS b.r n.r.key n.r.seq < 0) (hE : ∀ b ∈ B, ¬ ordS b.r n.r.key n.r.seq = 0) :
    Sorted ((A ++ n :: B).map Nd.r) := by
  unfold Sorted at h ⊢
  rw [List.map_append, List.pairwise_append] at h
  rw [List.map_append, List.map_cons, List.pairwise_append, List.pairwise_cons]
  refine ⟨h.1, ⟨fun b hb => ?_, h.2.1⟩, fun a ha b hb => ?_⟩
  · obtain ⟨b', hb', rfl⟩ := List.mem_map.1 hb
    exact ahd_of_not (hB b' hb') (hE b' hb')
  · rcases List.mem_cons.1 hb with rfl | hb
    · obtain ⟨a', ha', rfl⟩ := List.mem_map.1 ha
      exact hA a' ha'
    · exact h.2.2 a ha b hb
/-- Behind the first one that is not the same, none is. -/
theorem none_same {b : Nd} {B : List Nd} {k : List UInt8} {s : Int} (h : Sorted ((b :: B).map Nd.r)) (h1 : ¬ ordS b.r k s < 0) (h2 : ¬ ordS b.r k s = 0) : ∀ x ∈ b :: B, ¬ ordS x.r k s = 0 := by
  intro x hx he
  rcases List.mem_cons.1 hx with rfl | hx
  · exact h2 he
  · unfold Sorted at h
    rw [List.map_cons, List.pairwise_cons] at h
    have h3 := h.1 x.r (List.mem_map_of_mem hx)
    rw [ordS_eq] at he
    unfold ahd at h3
    rw [he.1, ← he.2] at h3
    exact h1 h3

/-- Only blocks of U, and new ones, have turned. -/
structure Chg (w : World) (U : Nat → Prop) (w' : World) : Prop where
  os : w'.os = w.os
  tape : w'.tape = w.tape
  output : w'.output = w.output
  size : w.heap.size ≤ w'.heap.size
  block : ∀ b, b < w.heap.size → ¬ U b → w'.heap[b]? = w.heap[b]?
theorem Chg.of_below {w w' : World} {U : Nat → Prop} (h : Below w.heap.size w w') : Chg w U w' := ⟨h.os, h.tape, h.output, h.size, fun b hb _ => h.block b hb⟩
theorem Chg.below {w w' w2 : World} {U : Nat → Prop} (h : Chg w U w') (hb : Below w'.heap.size w' w2) : Chg w U w2 :=
  ⟨hb.os.trans h.os, hb.tape.trans h.tape, hb.output.trans h.output, Nat.le_trans h.size hb.size, fun b hb' hU => (hb.block b (Nat.lt_of_lt_of_le hb' h.size)).trans (h.block b hb' hU)⟩
theorem Chg.setCell {w w' : World} {U : Nat → Prop} (h : Chg w U w') {p : Addr} (hp : U p.block ∨ w.heap.size ≤ p.block) (v : Value) : Chg w U (w'.setCell p v) :=
  ⟨h.os, h.tape, h.output, by simpa using h.size, fun b hb hU => (Below.heap_setCell _ _ _ _ (by
    rintro rfl
    rcases hp with hp | hp
    · exact hU hp
    · omega)).trans (h.block b hb hU)⟩
theorem Chg.drew {w w' : World} {U : Nat → Prop} (h : Chg w U w') : Chg w U w'.drew := ⟨h.os, h.tape, h.output, h.size, h.block⟩
theorem Chg.to_below {B : Nat} {w0 w w' : World} {U : Nat → Prop} (h0 : Below B w0 w) (h : Chg w U w') (hU : ∀ b, U b → B ≤ b) (hB : B ≤ w0.heap.size) : Below B w0 w' :=
  ⟨h.os.trans h0.os, h.tape.trans h0.tape, h.output.trans h0.output, Nat.le_trans h0.size h.size, fun b hb => (h.block b (Nat.lt_of_lt_of_le (Nat.lt_of_lt_of_le hb hB) h0.size) (fun hu => by have := hU b hu; omega)).trans (h0.block b hb)⟩

/-- A node stays over a store to a row. -/
theorem NodeIs.far {w : World} {U : Nat → Prop} {x : Nd} (h : NodeIs w U x) {g : Nat} {cs : Array Value} {t : TypeId} (hg : w.heap[g]? = some (.cells cs t (0, 0))) (h1 : 52 ≠ t) (h2 : 5 ≠ t) (i : Nat) (v : Value) : NodeIs (w.setCell ⟨g, i, none⟩ v) U x := by
  obtain ⟨n1, n2, n3, n4⟩ := h
  refine ⟨blk_far n1 (ne_of_type n1 hg h1) _, n2.keepT (fun b cs _ hb => Below.heap_setCell _ _ _ _ (ne_of_type hb hg h2)), n3.keepT (fun b cs _ hb => Below.heap_setCell _ _ _ _ (ne_of_type hb hg h2)), n4⟩

/-- While a node is linked: its lowest k levels are. -/
structure Ld (w wr : World) (U V : Nat → Prop) (L : Nd) (A B : List Nd) (n : Nd) (high k : Nat) : Prop where
  rowsA : ∀ P a S, L :: A = P ++ a :: S → RowIs wr a (fun l => if l < k then hd l (S ++ n :: B) else hd l (S ++ B))
  rowsB : ∀ P b S, B = P ++ b :: S → RowIs wr b (fun l => hd l S)
  rowN : RowIs wr n (fun l => if l < k then hd l B else .pointer none)
  nodes : ∀ x ∈ n :: (A ++ B), NodeIs wr V x
  head : HeadIs wr L high (A ++ B).length (sizeS ((A ++ B).map Nd.r))
  chg : Chg w U wr

theorem Ld.step {w wr : World} {U V : Nat → Prop} {L : Nd} {A B : List Nd} {n : Nd} {high k : Nat} (h : Ld w wr U V L A B n high k) (hk : k < n.h) (hL : n.h ≤ L.h) (hU : ∀ a ∈ L :: A, U a.nb) (hn : w.heap.size ≤ n.nb)
    (hd' : ((L :: (A ++ n :: B)).map Nd.nb).Nodup) : Ld w ((wr.setCell ⟨n.nb, k, none⟩ (hd k B)).setCell ⟨(lastOn k L A).nb, k, none⟩ (ptr n.g)) U V L A B n high (k + 1) := by
  obtain ⟨P, S, e, h1, h2⟩ := lastOn_parts k L A (by omega)
  generalize lastOn k L A = a at *
  have hall : L :: (A ++ n :: B) = P ++ a :: (S ++ n :: B) := by rw [← List.cons_append, e]; simp
  have hna : n.nb ≠ a.nb := nodup_far hd' hall (by simp)
  have ra := h.rowsA P a S e
  have ra1 := blk_far ra (p := ⟨n.nb, k, none⟩) hna.symm (hd k B)
  have rn1 := blk_set h.rowN k (hd k B)
  refine ⟨?_, ?_, ?_, ?_, ?_, ?_⟩
  · intro P2 a2 S2 e2
    have r2 := h.rowsA P2 a2 S2 e2
    have hall2 : L :: (A ++ n :: B) = P2 ++ a2 :: (S2 ++ n :: B) := by rw [← List.cons_append, e2]; simp
    have hna2 : n.nb ≠ a2.nb := nodup_far hd' hall2 (by simp)
    have r21 := blk_far r2 (p := ⟨n.nb, k, none⟩) hna2.symm (hd k B)
    rcases split_order (e.symm.trans e2) with ⟨rfl, rfl, rfl⟩ | hm | hm
    · have r3 := blk_set r21 k (ptr n.g)
      unfold RowIs
      rw [r3, rowF_set _ (fun l => if l < k + 1 then hd l (S ++ n :: B) else hd l (S ++ B))]
      · intro l hl hne
        by_cases hlt : l < k
        · simp only [hlt, if_true]; rw [if_pos (by omega)]
        · simp only [hlt, if_false]; rw [if_neg (by omega)]
      · intro _
        simp only [show k < k + 1 by omega, if_true]
        rw [hd_skip _ h2, hd_at _ hk]
    · have hne : a.nb ≠ a2.nb := nodup_far hd' hall2 (by simp [hm])
      have r3 := blk_far r21 (p := ⟨a.nb, k, none⟩) hne.symm (ptr n.g)
      unfold RowIs
      rw [r3, rowF_congr _ (fun l => if l < k + 1 then hd l (S2 ++ n :: B) else hd l (S2 ++ B))]
      intro l hl
      by_cases hlt : l < k
      · simp only [hlt, if_true]; rw [if_pos (by omega)]
      · by_cases hle : l = k
        · subst hle
          simp only [hlt, if_false]; rw [if_pos (by omega)]
          exact hd_first _ _ hm h1
        · simp only [hlt, if_false]; rw [if_neg (by omega)]
    · have hne : a2.nb ≠ a.nb := nodup_far hd' hall (by simp [hm])
      have r3 := blk_far r21 (p := ⟨a.nb, k, none⟩) hne (ptr n.g)
      unfold RowIs
      rw [r3, rowF_congr _ (fun l => if l < k + 1 then hd l (S2 ++ n :: B) else hd l (S2 ++ B))]
      intro l hl
      have := h2 a2 hm
      by_cases hlt : l < k
      · simp only [hlt, if_true]; rw [if_pos (by omega)]
      · omega
  · intro P2 b S2 e2
    have r2 := h.rowsB P2 b S2 e2
    have hbB : b ∈ B := by rw [e2]; simp
    have hnb : b.nb ≠ n.nb := nodup_far hd' (show L :: (A ++ n :: B) = (L :: A) ++ n :: B by simp) hbB
    have hab : b.nb ≠ a.nb := nodup_far hd' hall (by simp [hbB])
    exact blk_far (blk_far r2 (p := ⟨n.nb, k, none⟩) hnb _) (p := ⟨a.nb, k, none⟩) hab _
  · have r3 := blk_far rn1 (p := ⟨a.nb, k, none⟩) hna (ptr n.g)
    unfold RowIs
    rw [r3, rowF_set _ (fun l => if l < k + 1 then hd l B else .pointer none)]
    · intro l hl hne
      by_cases hlt : l < k
      · simp only [hlt, if_true]; rw [if_pos (by omega)]
      · simp only [hlt, if_false]; rw [if_neg (by omega)]
    · intro _
      simp only [show k < k + 1 by omega, if_true]
  · intro x hx
    exact ((h.nodes x hx).far h.rowN (by decide) (by decide) _ _).far ra1 (by decide) (by decide) _ _
  · exact blk_far (blk_far h.head (p := ⟨n.nb, k, none⟩) (show L.g ≠ n.nb from ne_of_type h.head h.rowN (by decide)) _) (p := ⟨a.nb, k, none⟩) (show L.g ≠ a.nb from ne_of_type h.head ra (by decide)) _
  · exact (h.chg.setCell (.inr hn) _).setCell (.inl (hU a (by rw [e]; simp))) _
end Go.Proofs.Ytpgbinijocbfmaa
