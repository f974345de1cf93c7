/- Put, New: the walks. -/
import Derived.Test.YtpgbinijocbfmaaP
import Derived.Deep.CutBlock
import Derived.Laws.MakeOwn
import Derived.BigRegion
import Derived.Deep.OwnRows
namespace Go.Proofs.Ytpgbinijocbfmaa
open Go.RowKit Go
set_option linter.unusedVariables false
set_option linter.unusedSimpArgs false

theorem np_info : (Try.prog.info? 56).map (fun i => (i.zero, i.size, i.bytes)) = some (some (.pointer none), 1, 8) := by kernel_rfl
theorem sz12 (F : Nat → Value) : (Try.prog.info? 57).map (·.size) = some (rowF F 12).size := by rw [rowF_size]; kernel_rfl
theorem hd_ptr (l : Nat) : ∀ X : List Nd, ∃ p, hd l X = .pointer p
  | [] => ⟨none, rfl⟩
  | x :: X => by
    unfold hd; split
    · exact ⟨_, rfl⟩
    · exact hd_ptr l X
/-- What a list is behind a record that is put in: the code; the records; the greatest number of levels. -/
def putS (rs : List Rc) (high : Nat) (r : Rc) (draw : Int) : Int × List Rc × Nat :=
  if rightN r.key.length r.seq r.del r.val.length then
    (if (rs.dropWhile fun x => decide (ordS x r.key r.seq < 0)).head?.any (fun x => decide (ordS x r.key r.seq = 0)) then (5, rs, high)
     else (0, (rs.takeWhile fun x => decide (ordS x r.key r.seq < 0)) ++ r :: (rs.dropWhile fun x => decide (ordS x r.key r.seq < 0)), max high (levS draw)))
  else (1, rs, high)

theorem putS_parts {A B : List Nd} {k : List UInt8} {s : Int} (hA : ∀ a ∈ A, ordS a.r k s < 0) (hB : ∀ b ∈ B, 0 ≤ ordS b.r k s) :
    (((A ++ B).map Nd.r).takeWhile fun x => decide (ordS x k s < 0)) = A.map Nd.r ∧ (((A ++ B).map Nd.r).dropWhile fun x => decide (ordS x k s < 0)) = B.map Nd.r := by
  have h1 : (B.map Nd.r).takeWhile (fun x => decide (ordS x k s < 0)) = [] ∧ (B.map Nd.r).dropWhile (fun x => decide (ordS x k s < 0)) = B.map Nd.r := by
    rcases B with _ | ⟨b, B⟩
    · exact ⟨rfl, rfl⟩
    · have := hB b (by simp)
      have h : decide (ordS b.r k s < 0) = false := by simpa using this
      simp [List.takeWhile_cons, List.dropWhile_cons, h]
  have h2 : ∀ x ∈ A.map Nd.r, (fun x => decide (ordS x k s < 0)) x = true := by
    intro x hx
    obtain ⟨a, ha, rfl⟩ := List.mem_map.1 hx
    simpa using hA a ha
  rw [List.map_append]
  rw [List.takeWhile_append_of_pos h2, List.dropWhile_append_of_pos h2, h1.1, h1.2, List.append_nil]
  exact ⟨rfl, rfl⟩
theorem head_any (B : List Nd) (p : Rc → Bool) : (B.map Nd.r).head?.any p = B.head?.any (fun b => p b.r) := by cases B <;> rfl
theorem putS_there {A B : List Nd} {high : Nat} {r : Rc} {draw : Int} (hR : rightN r.key.length r.seq r.del r.val.length = true) (hA : ∀ a ∈ A, ordS a.r r.key r.seq < 0) (hB : ∀ b ∈ B, 0 ≤ ordS b.r r.key r.seq) (hX : B.head?.any (fun b => decide (ordS b.r r.key r.seq = 0)) = true) :
    putS ((A ++ B).map Nd.r) high r draw = (5, (A ++ B).map Nd.r, high) := by
  obtain ⟨h1, h2⟩ := putS_parts hA hB
  unfold putS
  rw [if_pos hR, h1, h2, head_any, if_pos hX]
theorem putS_new {A B : List Nd} {high : Nat} {r : Rc} {draw : Int} (hR : rightN r.key.length r.seq r.del r.val.length = true) (hA : ∀ a ∈ A, ordS a.r r.key r.seq < 0) (hB : ∀ b ∈ B, 0 ≤ ordS b.r r.key r.seq) (hX : B.head?.any (fun b => decide (ordS b.r r.key r.seq = 0)) = false) {n : Nd} (hn : n.r = r) :
    putS ((A ++ B).map Nd.r) high r draw = (0, (A ++ n :: B).map Nd.r, max high (levS draw)) := by
  obtain ⟨h1, h2⟩ := putS_parts hA hB
  unfold putS
  rw [if_pos hR, h1, h2, head_any, hX, if_neg (by simp), List.map_append, List.map_cons, hn]
theorem made_rowF (h : Nat) : madeCells #[.pointer none] h = rowF (fun _ => .pointer none) h := by
  apply Array.ext
  · simp [madeCells, rowF]
  · intro i h1 h2
    simp [madeCells, rowF, Nat.mod_one]
theorem Sk.wider {w : World} {U V : Nat → Prop} {L : Nd} {ns : List Nd} {high : Nat} (h : Sk w U L ns high) (hk : ∀ b, U b → V b) (hV : ∀ b, V b → b < w.heap.size) : Sk w V L ns high where
  lt := hV
  inU n hn := ⟨hk _ (h.inU n hn).1, hk _ (h.inU n hn).2⟩
  nodup := h.nodup
  head := h.head
  hh := h.hh
  node n hn := ⟨(h.node n hn).1, (h.node n hn).2.1.wider hk, (h.node n hn).2.2.1.wider hk, (h.node n hn).2.2.2⟩
  rows := h.rows
  sorted := h.sorted

theorem NodeIs.below {w w' : World} {U V : Nat → Prop} {x : Nd} (h : NodeIs w U x) (hb : Below w.heap.size w w') (hU : ∀ b, U b → b < w.heap.size) (hV : ∀ b, U b → V b) : NodeIs w' V x :=
  ⟨blk_below h.1 hb (blk_lt h.1), (h.2.1.keep fun b hb' => hb.block b (hU b hb')).wider hV, (h.2.2.1.keep fun b hb' => hb.block b (hU b hb')).wider hV, h.2.2.2⟩
theorem no_same {A B : List Nd} {k : List UInt8} {s : Int} (h : Sorted ((A ++ B).map Nd.r)) (hB : ∀ b ∈ B, 0 ≤ ordS b.r k s) (hX : B.head?.any (fun b => decide (ordS b.r k s = 0)) = false) : ∀ b ∈ B, ¬ ordS b.r k s = 0 := by
  rcases B with _ | ⟨b, B⟩
  · simp
  · unfold Sorted at h
    rw [List.map_append, List.pairwise_append] at h
    exact none_same h.2.1 (Int.not_lt.2 (hB b (by simp))) (by simpa using hX)
/-- Blocks of the list, and those from one number to another one. -/
def Or (U : Nat → Prop) (B N : Nat) (b : Nat) : Prop := U b ∨ (B ≤ b ∧ b < N)
theorem ld_start {w wc w6 : World} {U : Nat → Prop} {L : Nd} {A B : List Nd} {high h : Nat} {r : Rc} {A5 A6 : Option Addr} {c5 c6 : Nat} (HS : Sk wc U L (A ++ B) high) (HB : Below w.heap.size w wc)
    (hm1 : Mine wc.heap.size w6 (.slice A5 r.key.length c5) r.key) (hm2 : Mine wc.heap.size w6 (.slice A6 r.val.length c6) r.val) (hw : Below wc.heap.size wc w6) (hl : 1 ≤ h ∧ h ≤ 12) :
    Ld w ((w6.alloc (.cells (rowF (fun _ => .pointer none) h) 56)).alloc (.cells #[.slice A5 r.key.length c5, .int .i64 r.seq, .bool r.del, .slice A6 r.val.length c6, .slice (some ⟨w6.heap.size, 0, none⟩) h h] 52)) U (Or U w.heap.size (w6.heap.size + 2)) L A B ⟨w6.heap.size + 1, w6.heap.size, h, .slice A5 r.key.length c5, .slice A6 r.val.length c6, r⟩ high 0 ∧
      ((L :: (A ++ (⟨w6.heap.size + 1, w6.heap.size, h, .slice A5 r.key.length c5, .slice A6 r.val.length c6, r⟩ : Nd) :: B)).map Nd.nb).Nodup := by
  have s1 := HB.size
  have s2 := hw.size
  have b2 : Below w6.heap.size w6 ((w6.alloc (.cells (rowF (fun _ => .pointer none) h) 56)).alloc (.cells #[.slice A5 r.key.length c5, .int .i64 r.seq, .bool r.del, .slice A6 r.val.length c6, .slice (some ⟨w6.heap.size, 0, none⟩) h h] 52)) :=
    ((Below.refl _ _).alloc (Nat.le_refl _) _).alloc (by simp) _
  have f1 : ((w6.alloc (.cells (rowF (fun _ => .pointer none) h) 56)).alloc (.cells #[.slice A5 r.key.length c5, .int .i64 r.seq, .bool r.del, .slice A6 r.val.length c6, .slice (some ⟨w6.heap.size, 0, none⟩) h h] 52)).heap[w6.heap.size]? = some (.cells (rowF (fun _ => .pointer none) h) 56 (0, 0)) := heap_alloc2_old _ _ _
  have f2 : ((w6.alloc (.cells (rowF (fun _ => .pointer none) h) 56)).alloc (.cells #[.slice A5 r.key.length c5, .int .i64 r.seq, .bool r.del, .slice A6 r.val.length c6, .slice (some ⟨w6.heap.size, 0, none⟩) h h] 52)).heap[w6.heap.size + 1]? = some (.cells #[.slice A5 r.key.length c5, .int .i64 r.seq, .bool r.del, .slice A6 r.val.length c6, .slice (some ⟨w6.heap.size, 0, none⟩) h h] 52 (0, 0)) := heap_alloc2_new _ _ _
  generalize ((w6.alloc (.cells (rowF (fun _ => .pointer none) h) 56)).alloc (.cells #[.slice A5 r.key.length c5, .int .i64 r.seq, .bool r.del, .slice A6 r.val.length c6, .slice (some ⟨w6.heap.size, 0, none⟩) h h] 52)) = W at *
  have hb : Below wc.heap.size wc W := hw.trans (b2.mono s2)
  have hor : ∀ b, U b → Or U w.heap.size (w6.heap.size + 2) b := fun b hb => .inl hb
  refine ⟨⟨?_, ?_, ?_, ?_, ?_, ?_⟩, ?_⟩
  · intro P a S e
    have r1 := blk_below (HS.rows P a (S ++ B) (by rw [← List.cons_append, e]; simp)) hb (blk_lt (HS.rows P a (S ++ B) (by rw [← List.cons_append, e]; simp)))
    unfold RowIs
    rw [r1, rowF_congr]
    intro l _
    rw [if_neg (by omega)]
  · intro P b S e
    have e2 : L :: (A ++ B) = (L :: A ++ P) ++ b :: S := by rw [e]; simp
    exact blk_below (HS.rows _ b S e2) hb (blk_lt (HS.rows _ b S e2))
  · unfold RowIs
    rw [f1, rowF_congr]
    intro l _
    rw [if_neg (by omega)]
  · intro x hx
    rcases List.mem_cons.1 hx with rfl | hx
    · refine ⟨f2, ?_, ?_, hl⟩
      · exact (hm1.1.keep fun b hb' => b2.block b hb'.2).wider fun b hb' => .inr ⟨by have := hb'.1; omega, by have := hb'.2; omega⟩
      · exact (hm2.1.keep fun b hb' => b2.block b hb'.2).wider fun b hb' => .inr ⟨by have := hb'.1; omega, by have := hb'.2; omega⟩
    · exact (HS.node x hx).below hb HS.lt hor
  · exact blk_below HS.head hb (blk_lt HS.head)
  · exact Chg.of_below (HB.trans (hb.mono s1))
  · have hp : (L :: (A ++ (⟨w6.heap.size + 1, w6.heap.size, h, .slice A5 r.key.length c5, .slice A6 r.val.length c6, r⟩ : Nd) :: B)).Perm ((⟨w6.heap.size + 1, w6.heap.size, h, .slice A5 r.key.length c5, .slice A6 r.val.length c6, r⟩ : Nd) :: (L :: (A ++ B))) := by
      rw [← List.cons_append, ← List.cons_append]
      exact List.perm_middle
    rw [(hp.map Nd.nb).nodup_iff, List.map_cons, List.nodup_cons]
    refine ⟨fun hm => ?_, HS.nodup⟩
    obtain ⟨x, hx, e⟩ := List.mem_map.1 hm
    have := HS.lt _ (HS.inU x hx).2
    simp only at e
    omega
theorem Ld.lead {w wr : World} {U V : Nat → Prop} {L : Nd} {A B : List Nd} {n : Nd} {high k : Nat} (h : Ld w wr U V L A B n high k) (hh : L.h = 12) {a : Nd} (ha : a ∈ L :: A) : wr.cell? ⟨a.g, 4, none⟩ = some (.slice (some ⟨a.nb, 0, none⟩) a.h a.h) := by
  rcases List.mem_cons.1 ha with rfl | ha
  · rw [(cells8 h.head).2.2.2.2.1, hh]
  · exact (cells5 (h.nodes a (by simp [ha])).1).2.2.2.2.1

theorem Ld.drew {w wr : World} {U V : Nat → Prop} {L : Nd} {A B : List Nd} {n : Nd} {high k : Nat} (h : Ld w wr U V L A B n high k) : Ld w wr.drew U V L A B n high k :=
  ⟨h.rowsA, h.rowsB, h.rowN, h.nodes, h.head, h.chg.drew⟩
theorem ld_end {w wr : World} {U : Nat → Prop} {B0 N : Nat} {L : Nd} {A B : List Nd} {n : Nd} {high high' : Nat} (h : Ld w wr U (Or U B0 N) L A B n high n.h) (hh : L.h = 12) (hU : ∀ x ∈ L :: (A ++ B), U x.g ∧ U x.nb)
    (hnd : ((L :: (A ++ n :: B)).map Nd.nb).Nodup) (hn : B0 ≤ n.g ∧ n.g < N ∧ B0 ≤ n.nb ∧ n.nb < N) (hN : wr.heap.size = N) (hU2 : ∀ b, U b → b < N) (hs : Sorted ((A ++ n :: B).map Nd.r)) :
    Sk (((wr.setCell ⟨L.g, 5, none⟩ (.int .i64 (high' : Nat))).setCell ⟨L.g, 6, none⟩ (.int .i64 ((A ++ n :: B).length : Nat))).setCell ⟨L.g, 7, none⟩ (.int .i64 (sizeS ((A ++ n :: B).map Nd.r) : Nat))) (Or U B0 N) L (A ++ n :: B) high' := by
  have far : ∀ b, b ≠ L.g → (((wr.setCell ⟨L.g, 5, none⟩ (.int .i64 (high' : Nat))).setCell ⟨L.g, 6, none⟩ (.int .i64 ((A ++ n :: B).length : Nat))).setCell ⟨L.g, 7, none⟩ (.int .i64 (sizeS ((A ++ n :: B).map Nd.r) : Nat))).heap[b]? = wr.heap[b]? := fun b hb => by
    rw [Below.heap_setCell _ _ _ _ hb, Below.heap_setCell _ _ _ _ hb, Below.heap_setCell _ _ _ _ hb]
  have hd' := blk_set (blk_set (blk_set h.head 5 (.int .i64 (high' : Nat))) 6 (.int .i64 ((A ++ n :: B).length : Nat))) 7 (.int .i64 (sizeS ((A ++ n :: B).map Nd.r) : Nat))
  have sz : (((wr.setCell ⟨L.g, 5, none⟩ (.int .i64 (high' : Nat))).setCell ⟨L.g, 6, none⟩ (.int .i64 ((A ++ n :: B).length : Nat))).setCell ⟨L.g, 7, none⟩ (.int .i64 (sizeS ((A ++ n :: B).map Nd.r) : Nat))).heap.size = N := by simpa using hN
  generalize ((wr.setCell ⟨L.g, 5, none⟩ (.int .i64 (high' : Nat))).setCell ⟨L.g, 6, none⟩ (.int .i64 ((A ++ n :: B).length : Nat))).setCell ⟨L.g, 7, none⟩ (.int .i64 (sizeS ((A ++ n :: B).map Nd.r) : Nat)) = w' at *
  have row : ∀ {x : Nd} {F : Nat → Value}, RowIs wr x F → RowIs w' x F := fun {x F} hx => (far _ (ne_of_type hx h.head (by decide))).trans hx
  refine ⟨fun b hb => ?_, ?_, hnd, hd', hh, ?_, ?_, hs⟩
  · rw [sz]
    rcases hb with hb | hb
    · exact hU2 b hb
    · exact hb.2
  · intro x hx
    have : x = n ∨ x ∈ L :: (A ++ B) := by
      simp only [List.mem_cons, List.mem_append] at hx ⊢
      rcases hx with h | h | h | h
      · exact .inr (.inl h)
      · exact .inr (.inr (.inl h))
      · exact .inl h
      · exact .inr (.inr (.inr h))
    rcases this with rfl | hx
    · exact ⟨.inr ⟨hn.1, hn.2.1⟩, .inr ⟨hn.2.2.1, hn.2.2.2⟩⟩
    · exact ⟨.inl (hU x hx).1, .inl (hU x hx).2⟩
  · intro x hx
    have hx' : x ∈ n :: (A ++ B) := by
      simp only [List.mem_cons, List.mem_append] at hx ⊢
      rcases hx with h | h | h
      · exact .inr (.inl h)
      · exact .inl h
      · exact .inr (.inr h)
    obtain ⟨n1, n2, n3, n4⟩ := h.nodes x hx'
    refine ⟨(far _ (ne_of_type n1 h.head (by decide))).trans n1, n2.keepT fun b cs _ hb => far _ (ne_of_type hb h.head (by decide)), n3.keepT fun b cs _ hb => far _ (ne_of_type hb h.head (by decide)), n4⟩
  · intro P x S e
    rcases split_order (show (L :: A) ++ n :: B = P ++ x :: S by rw [← e]; simp) with ⟨rfl, rfl, rfl⟩ | hm | hm
    · have r1 := row h.rowN
      unfold RowIs at r1 ⊢
      rw [r1, rowF_congr]
      intro l hl
      rw [if_pos hl]
    · obtain ⟨S1, S2, rfl⟩ := List.append_of_mem hm
      have e3 : L :: A = P ++ x :: S1 ∧ B = S2 := by
        have e4 : (L :: A) ++ n :: B = (P ++ x :: S1) ++ n :: S2 := by rw [List.append_assoc]; exact e
        rcases split_order e4 with ⟨h1, _, h3⟩ | hm2 | hm2
        · exact ⟨h1, h3⟩
        · exact absurd rfl (nodup_far hnd (show L :: (A ++ n :: B) = (P ++ x :: S1) ++ n :: S2 by rw [← e4]; simp) hm2)
        · exact absurd rfl (nodup_far hnd (show L :: (A ++ n :: B) = (L :: A) ++ n :: B by simp) hm2)
      obtain ⟨e3, rfl⟩ := e3
      have r1 := row (h.rowsA P x S1 e3)
      unfold RowIs at r1 ⊢
      rw [r1, rowF_congr]
      intro l hl
      by_cases hlt : l < n.h
      · simp only [hlt, if_true]
      · simp only [hlt, if_false]
        have e5 : ∀ X : List Nd, hd l (X ++ n :: B) = hd l (X ++ B) := fun X => by
          induction X with
          | nil => exact hd_one _ hlt
          | cons y X ih => show (if l < y.h then _ else hd l (X ++ n :: B)) = (if l < y.h then _ else hd l (X ++ B)); rw [ih]
        exact (e5 S1).symm
    · obtain ⟨S1, S2, rfl⟩ := List.append_of_mem hm
      have e4 : (P : List Nd) ++ x :: S = ((L :: A) ++ n :: S1) ++ x :: S2 := by rw [← e]; simp
      rcases split_order e4 with ⟨h1, _, h3⟩ | hm2 | hm2
      · have r1 := row (h.rowsB S1 x S2 rfl)
        rw [h3]; exact r1
      · exact absurd rfl (nodup_far hnd (show L :: (A ++ n :: (S1 ++ x :: S2)) = ((L :: A) ++ n :: S1) ++ x :: S2 by simp) hm2)
      · exact absurd rfl (nodup_far hnd (show L :: (A ++ n :: (S1 ++ x :: S2)) = P ++ x :: S from e) hm2)

set_option maxHeartbeats 3200000 in
set_option maxRecDepth 100000 in
theorem put_any (U : Nat → Prop) (L : Nd) (ns : List Nd) (high : Nat) (kv vv : Value) (r : Rc) (draw : Int) (w : World) (h : Sk w U L ns high) (hk : Bs w w.heap.size kv r.key) (hv : Bs w w.heap.size vv r.val)
    (hd0 : -9223372036854775808 ≤ draw ∧ draw ≤ 9223372036854775807) (hn : ns.length ≤ 1099511627776) (hsz : sizeS (ns.map Nd.r) ≤ 1099511627776) (hh : high ≤ 12) :
    Calls Try.prog 10 #[ptr L.g, .agg #[kv, .int .i64 r.seq, .bool r.del, vv], .int .i64 draw] w fun e w' =>
      ∃ c ns' high', e = .returned (.int .i64 c) ∧ putS (ns.map Nd.r) high r draw = (c, ns'.map Nd.r, high') ∧ Sk w' (fun b => U b ∨ New w.heap.size w' b) L ns' high' ∧ Chg w U w' := by
  obtain ⟨Ak, ck, rfl, hrk⟩ := hk
  obtain ⟨Av, cv, rfl, hrv⟩ := hv
  obtain ⟨A, B, rfl, hA, hB⟩ := sorted_split r.key r.seq ns h.sorted
  cases hR : rightN r.key.length r.seq r.del r.val.length with
  | false =>
    have HR := Lib.hid hR; clear hR
    have HH := Lib.hid h; clear h hA hB
    unfold ptr
    go_enter Try.func10, Try.ntmps10
    go_wp2_with fail
    refine (right_any Ak Av r.key.length ck r.val.length cv r.seq r.del _).mono ?_; rintro e w1 ⟨rfl, hw1⟩
    rw [HR.out]
    have HB1 : Hid (Below w.heap.size w w1) := ((Below.refl _ _).alloc (Nat.le_refl _) _).trans (hw1.mono (by simp))
    clear hw1
    go_wp2_with fail
    go_ret
    exact ⟨1, A ++ B, high, rfl, by unfold putS; rw [HR.out]; rfl, (HH.out.below HB1.out).wider (fun b hb => .inl hb) (fun b hb => by rcases hb with hb | hb <;> (first | exact (HH.out.below HB1.out).lt b hb | exact hb.2)), Chg.of_below HB1.out⟩
  | true =>
    have HR := Lib.hid hR; clear hR
    have HH := Lib.hid h; clear h
    have HA := Lib.hid hA; have HB : Hid (∀ b ∈ B, 0 ≤ ordS b.r r.key r.seq) := fun b hb => Int.not_lt.1 (hB b hb); clear hA hB
    unfold ptr
    go_enter Try.func10, Try.ntmps10
    go_wp2_with fail
    refine (right_any Ak Av r.key.length ck r.val.length cv r.seq r.del _).mono ?_; rintro e w1 ⟨rfl, hw1⟩
    rw [HR.out]
    have b1 := blk_below (blk_new w (.cells #[.slice Ak r.key.length ck, .int .i64 r.seq, .bool r.del, .slice Av r.val.length cv] 35) rfl) hw1 (by simp)
    obtain ⟨q0, q1, q2, q3, q4⟩ := cells4 b1
    have B1 := Lib.hid b1; clear b1
    obtain ⟨hc1, hf1⟩ := bcell hw1; have hz1 := hw1.size; (try simp only [World.size_alloc, World.size_setCell, World.size_drew, size_drewN, Nat.add_one_le_iff] at hz1); (try have hy1 : w.heap.size < w1.heap.size := by omega); (try have hx1 : w.heap.size + 1 < w1.heap.size := by omega); have HW1 := Lib.hid hw1; clear hw1
    clear hc1 hf1
    go_wp2_with fail
    refine (behind_any U L A B high r.key r.seq (.slice Ak r.key.length ck) _ (HH.out.below (by repeat' (first | (with_reducible exact Below.refl _ _) | (with_reducible refine Below.alloc ?_ ?_ _) | (with_reducible refine below_drewN ?_ _) | (with_reducible refine Below.drew ?_) | (with_reducible refine Below.setCell ?_ ?_ _) | (with_reducible refine Below.trans ?_ (Below.mono HW0.out ?_)) | (with_reducible refine Below.trans ?_ (Below.mono HW1.out ?_)) | (with_reducible refine Below.trans ?_ (Below.mono HW2.out ?_)) | (with_reducible refine Below.trans ?_ (Below.mono HW3.out ?_)) | (with_reducible refine Below.trans ?_ (Below.mono HW4.out ?_)) | (with_reducible refine Below.trans ?_ (Below.mono HW5.out ?_)) | (with_reducible refine Below.trans ?_ (Below.mono HW6.out ?_)) | (with_reducible refine Below.trans ?_ (Below.mono HW7.out ?_)) | (with_reducible exact Nat.le_refl _) | omega | (simp only [World.size_alloc, World.size_setCell, World.size_drew, size_drewN]; omega) | (simp; done) | (simp; omega)))) (Bs.up ⟨Ak, ck, rfl, hrk⟩ (by repeat' (first | (with_reducible exact Below.refl _ _) | (with_reducible refine Below.alloc ?_ ?_ _) | (with_reducible refine below_drewN ?_ _) | (with_reducible refine Below.drew ?_) | (with_reducible refine Below.setCell ?_ ?_ _) | (with_reducible refine Below.trans ?_ (Below.mono HW0.out ?_)) | (with_reducible refine Below.trans ?_ (Below.mono HW1.out ?_)) | (with_reducible refine Below.trans ?_ (Below.mono HW2.out ?_)) | (with_reducible refine Below.trans ?_ (Below.mono HW3.out ?_)) | (with_reducible refine Below.trans ?_ (Below.mono HW4.out ?_)) | (with_reducible refine Below.trans ?_ (Below.mono HW5.out ?_)) | (with_reducible refine Below.trans ?_ (Below.mono HW6.out ?_)) | (with_reducible refine Below.trans ?_ (Below.mono HW7.out ?_)) | (with_reducible exact Nat.le_refl _) | omega | (simp only [World.size_alloc, World.size_setCell, World.size_drew, size_drewN]; omega) | (simp; done) | (simp; omega)))) HA.out (fun b hb => Int.not_lt.2 (HB.out b hb))).mono ?_; rintro e w2 ⟨rfl, hw2⟩; obtain ⟨hc2, hf2⟩ := bcell hw2; have hz2 := hw2.size; (try simp only [World.size_alloc, World.size_setCell, World.size_drew, size_drewN, Nat.add_one_le_iff] at hz2); (try have hy2 : w.heap.size < w2.heap.size := by omega); (try have hx2 : w.heap.size + 1 < w2.heap.size := by omega); have HW2 := Lib.hid hw2; clear hw2; clear hc2 hf2
    obtain ⟨R7, hR7⟩ : ∃ R7, rowF (fun l => Value.pointer (some ⟨(lastOn l L A).g, 0, none⟩)) 12 = R7 := ⟨_, rfl⟩
    rw [show rowF (fun l => ptr (lastOn l L A).g) 12 = R7 from hR7]
    have s7 : R7.size = 12 := by rw [← hR7, rowF_size]
    have S7 := Lib.hid s7
    have i7 : (Try.prog.info? 57).map (·.size) = some R7.size := by rw [← hR7]; exact sz12 _
    have I7 := Lib.hid i7
    have o7 : R7.all (·.oneCell') = true := by
      rw [← hR7]; apply Array.all_eq_true_iff_forall_mem.2
      intro v hv
      unfold rowF at hv
      obtain ⟨l, _, rfl⟩ := List.mem_map.1 (by simpa using hv : v ∈ (List.range 12).map (fun l => Value.pointer (some ⟨(lastOn l L A).g, 0, none⟩)))
      rfl
    have O7 := Lib.hid o7
    have HR7 := Lib.hid hR7
    clear s7 i7 o7 hR7
    go_upto_region 4 with (refine wpList_store_mid (op := ⟨none, .store 57 (.tmp 7) (.tmp 19), _, _, _, _⟩) rfl 57 (.tmp 7) (.tmp 19) rfl w2.heap.size 0 R7 rfl rfl ?c1 I7.out O7.out ?_)
    case c1 =>
      intro j hj
      have hj : j < 12 := by rw [S7.out] at hj; exact hj
      have h0 : ((w2.alloc (.cells #[.pointer none, .pointer none, .pointer none, .pointer none, .pointer none, .pointer none, .pointer none, .pointer none, .pointer none, .pointer none, .pointer none, .pointer none] 57))).heap[w2.heap.size]? = some (.cells #[.pointer none, .pointer none, .pointer none, .pointer none, .pointer none, .pointer none, .pointer none, .pointer none, .pointer none, .pointer none, .pointer none, .pointer none] 57 (0, 0)) := blk_new _ _ rfl
      refine ⟨?_, blk_free h0 _⟩
      rw [blk_cell h0, Array.getElem?_eq_getElem (by simp; omega)]; rfl
    have b7 := heap_setCells_row (blk_new w2 (.cells #[.pointer none, .pointer none, .pointer none, .pointer none, .pointer none, .pointer none, .pointer none, .pointer none, .pointer none, .pointer none, .pointer none, .pointer none] 57) rfl) R7 (by rw [S7.out]; rfl)
    have hw3 : Below w2.heap.size w2 ((w2.alloc (.cells #[.pointer none, .pointer none, .pointer none, .pointer none, .pointer none, .pointer none, .pointer none, .pointer none, .pointer none, .pointer none, .pointer none, .pointer none] 57)).setCells w2.heap.size 0 R7.toList) := below_setCells' (Nat.le_refl _) _ _ _ ((Below.refl _ _).alloc (Nat.le_refl _) _)
    generalize (w2.alloc (.cells #[.pointer none, .pointer none, .pointer none, .pointer none, .pointer none, .pointer none, .pointer none, .pointer none, .pointer none, .pointer none, .pointer none, .pointer none] 57)).setCells w2.heap.size 0 R7.toList = w3 at *
    have B4 := Lib.hid (blk_below (blk_below B1.out HW2.out hy1) hw3 hy2)
    have hB3 : Below w.heap.size w w3 := ((((Below.refl _ _).alloc (Nat.le_refl _) _).trans (HW1.out.mono (by simp))).trans (HW2.out.mono (by omega))).trans (hw3.mono (by omega))
    have HS := Lib.hid (HH.out.below hB3)
    have HB3 := Lib.hid hB3
    have B7 := Lib.hid b7
    have hg7 : w.heap.size < w2.heap.size := hy2
    have g7lt := blk_lt b7
    clear hw3 hB3 b7 hz2 hy2 hz1 hy1 HW2 HW1 B1 q0 q1 q2 q3 q4
    generalize w2.heap.size = g7 at *
    clear w2 w1
    obtain ⟨q0, q1, q2, q3, q4⟩ := cells4 B4.out
    obtain ⟨P0, S0, e0, h01, h02⟩ := lastOn_parts 0 L A (by rw [HS.out.hh]; omega)
    obtain ⟨l1, l2⟩ := HS.out.lead (show L :: (A ++ B) = P0 ++ lastOn 0 L A :: (S0 ++ B) by rw [← List.cons_append, e0]; simp)
    have l3 := l2 0 h01
    rw [hd_skip _ h02] at l3
    have l4 : w3.cell? ⟨g7, 0, none⟩ = some (.pointer (some ⟨(lastOn 0 L A).g, 0, none⟩)) := by rw [blk_cell B7.out, ← HR7.out, rowF_get _ (by omega)]
    clear e0 h02 l2
    generalize lastOn 0 L A = a0 at *
    clear P0 S0
    obtain ⟨p0, hp0⟩ := hd_ptr 0 B
    rw [hp0] at l3
    have HP0 := Lib.hid hp0; clear hp0
    obtain ⟨x, hx⟩ : ∃ x : Bool, B.head?.any (fun b => decide (ordS b.r r.key r.seq = 0)) = x := ⟨_, rfl⟩
    have HX := Lib.hid hx; clear hx
    go_upto_region 5 with fail
    clear l1 l3 l4 h01
    go_cut [37] from 27 to 36 (fun v wc => v = .bool x ∧ Below w3.heap.size w3 wc)
    case first =>
      rcases B with _ | ⟨b, B⟩
      · have e1 : p0 = none := by have := HP0.out; injection this with h; exact h.symm
        have e2 : x = false := HX.out.symm
        subst e1 e2
        go_wp2_with fail
        go_meet
        exact ⟨rfl, Below.refl _ _⟩
      · have nb := HS.out.node b (by simp)
        have e1 : p0 = some ⟨b.g, 0, none⟩ := by have := HP0.out; rw [hd_at _ (by have := nb.2.2.2.1; omega)] at this; injection this with h; exact h.symm
        have e2 : x = decide (ordS b.r r.key r.seq = 0) := by have := HX.out; simp at this; rw [← this]
        subst e1
        have E2 := Lib.hid e2; clear e2
        have NB := Lib.hid nb; clear nb
        go_wp2_with fail
        refine (order_any b.g _ b.kv _ b.vv _ (.slice Ak r.key.length ck) b.r r.key r.seq 0 _ NB.out.1 (NB.out.2.1.bs HS.out.lt) (Bs.up ⟨Ak, ck, rfl, hrk⟩ HB3.out)).mono ?_
        rintro e w1 ⟨rfl, hw1⟩
        have HW1 := Lib.hid hw1; clear hw1
        go_wp2_with fail
        all_goals go_meet
        all_goals exact ⟨by rw [E2.out]; first | rfl | simp, HW1.out⟩
    case rest =>
      obtain ⟨rfl, hw4⟩ := hcut
      have HS4 := Lib.hid (HS.out.below hw4)
      have B44 := Lib.hid (blk_below B4.out hw4 (blk_lt B4.out))
      have B47 := Lib.hid (blk_below B7.out hw4 (blk_lt B7.out))
      have HB4 := Lib.hid (HB3.out.trans (hw4.mono HB3.out.size))
      clear hw4 HS B4 B7 HB3 q0 q1 q2 q3 q4 g7lt
      have HK : Hid (Bs w w.heap.size (.slice Ak r.key.length ck) r.key) := ⟨Ak, ck, rfl, hrk⟩
      have HV : Hid (Bs w w.heap.size (.slice Av r.val.length cv) r.val) := ⟨Av, cv, rfl, hrv⟩
      clear hrk hrv
      obtain ⟨q0, q1, q2, q3, q4⟩ := cells4 B44.out
      cases x with
      | true =>
        go_wp2_with fail
        go_ret
        exact ⟨5, A ++ B, high, rfl, putS_there HR.out HA.out HB.out HX.out, HS4.out.wider (fun b hb => .inl hb) (fun b hb => by rcases hb with hb | hb <;> (first | exact HS4.out.lt b hb | exact hb.2)), Chg.of_below HB4.out⟩
      | false =>
        have hl := levS_low draw
        have hkl : r.key.length ≤ 1099511627776 := by have := HR.out; simp [rightN] at this; omega
        have hvl : r.val.length ≤ 1099511627776 := by have := HR.out; simp [rightN] at this; omega
        obtain ⟨h, hlh⟩ : ∃ h, levS draw = h := ⟨_, rfl⟩
        rw [hlh] at hl
        have HLH := Lib.hid hlh; clear hlh
        have hmk : ∀ W : World, (Instr.makeSlice 50 (.int .i64 (h : Nat)) (.int .i64 (h : Nat))).run Try.prog W = .ok (.slice (some ⟨W.heap.size, 0, none⟩) h h) (W.alloc (.cells (rowF (fun _ => .pointer none) h) 56)) := by
          intro W
          rw [← made_rowF]
          exact run_make_row' _ _ _ 8 Try.underlying50 np_info rfl _ _ _ (by omega) (by omega) W
        go_wp2_with fail
        refine (copied_any (.slice Ak r.key.length ck) (.slice Av r.val.length cv) r _ (HK.out.up HB4.out) (HV.out.up HB4.out) hkl hvl).mono ?_
        rintro e w5 ⟨A5, c5, A6, c6, rfl, hm1, hm2, hw5⟩
        have HM1 := Lib.hid hm1; have HM2 := Lib.hid hm2; have HW5 := Lib.hid hw5; clear hm1 hm2 hw5 q0 q1 q2 q3 q4
        go_wp2_with fail
        refine (levels_any draw _ hd0).mono ?_
        rintro e w6 ⟨rfl, rfl⟩
        rw [HLH.out]
        go_wp2_with fail
        have hst := ld_start HS4.out HB4.out HM1.out HM2.out HW5.out hl
        have hbx := blk_alloc (blk_alloc (blk_below B44.out HW5.out (blk_lt B44.out)) (.cells (rowF (fun _ => .pointer none) h) 56)) (.cells #[.slice A5 r.key.length c5, .int .i64 r.seq, .bool r.del, .slice A6 r.val.length c6, .slice (some ⟨w6.heap.size, 0, none⟩) h h] 52)
        have hb7 := blk_alloc (blk_alloc (blk_below B47.out HW5.out (blk_lt B47.out)) (.cells (rowF (fun _ => .pointer none) h) 56)) (.cells #[.slice A5 r.key.length c5, .int .i64 r.seq, .bool r.del, .slice A6 r.val.length c6, .slice (some ⟨w6.heap.size, 0, none⟩) h h] 52)
        have hSz : ((w6.alloc (.cells (rowF (fun _ => .pointer none) h) 56)).alloc (.cells #[.slice A5 r.key.length c5, .int .i64 r.seq, .bool r.del, .slice A6 r.val.length c6, .slice (some ⟨w6.heap.size, 0, none⟩) h h] 52)).heap.size = w6.heap.size + 2 := by simp
        have hn0 : w.heap.size ≤ w6.heap.size := Nat.le_trans HB4.out.size HW5.out.size
        have HLh := Lib.hid HS4.out.hh
        have HIU := Lib.hid HS4.out.inU
        have HLT : Hid (∀ b, U b → b < w6.heap.size) := fun b hb => Nat.lt_of_lt_of_le (HS4.out.lt b hb) HW5.out.size
        have HSO := Lib.hid HS4.out.sorted
        generalize (w6.alloc (.cells (rowF (fun _ => .pointer none) h) 56)).alloc (.cells #[.slice A5 r.key.length c5, .int .i64 r.seq, .bool r.del, .slice A6 r.val.length c6, .slice (some ⟨w6.heap.size, 0, none⟩) h h] 52) = W at *
        obtain ⟨n, hn⟩ : ∃ n : Nd, (⟨w6.heap.size + 1, w6.heap.size, h, .slice A5 r.key.length c5, .slice A6 r.val.length c6, r⟩ : Nd) = n := ⟨_, rfl⟩
        have en1 : w6.heap.size + 1 = n.g := by rw [← hn]
        have en2 : w6.heap.size = n.nb := by rw [← hn]
        have en3 : h = n.h := by rw [← hn]
        have en4 : n.r = r := by rw [← hn]
        rw [hn] at hst
        rw [en1, en2]
        obtain ⟨hst, hnd⟩ := hst
        have HST := Lib.hid hst; have HND := Lib.hid hnd; have HBX := Lib.hid hbx; have HB7 := Lib.hid hb7; have HSZ := Lib.hid hSz
        rw [en2] at hn0
        have EN4 := Lib.hid en4
        have EN1 := Lib.hid en1
        have EN2 := Lib.hid en2
        clear hst hnd hbx hb7 hSz hn en1 en2 en4 HM1 HM2 HW5 B44 B47 HS4 hmk
        rw [en3] at hl HLH ⊢
        clear en3
        clear h
        go_loopg [10, 50] n.h (fun k' v10 v50 wr => ∃ k, k' = n.h - k ∧ k ≤ n.h ∧ v50 = .int .i64 (k : Nat) ∧ Ld w wr U (Or U w.heap.size (w6.heap.size + 2)) L A B n high k ∧ wr.heap[w.heap.size]? = some (.cells #[.slice Ak r.key.length ck, .int .i64 r.seq, .bool r.del, .slice Av r.val.length cv] 35 (0, 0)) ∧ wr.heap[g7]? = some (.cells R7 57 (0, 0)) ∧ wr.heap.size = w6.heap.size + 2)
        case atStart => exact ⟨0, by omega, by omega, rfl, HST.out, HBX.out, HB7.out, HSZ.out⟩
        case round =>
          obtain ⟨k, hgk, hkn, rfl, hLd, hbx, hb7, hsz'⟩ := hrel
          have HG := Lib.hid hgk; clear hgk
          by_cases hlt : k < n.h
          · have hk12 : k < L.h := by have := HLh.out; omega
            obtain ⟨P, S, e, h1, h2⟩ := lastOn_parts k L A hk12
            have haM : lastOn k L A ∈ L :: A := by rw [e]; simp
            have hnode := hLd.nodes n (by simp)
            obtain ⟨y0, y1, y2, y3, y4, y5⟩ := cells5 hnode.1
            have y6 := hLd.lead HLh.out haM
            have y7 : wr.cell? ⟨g7, k, none⟩ = some (.pointer (some ⟨(lastOn k L A).g, 0, none⟩)) := by rw [blk_cell hb7, ← HR7.out, rowF_get _ (by omega)]
            have ra := hLd.rowsA P _ S e
            obtain ⟨p, hp⟩ := hd_ptr k B
            have y8 : wr.cell? ⟨(lastOn k L A).nb, k, none⟩ = some (.pointer p) := by rw [blk_cell ra, rowF_get _ h1, if_neg (by omega), hd_skip _ h2, hp]
            have y9 : wr.frozen? ⟨(lastOn k L A).nb, k, none⟩ = false := blk_free ra _
            have y10 : wr.cell? ⟨n.nb, k, none⟩ = some (.pointer none) := by rw [blk_cell hLd.rowN, rowF_get _ hlt, if_neg (by omega)]
            have y11 : wr.frozen? ⟨n.nb, k, none⟩ = false := blk_free hLd.rowN _
            have d1 : (lastOn k L A).g ≠ n.nb := by
              rcases List.mem_cons.1 haM with e' | e'
              · rw [e']; exact ne_of_type hLd.head hLd.rowN (by decide)
              · exact ne_of_type (hLd.nodes _ (by simp [e'])).1 hLd.rowN (by decide)
            have d2 : g7 ≠ n.nb := ne_of_type hb7 hLd.rowN (by decide)
            have d3 : n.nb ≠ (lastOn k L A).nb := nodup_far HND.out (show L :: (A ++ n :: B) = P ++ lastOn k L A :: (S ++ n :: B) by rw [← List.cons_append, e]; simp) (by simp)
            have stp := hLd.step hlt (by have := HLh.out; omega) (fun a ha => (HIU.out a (by rcases List.mem_cons.1 ha with rfl | ha <;> simp [*])).2) hn0 HND.out
            rw [hp] at stp
            have STP := Lib.hid stp
            have BX := Lib.hid (blk_far (blk_far hbx (p := ⟨n.nb, k, none⟩) (show w.heap.size ≠ n.nb from ne_of_type hbx hLd.rowN (by decide)) (.pointer p)) (p := ⟨(lastOn k L A).nb, k, none⟩) (show w.heap.size ≠ (lastOn k L A).nb from ne_of_type hbx ra (by decide)) (ptr n.g))
            have B7 := Lib.hid (blk_far (blk_far hb7 (p := ⟨n.nb, k, none⟩) d2 (.pointer p)) (p := ⟨(lastOn k L A).nb, k, none⟩) (show g7 ≠ (lastOn k L A).nb from ne_of_type hb7 ra (by decide)) (ptr n.g))
            have d1' := Ne.symm d1; have d2' := Ne.symm d2; have d3' := Ne.symm d3
            have SZ := Lib.hid hsz'
            clear stp hp hb7 hbx hLd e h2 ra hnode hsz' y0 y1 y2 y3
            generalize lastOn k L A = a at *
            have i1 : (0 : Int) ≤ (k : Int) := by omega
            have i2 : (k : Int) < (n.h : Int) := by omega
            have i3 : (k : Int) < (a.h : Int) := by omega
            have i4 : (k : Int) < 12 := by omega
            clear haM P S
            go_wp2_with fail
            go_region
            go_wp2_with fail
            go_roundg (n.h - (k + 1))
            case measure => have := HG.out; omega
            case rel => exact ⟨k + 1, rfl, by omega, by go_num, STP.out.drew, BX.out, B7.out, by have := SZ.out; simpa using this⟩
          · have hke : k = n.h := by omega
            subst hke
            obtain ⟨y0, y1, y2, y3, y4, y5, y6, y7, y8⟩ := cells8 hLd.head
            obtain ⟨q0, q1, q2, q3, q4⟩ := cells4 hbx
            have hnode := hLd.nodes n (by simp)
            obtain ⟨z0, z1, z2, z3, z4, z5⟩ := cells5 hnode.1
            have hne : n.g ≠ L.g := ne_of_type hnode.1 hLd.head (by decide)
            have hne2 : w.heap.size ≠ L.g := ne_of_type hbx hLd.head (by decide)
            have hne' := Ne.symm hne
            have hne2' := Ne.symm hne2
            have HLD := Lib.hid hLd; clear hLd hbx hb7 hnode z0 z1 z2 z3 q1 q2 HST
            obtain ⟨many, hmany⟩ : ∃ m, (A ++ B).length = m := ⟨_, rfl⟩
            obtain ⟨sz, hszz⟩ : ∃ m, sizeS (List.map Nd.r (A ++ B)) = m := ⟨_, rfl⟩
            rw [hmany] at y6 hn
            rw [hszz] at y7 hsz
            have HMA := Lib.hid hmany; have HSS := Lib.hid hszz
            clear hmany hszz
            have hkl2 : (r.key.length : Int) ≤ 1099511627776 := by omega
            have hvl2 : (r.val.length : Int) ≤ 1099511627776 := by omega
            obtain ⟨kl, hkl3⟩ : ∃ m, r.key.length = m := ⟨_, rfl⟩
            obtain ⟨vl, hvl3⟩ : ∃ m, r.val.length = m := ⟨_, rfl⟩
            rw [hkl3] at q0 hkl
            rw [hvl3] at q3 hvl
            have HKL := Lib.hid hkl3; have HVL := Lib.hid hvl3
            clear hkl3 hvl3 hkl2 hvl2
            go_wp2_with fail
            go_region
            go_wp2_with fail
            go_region
            go_wp2_with fail
            go_ret
            have hB6 : w.heap.size ≤ w6.heap.size := by have := EN2.out; omega
            have fin := ld_end (high' := max high n.h) HLD.out HLh.out HIU.out HND.out ⟨by have := EN1.out; omega, by have := EN1.out; omega, by have := EN2.out; omega, by have := EN2.out; omega⟩ hsz' (fun b hb => by have := HLT.out b hb; omega)
              (sorted_in HSO.out (by rw [EN4.out]; exact HA.out) (by rw [EN4.out]; exact fun b hb => Int.not_lt.2 (HB.out b hb)) (by rw [EN4.out]; exact no_same HSO.out HB.out HX.out))
            have eM : ((A ++ n :: B).length : Nat) = many + 1 := by rw [← HMA.out]; simp; omega
            have eS : sizeS ((A ++ n :: B).map Nd.r) = sz + (kl + vl + 16) := by rw [← HSS.out, ← HKL.out, ← HVL.out, ← EN4.out]; unfold sizeS; simp; omega
            rw [eM, eS] at fin
            have eX : ((max high n.h : Nat) : Int) = max (high : Int) (n.h : Int) := by omega
            have eY : ((many + 1 : Nat) : Int) = (many : Int) + 1 := by omega
            have eZ : ((sz + (kl + vl + 16) : Nat) : Int) = (sz : Int) + ((kl : Int) + vl + 16) := by omega
            rw [eX, eY, eZ] at fin
            refine ⟨0, A ++ n :: B, max high n.h, rfl, ?_, ?_, ?_⟩
            · rw [← HLH.out]; exact putS_new HR.out HA.out HB.out HX.out EN4.out
            · refine Sk.wider (U := Or U w.heap.size (w6.heap.size + 2)) (fin.keep (by simp) (fun _ _ => rfl)) (fun b hb => ?_) (fun b hb => ?_)
              · rcases hb with hb | hb
                · exact .inl hb
                · exact .inr ⟨hb.1, by have := hb.2; simp; omega⟩
              · rcases hb with hb | hb
                · have := HLT.out b hb; simp; omega
                · exact hb.2
            · exact ((((HLD.out.chg.setCell (.inl (HIU.out L (by simp)).1) _).setCell (.inl (HIU.out L (by simp)).1) _).setCell (.inl (HIU.out L (by simp)).1) _).drew).drew

set_option maxHeartbeats 1600000 in
theorem new_any (w : World) : Calls Try.prog 9 #[] w fun e w' => ∃ L, e = .returned (ptr L.g) ∧ Sk w' (New w.heap.size w') L [] 0 ∧ Below w.heap.size w w' := by
  have hmk : ∀ W : World, (Instr.makeSlice 50 (.int .i64 12) (.int .i64 12)).run Try.prog W = .ok (.slice (some ⟨W.heap.size, 0, none⟩) 12 12) (W.alloc (.cells (rowF (fun _ => .pointer none) 12) 56)) := by
    intro W
    rw [← made_rowF]
    exact run_make_row' _ _ _ 8 Try.underlying50 np_info rfl .i64 .i64 12 (by omega) (by omega) W
  go_enter Try.func9, Try.ntmps9
  go_wp2_with fail
  go_ret
  refine ⟨⟨w.heap.size + 1, w.heap.size, 12, .slice none 0 0, .slice none 0 0, ⟨[], 0, false, []⟩⟩, rfl, ⟨fun b hb => hb.2, ?_, by simp, heap_alloc2_new _ _ _, rfl, by simp, ?_, by simp [Sorted]⟩, (by repeat' (first | (with_reducible exact Below.refl _ _) | (with_reducible refine Below.alloc ?_ ?_ _) | (with_reducible refine below_drewN ?_ _) | (with_reducible refine Below.drew ?_) | (with_reducible refine Below.setCell ?_ ?_ _) | (with_reducible refine Below.trans ?_ (Below.mono HW0.out ?_)) | (with_reducible refine Below.trans ?_ (Below.mono HW1.out ?_)) | (with_reducible refine Below.trans ?_ (Below.mono HW2.out ?_)) | (with_reducible refine Below.trans ?_ (Below.mono HW3.out ?_)) | (with_reducible refine Below.trans ?_ (Below.mono HW4.out ?_)) | (with_reducible refine Below.trans ?_ (Below.mono HW5.out ?_)) | (with_reducible refine Below.trans ?_ (Below.mono HW6.out ?_)) | (with_reducible refine Below.trans ?_ (Below.mono HW7.out ?_)) | (with_reducible exact Nat.le_refl _) | omega | (simp only [World.size_alloc, World.size_setCell, World.size_drew, size_drewN]; omega) | (simp; done) | (simp; omega)))⟩
  · intro n hn
    rw [List.mem_singleton] at hn
    subst hn
    exact ⟨⟨by simp, by simp⟩, ⟨by simp, by simp; omega⟩⟩
  · intro P n S e
    rcases P with _ | ⟨p, P⟩
    · simp at e
      obtain ⟨rfl, rfl⟩ := e
      exact heap_alloc2_old _ _ _
    · simp at e
end Go.Proofs.Ytpgbinijocbfmaa
