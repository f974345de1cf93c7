/- What SkipTurned's last part needs: told lists compared; a string turned into bytes; a map's iterator. -/
import Derived.Test.YtpgbinijocbfmaaTU1
import Derived.Test.YtpgbinijocbfmaaTU0
import Derived.Test.YtpgbinijocbfmaaP9
import Derived.Test.YtpgbinijocbfmaaP8
import Derived.Maps.Own
import Derived.Maps.RangeWalk
import Derived.Lib.ConvBytes
import Derived.WalkKit
namespace Go.Proofs.Ytpgbinijocbfmaa
open Go.RowKit Go Go.Maps Go.WideMaps
set_option linter.unusedVariables false
set_option linter.unusedSimpArgs false

theorem from_len (rs : List Rc) (key : List UInt8) (most : Int) : (fromS rs key most).length ≤ rs.length := by
  unfold fromS
  rw [List.length_take]; exact Nat.le_trans (Nat.min_le_right _ _) (List.length_filter_le _ _)
theorem told_same2 {wa wb w : World} {v1 v2 : Value} {rs : List Rc} (h1 : Told wa w v1 rs) (h2 : Told wb w v2 rs) (hn : rs.length ≤ 2000) :
    Calls Try.prog 16 #[v1, v2] w fun e w' => e = .returned (.bool true) ∧ Below w.heap.size w w' := by
  obtain ⟨ps, hp1, hp2, hp3, hp4⟩ := h1
  obtain ⟨qs, hq1, hq2, hq3, hq4⟩ := h2
  have hl1 : ps.length = rs.length := by rw [← hp1, List.length_map]
  have hl2 : qs.length = rs.length := by rw [← hq1, List.length_map]
  refine (sameAll_any (New wa.heap.size w) (New wb.heap.size w) v1 v2 ps qs w (RowU.of_own hp2) (RowU.of_own hq2) hp3 hq3 (fun b hb => hb.2) (fun b hb => hb.2) (by omega) (by omega)).mono ?_
  rintro e w2 ⟨rfl, hw⟩
  exact ⟨by rw [hp1, hq1]; simp, hw⟩
theorem told_form {wa w : World} {v : Value} {rs : List Rc} (h : Told wa w v rs) : ∃ A n c, v = .slice A n c := by
  obtain ⟨ps, _, hp2, _⟩ := h
  obtain ⟨A, c, e, _⟩ := own_form hp2
  exact ⟨A, _, c, e⟩
theorem told_rec {B : Nat} {w : World} {v : Value} {r : Rc} (h : ToldRc B w v r) : IsRc w w.heap.size v r := by
  obtain ⟨A, c, A', c', rfl, h1, h2⟩ := h
  exact ⟨_, _, rfl, h1.1.bs fun b hb => hb.2, h2.1.bs fun b hb => hb.2⟩
theorem isRc_up {w w' : World} {v : Value} {r : Rc} (h : IsRc w w.heap.size v r) (hb : Below w.heap.size w w') : IsRc w' w'.heap.size v r := by
  obtain ⟨kv, vv, e, h1, h2⟩ := h; exact ⟨kv, vv, e, h1.up hb, h2.up hb⟩
/-- A string turned into bytes. -/
theorem bytes_below (w : World) (e : TypeId) (s : ByteArray) : Below w.heap.size w (Lib.bytesWorld w e s) :=
  ⟨by (simp [Lib.bytesWorld, World.freeze]; rfl), by simp [Lib.bytesWorld, World.freeze], by (simp [Lib.bytesWorld, World.freeze]; rfl), by rw [Lib.bytesWorld_size]; omega, fun b hb => Lib.bytesWorld_at_old w e s b hb⟩
theorem bytes_bs (w : World) (s : ByteArray) (c : Nat) : Bs (Lib.bytesWorld w 5 s) (Lib.bytesWorld w 5 s).heap.size (.slice (some ⟨w.heap.size, 0, none⟩) s.size c) s.data.toList := by
  have hl : s.data.toList.length = s.size := Array.length_toList
  refine ⟨some ⟨w.heap.size, 0, none⟩, c, by rw [hl], by simp [u8s_len], fun h0 => ⟨w.heap.size, 0, rfl, by rw [Lib.bytesWorld_size]; omega, fun j hj => ?_⟩⟩
  rw [hl] at hj h0
  have hj' : j < s.size := by omega
  rw [Nat.zero_add, Lib.bytesWorld_cell w 5 s j hj', u8s_at _ _ (by rw [hl]; exact hj')]
  simp [List.getD, hl, hj']
theorem own_map_blk {w w' : World} {H : Type} {P : Program} {k : TypeId} {R : Value → Option (DataW H × List MemPlace)} {g n : Nat} {D : DataW H} (h : w.ownsMap P k R g n D) (e : w'.heap[g]? = w.heap[g]?) : w'.ownsMap P k R g n D := by
  obtain ⟨es, cl, h1, h2⟩ := h
  exact ⟨es, cl, e.trans h1, h2⟩
/-- Only the iterator has turned. -/
theorem Two.only {w wr w' : World} {lo hi h1 h2 g : Nat} {L1 L2 : Nd} {rs1 rs2 : List Rc} (h : Two w lo hi wr L1 rs1 h1 L2 rs2 h2) (hg : wr.grownBy w' (some g)) (h3 : lo ≤ g) (h4 : g < hi) (hlo : w.heap.size ≤ lo) (hs : w'.heap.size = wr.heap.size) : Two w lo hi w' L1 rs1 h1 L2 rs2 h2 := by
  obtain ⟨⟨U1, U2, ns1, ns2, a1, a2, a3, a4, a5, a6⟩, b1, b2, b3, b4, b5, b6⟩ := h
  have hk : ∀ b, b < wr.heap.size → (U1 b ∨ U2 b) → w'.heap[b]? = wr.heap[b]? := fun b hb hU => hg.block b hb (fun e => by
    injection e with e; exact (a6 b hU).2 ⟨by omega, by omega⟩)
  exact ⟨⟨U1, U2, ns1, ns2, a1.keep hg.size fun b hU => hk b (a1.lt b hU) (.inl hU), a2.keep hg.size fun b hU => hk b (a2.lt b hU) (.inr hU), a3, a4, a5, a6⟩, b1, b2, b3, b4, b5.grown hg b5.size (fun j hj => by injection hj with hj; omega), by omega⟩
/-- A key of a map of strings is a string. -/
theorem key_string_inv (key : Value) (kl : Lit) (h : keyOf Try.prog 9 key = some kl) : ∃ x : ByteArray, key = .string x := by
  cases key <;> simp [keyOf, Try.underlying9, mapKey] at h
  exact ⟨_, rfl⟩
theorem same_true (r : Rc) (u v : Value) (w : World) (ha : IsRc w w.heap.size u r) (hb : IsRc w w.heap.size v r) :
    Calls Try.prog 20 #[u, v] w fun e w' => e = .returned (.bool true) ∧ Below w.heap.size w w' := by
  refine (same_any r r u v w.heap.size w ha hb).mono ?_
  rintro e w' ⟨rfl, h⟩
  exact ⟨by simp, h⟩
end Go.Proofs.Ytpgbinijocbfmaa
