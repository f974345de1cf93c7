/- What MergeSame and MergeBelow share: the moments and the last one; the same at a moment. -/
import Derived.Test.YtfcemlcocdhmfaaLMK
import Derived.Test.YtfcemlcocdhmfaaO
namespace Go.Proofs.Ytfcemlcocdhmfaa
open Go.RowKit Go
set_option linter.unusedVariables false
set_option linter.unusedSimpArgs false

theorem int_info : (Try.prog.info? 3).map (fun i => (i.zero, i.size, i.bytes)) = some (some (.int .i64 0), 1, 8) := by kernel_rfl
theorem int_parts : ∃ i0, Try.prog.info? 3 = some i0 ∧ ∃ z, i0.zero = some z ∧ z.cells.size = 1 ∧ i0.size = 1 ∧ i0.bytes = 8 := by
  obtain ⟨i0, hi, hz0, hz1, hz2⟩ := info_parts int_info
  exact ⟨i0, hi, _, hz0, rfl, hz1, hz2⟩
theorem ints_one (l : List Int) : ∀ u ∈ ints l, u.oneCell' = true := by
  intro u hu
  obtain ⟨x, _, rfl⟩ := List.mem_map.1 hu; rfl
theorem ints_app (a b : List Int) : ints (a ++ b) = ints a ++ ints b := by simp [ints]
/-- append(append([]int{}, moments...), last): the first one. -/
theorem app_ms {ops : Array Oper} {rest : List Oper} {o : Oper} {a : Act} {Q : Exit → Act → World → Prop} (hgd : o.guard = none) (s x : Operand)
    (ho : o.op = .call { callee := .builtin .append, args := #[s, x], argTypes := #[35, 35] })
    (w : World) (A : Option Addr) (n c : Nat) (ms : List Int) (B : Nat) (hs : a.eval s = .slice (some ⟨w.heap.size, 0, none⟩) 0 0) (hx : a.eval x = .slice A n c)
    (hr : Rd (w.alloc (.cells #[] 3)) B 1 A n (ints ms)) (hn : n ≤ 1000000)
    (h : ∀ v' w', w'.ownsRow w.heap.size 3 1 v' n (ints ms) → Below w.heap.size w w' → wpList Try.prog ops Q rest (a.put o.dst v') w') :
    wpList Try.prog ops Q (o :: rest) a (w.alloc (.cells #[] 3)) := by
  obtain ⟨i0, hi, z, hz0, hz, hz1, hz2⟩ := int_parts
  refine wpList_app hgd s x _ ho w.heap.size 3 i0 z 1 8 Try.underlying35 hi hz0 hz1 hz2 hz (by omega) (.slice (some ⟨w.heap.size, 0, none⟩) 0 0) 0 [] hs (World.ownsRow_made w #[] 0 (Nat.le_refl _) (by unfold maxLen; omega) rfl) B A n c (ints ms) hx hr (ints_one ms) (by unfold maxLen; omega) (by omega) (by simp) ?_
  intro v4 w4 hO4 hg _
  refine h v4 w4 (by simpa using hO4) (((Below.refl _ _).alloc (Nat.le_refl _) _).grown hg (by simp) (fun j hj => by injection hj with hj; rw [← hj]; exact Nat.le_refl _))
/-- .. and the second one. -/
theorem app_last {ops : Array Oper} {rest : List Oper} {o : Oper} {a : Act} {Q : Exit → Act → World → Prop} (hgd : o.guard = none) (s x : Operand)
    (ho : o.op = .call { callee := .builtin .append, args := #[s, x], argTypes := #[35, 35] })
    (w0 w : World) (n : Nat) (v : Value) (ms : List Int) (l : Int) (hs : a.eval s = v) (hx : a.eval x = .slice (some ⟨w.heap.size, 0, none⟩) 1 1)
    (hO : w.ownsRow w0.heap.size 3 1 v n (ints ms)) (hb : Below w0.heap.size w0 w) (hn : n ≤ 1000000)
    (h : ∀ v' w', w'.ownsRow w0.heap.size 3 1 v' (n + 1) (ints (ms ++ [l])) → Below w0.heap.size w0 w' → wpList Try.prog ops Q rest (a.put o.dst v') w') :
    wpList Try.prog ops Q (o :: rest) a (w.alloc (.cells #[.int .i64 l] 3)) := by
  obtain ⟨i0, hi, z, hz0, hz, hz1, hz2⟩ := int_parts
  have hO' := World.ownsRow.alloc hO (.cells #[.int .i64 l] 3)
  have hsz : w0.heap.size ≤ (w.alloc (.cells #[.int .i64 l] 3)).heap.size := Nat.le_trans hb.size (by simp)
  refine wpList_app hgd s x _ ho w0.heap.size 3 i0 z 1 8 Try.underlying35 hi hz0 hz1 hz2 hz (by omega) v n (ints ms) hs hO' _ _ 1 1 (ints [l]) hx (Rd.fresh w #[.int .i64 l] 3 1 1 rfl) (ints_one [l]) (by unfold maxLen; omega) (by omega) hsz ?_
  intro v4 w4 hO4 hg _
  exact h v4 w4 (by rw [ints_app]; exact hO4) ((hb.alloc hb.size _).grown hg hsz (fun j hj => (own_block_type hO hj).1))
/-- The same at a moment: At of two rows that tell the same. -/
def AtSame (m : Int) (qs ps : List El) : Prop := AtS m (qs.map El.r) = AtS m (ps.map El.r)
theorem inO_keep {ms : List Int} {bot : Bool} {rs : List Rc} (h : inO rs = true) : inO (KeepS ms bot rs) = true := by
  rw [KeepS, if_pos h]; exact srt_inO (keep_srt ms bot (inO_srt h))
theorem keepS_again {ms : List Int} {bot : Bool} {rs : List Rc} (h : inO rs = true) : KeepS ms bot (KeepS ms bot rs) = KeepS ms bot rs := by
  have h1 : KeepS ms bot rs = keepS ms bot rs := by rw [KeepS, if_pos h]
  have h2 := inO_keep (ms := ms) (bot := bot) h
  rw [KeepS, if_pos h2, h1]
  exact keep_again ms bot (inO_srt h)
theorem keepS_at {ms : List Int} {bot : Bool} {rs : List Rc} (h : inO rs = true) {m : Int} (hg : Good ms rs m) : AtS m (KeepS ms bot rs) = AtS m rs := by
  have h2 := inO_keep (ms := ms) (bot := bot) h
  rw [AtS, if_pos h2, AtS, if_pos h, KeepS, if_pos h]
  exact same_at (inO_srt h) hg
/-- The greatest moment of the first k records. -/
def lastS (l0 : Int) (rs : List Rc) : Int := rs.foldl (fun a r => max a r.seq) l0
theorem lastS_snoc (l0 : Int) (rs : List Rc) (r : Rc) : lastS l0 (rs ++ [r]) = max (lastS l0 rs) r.seq := by simp [lastS, List.foldl_append]
theorem lastS_ge : ∀ (rs : List Rc) (l0 : Int), l0 ≤ lastS l0 rs ∧ ∀ r ∈ rs, r.seq ≤ lastS l0 rs
  | [], l0 => ⟨Int.le_refl _, by simp⟩
  | a :: rs, l0 => by
    obtain ⟨h1, h2⟩ := lastS_ge rs (max l0 a.seq)
    have e : lastS l0 (a :: rs) = lastS (max l0 a.seq) rs := rfl
    rw [e]
    refine ⟨by omega, fun r hr => ?_⟩
    rcases List.mem_cons.1 hr with e' | hr
    · rw [e']; omega
    · exact h2 r hr
end Go.Proofs.Ytfcemlcocdhmfaa
