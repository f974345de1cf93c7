/- Slices of bytes: they read as lists; comparing them. -/
import Derived.Test.YtfcemlcocdhmfaaW
import Derived.Lib.BytesEntry
import Derived.Laws.BytesArg
import Derived.Test.YtfcemlcocdhmfaaSh
namespace Go.Proofs.Ytfcemlcocdhmfaa
open Go.RowKit Go
set_option linter.unusedVariables false
set_option linter.unusedSimpArgs false

/-- Bytes as cells. -/
def u8s (l : List UInt8) : List Value := l.map fun b => .int .u8 b.toNat
theorem u8s_len (l : List UInt8) : (u8s l).length = l.length := by simp [u8s]
theorem u8s_at (l : List UInt8) (k : Nat) (h : k < l.length) : (u8s l)[k]? = some (.int .u8 (l[k].toNat : Int)) := by simp [u8s, h]
def nums (l : List UInt8) : List Int := l.map fun b => (b.toNat : Int)
theorem nums_len (l : List UInt8) : (nums l).length = l.length := by simp [nums]
theorem nums_back (l : List UInt8) : Lib.bytesOf (nums l) = l := by
  unfold Lib.bytesOf nums
  rw [List.map_map]
  conv => rhs; rw [← List.map_id l]
  apply List.map_congr_left
  intro a _
  simp
theorem nums_get (l : List UInt8) (k : Nat) (h : k < l.length) : (nums l).getD k 0 = (l[k].toNat : Int) := by simp [nums, List.getD, h]

/-- The value is a slice of bytes that reads as l, below block B. -/
def Bs (w : World) (B : Nat) (v : Value) (l : List UInt8) : Prop := ∃ A c, v = .slice A l.length c ∧ Rd w B 1 A l.length (u8s l)
section
variable {w w' : World} {B : Nat} {v : Value} {l : List UInt8}
theorem Bs.below (h : Bs w B v l) (hb : Below B w w') : Bs w' B v l := let ⟨A, c, e, r⟩ := h; ⟨A, c, e, r.below hb⟩
theorem Bs.wider {B' : Nat} (h : Bs w B v l) (hB : B ≤ B') : Bs w B' v l := let ⟨A, c, e, r⟩ := h; ⟨A, c, e, r.wider hB⟩
theorem Bs.of_cells (h : Bs w B v l) (hk : ∀ p : Addr, p.block < B → w'.cell? p = w.cell? p) : Bs w' B v l := let ⟨A, c, e, r⟩ := h; ⟨A, c, e, r.of_cells hk⟩
theorem Bs.nil : Bs w B (.slice none 0 0) [] := ⟨none, 0, rfl, Rd.nil⟩
end

theorem conv_zero {P : Program} (w : World) (src e : TypeId) (hs : P.underlying src = some (.slice e)) (he : P.underlying e = some (.int .u8)) (p : Option Addr) (c : Nat) :
    ∀ dst, P.underlying dst = some .string → (convert src dst (.slice p 0 c)).run P w = .ok (.string ByteArray.empty) w := by
  intro dst hd
  rw [run_convert_bytes_string w src dst e _ 0 c hs he hd]
  cases p <;> simp [Conv.bytesToString, loadCells]
  all_goals rfl
/-- Bytes turned into a string. -/
theorem Bs.conv {w : World} {B : Nat} {v : Value} {l : List UInt8} (h : Bs w B v l) : (convert 38 9 v).run Try.prog w = .ok (.string (strOfNums (nums l))) w := by
  obtain ⟨A, c, rfl, hr⟩ := h
  by_cases h0 : 0 < l.length
  · obtain ⟨b, off, rfl, hb, hc⟩ := hr.2 h0
    exact run_convert_bytes_arg w _ _ Try.underlying38 Try.underlying5 b off l.length c (nums l) (nums_len l) (fun i hi => by rw [nums_get l i hi]; exact (hc i (by omega)).trans (u8s_at l i hi)) _ Try.underlying9
  · have : l = [] := List.eq_nil_of_length_eq_zero (by omega)
    subst this
    exact conv_zero w _ _ Try.underlying38 Try.underlying5 A c _ Try.underlying9

theorem Bs.load {P : Program} {w : World} {B : Nat} {v : Value} {l : List UInt8} (h : Bs w B v l) : (Extern.Bytes.bytesOf v).run P w = .ok ⟨l.toArray⟩ w := by
  obtain ⟨A, c, rfl, hr⟩ := h
  by_cases h0 : 0 < l.length
  · obtain ⟨b, off, rfl, hb, hc⟩ := hr.2 h0
    have hl := Lib.run_loadBytesX (P := P) w (nums l) ⟨b, off, none⟩ .empty (fun j x hj => by
      have hjl : j < l.length := by have := (List.getElem?_eq_some_iff.1 hj).1; rwa [nums_len] at this
      have e : (⟨b, off, none⟩ : Addr).add j = ⟨b, off + j, none⟩ := by unfold Addr.add; split <;> simp_all
      rw [e, hc j (by omega), u8s_at l j hjl]
      have : (nums l)[j]? = some (l[j].toNat : Int) := by simp [nums, hjl]
      rw [this] at hj; injection hj with hj; rw [hj])
    rw [nums_len, nums_back] at hl
    show (Extern.Bytes.loadBytes ⟨b, off, none⟩ l.length .empty).run P w = _
    rw [hl]; congr 1
    apply ByteArray.ext
    show (#[] : Array UInt8) ++ l.toArray = l.toArray
    simp
  · have : l = [] := List.eq_nil_of_length_eq_zero (by omega)
    subst this
    cases A with
    | none => rfl
    | some a => rfl
theorem run_compareBytes {P : Program} {w : World} {B C : Nat} {u v : Value} {a b : List UInt8} (ha : Bs w B u a) (hb : Bs w C v b) :
    (Extern.BytealgCompare.compare #[u, v]).run P w = .ok (.int .i64 (Lib.compareBytes a b)) w := by
  change Sem.run P (do pure (goInt (Extern.BytealgCompare.cmp (← Extern.Bytes.bytesOf u) (← Extern.Bytes.bytesOf v)))) w = _
  simp only [Sem.run_bind, Sem.run_pure, Result.andThen, ha.load, hb.load]
  rw [Lib.cmp_eq]
  rfl

theorem compare_any (u v : Value) (a b : List UInt8) (B C : Nat) (w : World) (ha : Bs w B u a) (hb : Bs w C v b) :
    Calls Try.prog 41 #[u, v] w fun e w' => e = .returned (.int .i64 (Lib.compareBytes a b)) ∧ w' = w := by
  go_enter Try.func41, Try.ntmps41
  go_wp2_with fail
  rw [run_callFunc_extern Try.func47 (by kernel_rfl) (by kernel_rfl) (by kernel_rfl) (e := Extern.BytealgCompare.compare) (by kernel_rfl), run_compareBytes ha hb]
  simp only [Result.andThen]
  rw [Oper.upon_value]
  go_wp2_with fail
  go_ret
  exact ⟨rfl, rfl⟩
theorem equal_any (u v : Value) (a b : List UInt8) (B C : Nat) (w : World) (ha : Bs w B u a) (hb : Bs w C v b) :
    Calls Try.prog 45 #[u, v] w fun e w' => e = .returned (.bool (a == b)) ∧ w' = w := by
  have := Try.bytes_Equal u v (nums a) (nums b) w ha.conv hb.conv
  rwa [nums_back, nums_back] at this
end Go.Proofs.Ytfcemlcocdhmfaa
