/- slices.Min; num.Split. -/
import Derived.Test.YtjimahagfkpacaaQ4
import Derived.Test.YtjimahagfkpacaaM1
import Derived.Test.YtjimahagfkpacaaA2
import Derived.Deep.OwnRows
import Derived.Deep.RegionHeld3
import Derived.KernelRfl
namespace Go.Proofs.Ytjimahagfkpacaa
open Go.RowKit Go
set_option linter.unusedVariables false
set_option linter.unusedSimpArgs false

theorem Rd.numW {w : World} {B n : Nat} {A : Option Addr} {d : List Int} (h : Rd w B 1 A n (ints d)) {k : Nat} (hk : k < d.length) : ∃ b off, A = some ⟨b, off, none⟩ ∧ b < B ∧ w.cell? ⟨b, off + k, none⟩ = some (.int .i64 d[k]) := by
  have hn : d.length = n * 1 := by rw [← ints_len]; exact h.1
  obtain ⟨b, off, e, hb, hc⟩ := h.2 (by omega)
  exact ⟨b, off, e, hb, (hc k (by omega)).trans (ints_at d k hk)⟩
/-- The least one. -/
def IsMin (l : List Int) (m : Int) : Prop := m ∈ l ∧ ∀ x ∈ l, m ≤ x
def MinOf (l : List Int) (w : World) (e : Ending) (w' : World) : Prop := ∃ m, IsMin l m ∧ e = .returned (.int .i64 m) ∧ w = w'
theorem min_any (A : Option Addr) (zs : List Int) (n c : Nat) (w : World) (hr : Rd w w.heap.size 1 A n (ints zs)) (h1 : 1 ≤ n) (hm : n ≤ 1000000) :
    Calls Try.prog 32 #[.slice A n c] w (MinOf zs w) := by
  have hl : zs.length = n := by have := hr.1; rw [ints_len] at this; omega
  obtain ⟨b, off, rfl, hb, hc⟩ := hr.2 h1
  have HC : Hid (∀ k (h : k < zs.length), w.cell? ⟨b, off + k, none⟩ = some (.int .i64 zs[k])) := Lib.hid (fun k h => (hc k (by omega)).trans (ints_at zs k h))
  have HL := Lib.hid hl
  clear hr hc
  have c0 := HC.out 0 (by omega)
  have c0' : w.cell? ⟨b, off, none⟩ = some (.int .i64 (zs[0]'(by omega))) := by simpa using c0
  have i0 : (0 : Int) < (n : Int) := by omega
  have HS : Hid (IsMin (zs.take 1) (zs[0]'(by omega))) := Lib.hid (by
    have e : zs.take 1 = [zs[0]'(by omega)] := by rw [List.take_succ_eq_append_getElem (by omega)]; simp
    rw [e]; exact ⟨by simp, by simp⟩)
  generalize zs[0]'(by omega) = z0 at *
  clear hl
  go_enter Try.func32, Try.ntmps32
  go_wp2_with fail
  clear c0 c0'
  go_loopg [3, 4] n (fun gh vm vi wr => ∃ (k : Nat) (m : Int), gh = n + 1 - k ∧ 1 ≤ k ∧ k ≤ n ∧ vi = .int .i64 k ∧ vm = .int .i64 m ∧ IsMin (zs.take k) m ∧ w = wr)
  case atStart => exact ⟨1, z0, by omega, by omega, by omega, rfl, rfl, HS.out, rfl⟩
  case round =>
    obtain ⟨k, m, hgk, hk1, hk, rfl, rfl, hmin, rfl⟩ := hrel
    have HG := Lib.hid hgk; have HM := Lib.hid hmin
    clear hgk hmin
    by_cases hlt : k < n
    · have hk' : k < zs.length := by have := HL.out; omega
      have ck := HC.out k hk'
      have HT := Lib.hid (List.take_succ_eq_append_getElem hk')
      generalize zs[k] = z at *
      have i1 : (0 : Int) ≤ (k : Int) := by omega
      have i2 : (k : Int) < (n : Int) := by omega
      have HN : Hid (IsMin (zs.take (k + 1)) (min m z)) := Lib.hid (by
        rw [HT.out]
        obtain ⟨h1, h2⟩ := HM.out
        refine ⟨?_, fun x hx => ?_⟩
        · rcases Int.le_total m z with h | h
          · rw [Int.min_eq_left h]; exact List.mem_append_left _ h1
          · rw [Int.min_eq_right h]; simp
        · rcases List.mem_append.1 hx with h | h
          · have := h2 x h; omega
          · rw [List.mem_singleton] at h; omega)
      go_wp2_with fail
      go_roundg (n + 1 - (k + 1))
      case measure => have := HG.out; omega
      case rel => exact ⟨k + 1, _, rfl, by omega, by omega, by go_num, rfl, HN.out, rfl⟩
    · have hkn : k = n := by omega
      have HF : Hid (IsMin zs m) := Lib.hid (by have := HM.out; rwa [List.take_of_length_le (by have := HL.out; omega)] at this)
      clear hkn
      go_wp2_with fail
      go_ret
      exact ⟨m, HF.out, rfl, rfl⟩

/-- May an amount be split by these weights? -/
def okSp (a : Int) (ws : List Int) : Bool := amt a && decide (1 ≤ ws.length ∧ ws.length ≤ 64) && ws.all (fun x => decide (0 ≤ x)) && decide ((sumS ws).2 = 0 ∧ (sumS ws).1 ≠ 0)
/-- The parts: the quotients, and one more for the first ones of an order. -/
def IsSplit (a : Int) (ws l : List Int) : Prop := ∃ (d : List Int) (k : Nat), Pl ws.length d ∧ Srt (fun x => gt (rstS a ws.sum ws) x.toNat) 0 ws.length d ∧ a - (quoS a ws.sum ws).sum = k ∧ k < ws.length ∧ l = topS (quoS a ws.sum ws) d k
def SplitOf (a : Int) (ws : List Int) (w : World) (e : Ending) (w' : World) : Prop := Below w.heap.size w w' ∧
  ((okSp a ws = false ∧ e = .returned (.tuple #[.slice none 0 0, .int .i64 1])) ∨
   (okSp a ws = true ∧ ∃ (g c : Nat) (l : List Int), e = .returned (.tuple #[.slice (some ⟨g, 0, none⟩) ws.length c, .int .i64 0]) ∧ IsSplit a ws l ∧ Rd w' w'.heap.size 1 (some ⟨g, 0, none⟩) ws.length (ints l)))
theorem SplitOf.no {a : Int} {ws : List Int} {w w' : World} (h : okSp a ws = false) (hb : Below w.heap.size w w') : SplitOf a ws w (.returned (.tuple #[.slice none 0 0, .int .i64 1])) w' := ⟨hb, .inl ⟨h, rfl⟩⟩

theorem sum_n (A : Option Addr) (n c : Nat) (zs : List Int) (w : World) (hr : Rd w w.heap.size 1 A n (ints zs)) (hm : n ≤ 100002) :
    Calls Try.prog 16 #[.slice A n c] w fun e w' => e = .returned (pr (sumS zs)) ∧ Below w.heap.size w w' := by
  have h : zs.length = n := by have := hr.len; simpa [ints] using this
  subst h; exact sum_any A zs c w hr hm
theorem sumS_ok {ws : List Int} (h : (sumS ws).2 = 0) : sumS ws = (ws.sum, 0) ∧ ws.all amt = true ∧ amt ws.sum = true := by
  unfold sumS at *
  by_cases h1 : ws.all amt = true
  · rw [if_pos h1] at *
    by_cases h2 : amt ws.sum = true
    · exact ⟨told_yes h2, h1, h2⟩
    · rw [told_no h2] at h; simp at h
  · rw [if_neg h1] at h; simp at h
theorem sumS_e (ws : List Int) : (sumS ws).2 = 0 ∨ (sumS ws).2 = 1 ∨ (sumS ws).2 = 2 := by
  unfold sumS; split
  · unfold told; split <;> simp
  · simp
end Go.Proofs.Ytjimahagfkpacaa
