/- code.Number: the bytes of a number. -/
import Derived.Test.YtbjjgnaojoaoiaaGreatK3
import Derived.Test.YtbjjgnaojoaoiaaGreatK20
import Derived.Deep.RegionWith
import Derived.Deep.LoopGhost
import Derived.Laws.BitsAll
namespace Go.Proofs.YtbjjgnaojoaoiaaGreat
open Go.RowKit Go
set_option linter.unusedVariables false
set_option linter.unusedSimpArgs false

/-- Bytes as cells. -/
def bys (l : List Nat) : List Value := l.map fun x : Nat => Value.int .u8 ((x : Nat) : Int)
theorem bys_len (l : List Nat) : (bys l).length = l.length := by simp [bys]
theorem bys_app (a b : List Nat) : bys (a ++ b) = bys a ++ bys b := by simp [bys]
theorem bys_at {l : List Nat} {k : Nat} (h : k < l.length) : (bys l)[k]? = some (.int .u8 (l[k] : Int)) := by simp [bys, h]
theorem bys_set {l : List Nat} {k x : Nat} : (bys l).set k (.int .u8 (x : Int)) = bys (l.set k x) := by simp [bys, List.map_set]
/-- The digits behind the first one, from the least on. -/
def tailB (n : Nat) : List Nat := if h : n = 0 then [] else (n % 128 + 128) :: tailB (n / 128)
termination_by n
decreasing_by omega
theorem tailB_zero : tailB 0 = [] := by rw [tailB]; simp
theorem tailB_pos {n : Nat} (h : 0 < n) : tailB n = (n % 128 + 128) :: tailB (n / 128) := by rw [tailB, dif_neg (by omega)]
def numB (n : Nat) : List Nat := (n % 128 :: tailB (n / 128)).reverse
/-- What n may be behind j digits. -/
def capB : Nat → Nat
  | 0 => 18446744073709551616
  | j + 1 => capB j / 128 + 1
theorem capB_10 : capB 10 = 1 := by decide
theorem or_128 : ∀ x : Nat, x < 128 → (BitVec.ofInt 8 (x : Int) ||| BitVec.ofInt 8 128).toNat = x + 128 := by decide
theorem info_u8 : (Tryz.prog.info? 5).map (fun i => (i.zero, i.size, i.bytes)) = some (some (.int .u8 0), 1, 1) := by kernel_rfl

/-- A row of bytes while it is turned round. -/
def revK (l : List Nat) (k : Nat) : List Nat := (List.range l.length).map fun i => if i < k ∨ l.length - k ≤ i then l.getD (l.length - 1 - i) 0 else l.getD i 0
theorem revK_len (l : List Nat) (k : Nat) : (revK l k).length = l.length := by simp [revK]
theorem revK_at {l : List Nat} {k i : Nat} (h : i < l.length) : (revK l k)[i]'(by rw [revK_len]; exact h) = if i < k ∨ l.length - k ≤ i then l.getD (l.length - 1 - i) 0 else l.getD i 0 := by simp [revK]
theorem revK_zero (l : List Nat) : revK l 0 = l := by
  apply List.ext_getElem (by rw [revK_len])
  intro i h1 h2
  rw [revK_at h2, if_neg (by omega), List.getD_eq_getElem?_getD, List.getElem?_eq_getElem h2]; rfl
theorem revK_all {l : List Nat} {k : Nat} (h : l.length ≤ k * 2 + 1) : revK l k = l.reverse := by
  apply List.ext_getElem (by rw [revK_len, List.length_reverse])
  intro i h1 h2
  have h3 : i < l.length := by rw [revK_len] at h1; exact h1
  rw [revK_at h3, List.getElem_reverse]
  have e : l.getD (l.length - 1 - i) 0 = l[l.length - 1 - i] := by rw [List.getD_eq_getElem?_getD, List.getElem?_eq_getElem (by omega)]; rfl
  by_cases hc : i < k ∨ l.length - k ≤ i
  · rw [if_pos hc, e]
  · rw [if_neg hc]
    have : i = l.length - 1 - i := by omega
    rw [List.getD_eq_getElem?_getD, List.getElem?_eq_getElem h3]
    show l[i] = _
    congr 1
theorem revK_next {l : List Nat} {k : Nat} (h : k * 2 + 1 < l.length) : ((revK l k).set k (l.getD (l.length - 1 - k) 0)).set (l.length - 1 - k) (l.getD k 0) = revK l (k + 1) := by
  apply List.ext_getElem (by simp [revK_len])
  intro i h1 h2
  have h3 : i < l.length := by rw [revK_len] at h2; exact h2
  rw [revK_at h3, List.getElem_set, List.getElem_set, revK_at h3]
  by_cases e1 : l.length - 1 - k = i
  · rw [if_pos e1, if_pos (by omega), ← e1]; congr 1; omega
  · rw [if_neg e1]
    by_cases e2 : k = i
    · rw [if_pos e2, if_pos (by omega), e2]
    · rw [if_neg e2]
      by_cases e3 : i < k ∨ l.length - k ≤ i
      · rw [if_pos e3, if_pos (by omega)]
      · rw [if_neg e3, if_neg (by omega)]
theorem revK_lo {l : List Nat} {k : Nat} (h : k * 2 + 1 < l.length) : (revK l k)[k]'(by rw [revK_len]; omega) = l.getD k 0 ∧ (revK l k)[l.length - 1 - k]'(by rw [revK_len]; omega) = l.getD (l.length - 1 - k) 0 := by
  rw [revK_at (by omega), revK_at (by omega), if_neg (by omega), if_neg (by omega)]; exact ⟨rfl, rfl⟩
set_option maxHeartbeats 3200000 in
set_option maxRecDepth 100000 in
theorem reverseB_any (B g cap n : Nat) (l : List Nat) (w : World) (hn : l.length = n) (h : w.ownsRow B 5 1 (.slice (some ⟨g, 0, none⟩) n cap) n (bys l)) (hB : B ≤ w.heap.size) (hm : n ≤ 1000000) :
    Calls Tryz.prog 117 #[.slice (some ⟨g, 0, none⟩) n cap] w fun e w' => (∃ x, e = .returned x) ∧ w'.ownsRow B 5 1 (.slice (some ⟨g, 0, none⟩) n cap) n (bys l.reverse) ∧ Below B w w' := by
  have HN := Lib.hid hn
  have h0 : w.ownsRow B 5 1 (.slice (some ⟨g, 0, none⟩) n cap) n (bys (revK l 0)) := by rw [revK_zero]; exact h
  have H0 := Lib.hid h0
  have hgB : B ≤ g := (own_block_type h (b := g) rfl).1
  have hwr : IntKind.i64.wrap ((n : Int) - 1) = (n : Int) - 1 := IntWalk.i64_in _ (by omega)
  clear h h0 hn
  go_enter Tryz.func117, Tryz.ntmps117
  go_wp2_with fail
  go_loopg [2, 3] n (fun gh v2 v3 wr => ∃ k : Nat, gh = n - k * 2 ∧ k * 2 ≤ n + 1 ∧ v2 = .int .i64 k ∧ v3 = .int .i64 ((n : Int) - 1 - k) ∧ wr.ownsRow B 5 1 (.slice (some ⟨g, 0, none⟩) n cap) n (bys (revK l k)) ∧ Below B w wr)
  case atStart => exact ⟨0, by omega, by omega, rfl, by go_num, H0.out, Below.refl _ _⟩
  case round =>
    obtain ⟨k, hgk, hk, rfl, rfl, hown, hbr⟩ := hrel
    have HG := Lib.hid hgk; have HB := Lib.hid hbr
    by_cases hlt : k * 2 + 1 < n
    · obtain ⟨j, hj⟩ : ∃ j : Nat, l.length - 1 - k = j := ⟨_, rfl⟩
      have hln := HN.out
      have ej : (n : Int) - 1 - k = (j : Int) := by omega
      have hkl : k < (revK l k).length := by rw [revK_len]; omega
      have hjl : j < (revK l k).length := by rw [revK_len]; omega
      obtain ⟨hx1, hx2⟩ := revK_lo (l := l) (k := k) (by omega)
      have c1 := (own_cell hown (bys_at hkl)).1
      have c2 := (own_cell hown (bys_at hjl)).1
      have hf : ∀ i, wr.frozen? ⟨g, i, none⟩ = false := fun i => by obtain ⟨_, cs, hcs⟩ := own_block_type hown (b := g) rfl; exact blk_free hcs i
      have hgl : g < wr.heap.size := by obtain ⟨_, cs, hcs⟩ := own_block_type hown (b := g) rfl; exact blk_lt hcs
      have hx2' : (revK l k)[j]'hjl = l.getD j 0 := by subst hj; exact hx2
      rw [hx1] at c1; rw [hx2'] at c2
      have HST : Hid (((wr.setCell ⟨g, k, none⟩ (.int .u8 (l.getD j 0 : Nat))).setCell ⟨g, j, none⟩ (.int .u8 (l.getD k 0 : Nat))).ownsRow B 5 1 (.slice (some ⟨g, 0, none⟩) n cap) n (bys (revK l (k + 1))) ∧ ((wr.setCell ⟨g, j, none⟩ (.int .u8 (l.getD k 0 : Nat))).setCell ⟨g, k, none⟩ (.int .u8 (l.getD j 0 : Nat))).ownsRow B 5 1 (.slice (some ⟨g, 0, none⟩) n cap) n (bys (revK l (k + 1)))) := Lib.hid (by
        have e := revK_next (l := l) (k := k) (by omega)
        rw [hj] at e
        have h1 := own_set (own_set hown (i := k) (by omega) (.int .u8 (l.getD j 0 : Nat))) (i := j) (by omega) (.int .u8 (l.getD k 0 : Nat))
        have h2 := own_set (own_set hown (i := j) (by omega) (.int .u8 (l.getD k 0 : Nat))) (i := k) (by omega) (.int .u8 (l.getD j 0 : Nat))
        rw [bys_set, bys_set] at h1 h2
        rw [List.set_comm _ _ (by omega : j ≠ k)] at h2
        rw [e] at h1 h2
        exact ⟨h1, h2⟩)
      generalize l.getD j 0 = vj at *
      generalize l.getD k 0 = vk at *
      rw [ej]
      have i1 : (0 : Int) ≤ (k : Int) := by omega
      have i2 : (k : Int) < (n : Int) := by omega
      have i3 : (0 : Int) ≤ (j : Int) := by omega
      have i4 : (j : Int) < (n : Int) := by omega
      have i5 : (k : Int) < (j : Int) := by omega
      have i6 : decide (k < j) = true := by simp; omega
      have hkj : k ≠ j := by omega
      have hjk : j ≠ k := by omega
      have hw2 : IntKind.i64.wrap ((j : Int) - 1) = (j : Int) - 1 := IntWalk.i64_in _ (by omega)
      have HEJ : Hid ((j : Int) - 1 = (n : Int) - 1 - ((k + 1 : Nat) : Int)) := Lib.hid (by omega)
      clear hgk hown hbr hx1 hx2 hx2' hkl hjl ej hj hwr hln
      go_wp2_with fail
      go_region_with (fail)
      all_goals go_wp2_with fail
      all_goals go_roundg (n - (k + 1) * 2)
      all_goals first
        | exact ⟨k + 1, rfl, by omega, by go_num, by rw [← HEJ.out], by first | exact HST.out.1.below (Below.refl _ _).drew | exact own_drew HST.out.1 | exact own_drew HST.out.2, by first | exact ((HB.out.setCell (p := ⟨g, k, none⟩) hgB _).setCell (p := ⟨g, j, none⟩) hgB _).drew | exact ((HB.out.setCell (p := ⟨g, j, none⟩) hgB _).setCell (p := ⟨g, k, none⟩) hgB _).drew⟩
        | (have := HG.out; omega)
    · have i5 : ¬ ((k : Int) < (n : Int) - 1 - k) := by omega
      have i6 : decide ((k : Int) < (n : Int) - 1 - k) = false := by simp; omega
      have hrv := revK_all (l := l) (k := k) (by have := HN.out; omega)
      rw [hrv] at hown
      have HO := Lib.hid hown
      clear hgk hown hbr hrv hwr i5
      go_wp2_with fail
      all_goals go_end0
      all_goals exact ⟨⟨_, rfl⟩, HO.out, HB.out⟩
end Go.Proofs.YtbjjgnaojoaoiaaGreat
