/- Laws. -/
import Derived.Test.YtbjjgnaojoaoiaaGreatZZ2
import Derived.Test.YtbjjgnaojoaoiaaGreatZZ3
namespace Go.Proofs.YtbjjgnaojoaoiaaGreat
open Go.RowKit Go
set_option linter.unusedVariables false
set_option linter.unusedSimpArgs false
set_option maxHeartbeats 3200000
set_option maxRecDepth 100000
def bys (l : List Nat) : List Value := l.map fun x : Nat => Value.int .u8 ((x : Nat) : Int)
theorem bys_app (a b : List Nat) : bys (a ++ b) = bys a ++ bys b := by simp [bys]
theorem bys_at {l : List Nat} {k : Nat} (h : k < l.length) : (bys l)[k]? = some (.int .u8 (l[k] : Int)) := by simp [bys, h]
theorem bys_set {l : List Nat} {k x : Nat} : (bys l).set k (.int .u8 (x : Int)) = bys (l.set k x) := by simp [bys, List.map_set]
def tailB (n : Nat) : List Nat := if h : n = 0 then [] else (n % 128 + 128) :: tailB (n / 128)
termination_by n
decreasing_by omega
theorem tailB_zero : tailB 0 = [] := by rw [tailB]; simp
theorem tailB_pos {n : Nat} (h : 0 < n) : tailB n = (n % 128 + 128) :: tailB (n / 128) := by rw [tailB, dif_neg (by omega)]
def numB (n : Nat) : List Nat := (n % 128 :: tailB (n / 128)).reverse
theorem or_128 : ∀ x : Nat, x < 128 → (BitVec.ofInt 8 (x : Int) ||| BitVec.ofInt 8 128).toNat = x + 128 := by decide
theorem info_u8 : (Tryz.prog.info? 5).map (fun i => (i.zero, i.size, i.bytes)) = some (some (.int .u8 0), 1, 1) := by kernel_rfl
def revK (l : List Nat) (k : Nat) : List Nat := (List.range l.length).map fun i => if i < k ∨ l.length - k ≤ i then l.getD (l.length - 1 - i) 0 else l.getD i 0
theorem revK_len (l : List Nat) (k : Nat) : (revK l k).length = l.length := by simp [revK]
theorem revK_at {l : List Nat} {k i : Nat} (h : i < l.length) : (revK l k)[i]'(by rw [revK_len]; exact h) = if i < k ∨ l.length - k ≤ i then l.getD (l.length - 1 - i) 0 else l.getD i 0 := by simp [revK]
theorem revK_zero (l : List Nat) : revK l 0 = l := by
 apply List.ext_getElem (by rw [revK_len])
 intro i h1 h2
 rw [revK_at h2, if_neg (by omega), List.getD_eq_getElem?_getD, List.getElem?_eq_getElem h2]; rfl
theorem revK_all {l : List Nat} {k : Nat} (h : l.length ≤ k * 2 + 1) : revK l k = l.reverse := by
 apply List.ext_getElem (by rw [revK_len, List.length_reverse])
 intro i h1 h2
 have h3 : i < l.length := by rw [revK_len] at h1; exact h1
 rw [revK_at h3, List.getElem_reverse]
 have e : l.getD (l.length - 1 - i) 0 = l[l.length - 1 - i] := by rw [List.getD_eq_getElem?_getD, List.getElem?_eq_getElem (by omega)]; rfl
 by_cases hc : i < k ∨ l.length - k ≤ i
 · rw [if_pos hc, e]
 · rw [if_neg hc]
   have : i = l.length - 1 - i := by omega
   rw [List.getD_eq_getElem?_getD, List.getElem?_eq_getElem h3]
   show l[i] = _
   congr 1
theorem revK_next {l : List Nat} {k : Nat} (h : k * 2 + 1 < l.length) : ((revK l k).set k (l.getD (l.length - 1 - k) 0)).set (l.length - 1 - k) (l.getD k 0) = revK l (k + 1) := by
 apply List.ext_getElem (by simp [revK_len])
 intro i h1 h2
 have h3 : i < l.length := by rw [revK_len] at h2; exact h2
 rw [revK_at h3, List.getElem_set, List.getElem_set, revK_at h3]
 by_cases e1 : l.length - 1 - k = i
 · rw [if_pos e1, if_pos (by omega), ← e1]; congr 1; omega
 · rw [if_neg e1]
   by_cases e2 : k = i
   · rw [if_pos e2, if_pos (by omega), e2]
   · rw [if_neg e2]
     by_cases e3 : i < k ∨ l.length - k ≤ i
     · rw [if_pos e3, if_pos (by omega)]
     · rw [if_neg e3, if_neg (by omega)]
theorem revK_lo {l : List Nat} {k : Nat} (h : k * 2 + 1 < l.length) : (revK l k)[k]'(by rw [revK_len]; omega) = l.getD k 0 ∧ (revK l k)[l.length - 1 - k]'(by rw [revK_len]; omega) = l.getD (l.length - 1 - k) 0 := by
 rw [revK_at (by omega), revK_at (by omega), if_neg (by omega), if_neg (by omega)]; exact ⟨rfl, rfl⟩
theorem reverseB_any (B g cap n : Nat) (l : List Nat) (w : World) (hn : l.length = n) (h : w.ownsRow B 5 1 (.slice (some ⟨g, 0, none⟩) n cap) n (bys l)) (hB : B ≤ w.heap.size) (hm : n ≤ 1000000) :
  Calls Tryz.prog 117 #[.slice (some ⟨g, 0, none⟩) n cap] w fun e w' => (∃ x, e = .returned x) ∧ w'.ownsRow B 5 1 (.slice (some ⟨g, 0, none⟩) n cap) n (bys l.reverse) ∧ Below B w w' := by
 have HN := hyd hn
 have h0 : w.ownsRow B 5 1 (.slice (some ⟨g, 0, none⟩) n cap) n (bys (revK l 0)) := by rw [revK_zero]; exact h
 have H0 := hyd h0
 have hgB : B ≤ g := (own_block_type h (b := g) rfl).1
 have hwr : IntKind.i64.wrap ((n : Int) - 1) = (n : Int) - 1 := IntWalk.i64_in _ (by omega)
 clear h h0 hn
 go_enter Tryz.func117, Tryz.ntmps117
 go_wp2_with fail
 go_loopg [2, 3] n (fun gh v2 v3 wr => ∃ k : Nat, gh = n - k * 2 ∧ k * 2 ≤ n + 1 ∧ v2 = .int .i64 k ∧ v3 = .int .i64 ((n : Int) - 1 - k) ∧ wr.ownsRow B 5 1 (.slice (some ⟨g, 0, none⟩) n cap) n (bys (revK l k)) ∧ Below B w wr)
 case atStart => exact ⟨0, by omega, by omega, rfl, by go_num, H0.out, Below.refl _ _⟩
 case round =>
  obtain ⟨k, hgk, hk, rfl, rfl, hown, hbr⟩ := hrel
  have HG := hyd hgk; have HB := hyd hbr
  by_cases hlt : k * 2 + 1 < n
  · obtain ⟨j, hj⟩ : ∃ j : Nat, l.length - 1 - k = j := ⟨_, rfl⟩
    have hln := HN.out
    have ej : (n : Int) - 1 - k = (j : Int) := by omega
    have hkl : k < (revK l k).length := by rw [revK_len]; omega
    have hjl : j < (revK l k).length := by rw [revK_len]; omega
    obtain ⟨hx1, hx2⟩ := revK_lo (l := l) (k := k) (by omega)
    have c1 := (own_cell hown (bys_at hkl)).1
    have c2 := (own_cell hown (bys_at hjl)).1
    have hf : ∀ i, wr.frozen? ⟨g, i, none⟩ = false := fun i => by obtain ⟨_, cs, hcs⟩ := own_block_type hown (b := g) rfl; exact blk_free hcs i
    have hgl : g < wr.heap.size := by obtain ⟨_, cs, hcs⟩ := own_block_type hown (b := g) rfl; exact blk_lt hcs
    have hx2' : (revK l k)[j]'hjl = l.getD j 0 := by subst hj; exact hx2
    rw [hx1] at c1; rw [hx2'] at c2
    have HST : Hid (((wr.setCell ⟨g, k, none⟩ (.int .u8 (l.getD j 0 : Nat))).setCell ⟨g, j, none⟩ (.int .u8 (l.getD k 0 : Nat))).ownsRow B 5 1 (.slice (some ⟨g, 0, none⟩) n cap) n (bys (revK l (k + 1))) ∧ ((wr.setCell ⟨g, j, none⟩ (.int .u8 (l.getD k 0 : Nat))).setCell ⟨g, k, none⟩ (.int .u8 (l.getD j 0 : Nat))).ownsRow B 5 1 (.slice (some ⟨g, 0, none⟩) n cap) n (bys (revK l (k + 1)))) := hyd (by
     have e := revK_next (l := l) (k := k) (by omega)
     rw [hj] at e
     have h1 := own_set (own_set hown (i := k) (by omega) (.int .u8 (l.getD j 0 : Nat))) (i := j) (by omega) (.int .u8 (l.getD k 0 : Nat))
     have h2 := own_set (own_set hown (i := j) (by omega) (.int .u8 (l.getD k 0 : Nat))) (i := k) (by omega) (.int .u8 (l.getD j 0 : Nat))
     rw [bys_set, bys_set] at h1 h2
     rw [List.set_comm _ _ (by omega : j ≠ k)] at h2
     rw [e] at h1 h2
     exact ⟨h1, h2⟩)
    generalize l.getD j 0 = vj at *
    generalize l.getD k 0 = vk at *
    rw [ej]
    have i1 : (0 : Int) ≤ (k : Int) := by omega
    have i2 : (k : Int) < (n : Int) := by omega
    have i3 : (0 : Int) ≤ (j : Int) := by omega
    have i4 : (j : Int) < (n : Int) := by omega
    have i5 : (k : Int) < (j : Int) := by omega
    have i6 : decide (k < j) = true := by simp; omega
    have hkj : k ≠ j := by omega
    have hjk : j ≠ k := by omega
    have hw2 : IntKind.i64.wrap ((j : Int) - 1) = (j : Int) - 1 := IntWalk.i64_in _ (by omega)
    have HEJ : Hid ((j : Int) - 1 = (n : Int) - 1 - ((k + 1 : Nat) : Int)) := hyd (by omega)
    clear hgk hown hbr hx1 hx2 hx2' hkl hjl ej hj hwr hln
    go_wp2_with fail
    go_region_with (fail)
    all_goals go_wp2_with fail
    all_goals go_roundg (n - (k + 1) * 2)
    all_goals first
     | exact ⟨k + 1, rfl, by omega, by go_num, by rw [← HEJ.out], by first | exact HST.out.1.below (Below.refl _ _).drew | exact own_drew HST.out.1 | exact own_drew HST.out.2, by first | exact ((HB.out.setCell (p := ⟨g, k, none⟩) hgB _).setCell (p := ⟨g, j, none⟩) hgB _).drew | exact ((HB.out.setCell (p := ⟨g, j, none⟩) hgB _).setCell (p := ⟨g, k, none⟩) hgB _).drew⟩
     | (have := HG.out; omega)
  · have i5 : ¬ ((k : Int) < (n : Int) - 1 - k) := by omega
    have i6 : decide ((k : Int) < (n : Int) - 1 - k) = false := by simp; omega
    have hrv := revK_all (l := l) (k := k) (by have := HN.out; omega)
    rw [hrv] at hown
    have HO := hyd hown
    clear hgk hown hbr hrv hwr i5
    go_wp2_with fail
    all_goals go_end0
    all_goals exact ⟨⟨_, rfl⟩, HO.out, HB.out⟩
section
def headB (n : Nat) : List Nat := (tailB n).reverse
theorem headB_pos {n : Nat} (h : 0 < n) : headB n = headB (n / 128) ++ [n % 128 + 128] := by unfold headB; rw [tailB_pos h]; simp
theorem headB_zero : headB 0 = [] := by unfold headB; rw [tailB_zero]; rfl
theorem numB_eq (n : Nat) : numB n = headB (n / 128) ++ [n % 128] := by unfold numB headB; simp
theorem headB_len : ∀ (j n : Nat), n < 128 ^ j → (headB n).length ≤ j
 | 0, n, h => by
   have : n = 0 := by simpa using h
   subst this; rw [headB_zero]; simp
 | j + 1, n, h => by
   rcases Nat.eq_zero_or_pos n with rfl | h0
   · rw [headB_zero]; simp
   · rw [headB_pos h0]
     have := headB_len j (n / 128) (by rw [Nat.pow_succ] at h; omega)
     simp; omega
theorem numB_len {n : Nat} (h : n < 18446744073709551616) : (numB n).length ≤ 10 := by
 rw [numB_eq]
 have := headB_len 9 (n / 128) (by omega)
 simp; omega
theorem numB_pos (n : Nat) : 0 < (numB n).length := by rw [numB_eq]; simp
def numsB (l : List Int) : List Nat := l.flatMap fun n => numB n.toNat
theorem numsB_app (a b : List Int) : numsB (a ++ b) = numsB a ++ numsB b := by simp [numsB]
theorem numsB_cons (a : Int) (b : List Int) : numsB (a :: b) = numB a.toNat ++ numsB b := by simp [numsB]
def okN (n : Int) : Prop := 0 ≤ n ∧ n < 18446744073709551616
theorem numsB_len {l : List Int} (h : ∀ n ∈ l, okN n) : (numsB l).length ≤ l.length * 10 := by
 induction l with
 | nil => simp [numsB]
 | cons n l ih =>
   have h1 := h n (by simp)
   have h2 := numB_len (n := n.toNat) (by unfold okN at h1; omega)
   have h3 := ih fun m hm => h m (by simp [hm])
   rw [numsB_cons, List.length_append, List.length_cons, Nat.succ_mul]; omega
end
section
open Go.RowKit Go
open Go.Sort (grow grow_empty grow_grow alloc_eq_grow heap_grow_old)
theorem Rd.new {w : World} {cs : Array Value} {t : TypeId} {n s g : Nat} (hg : g = w.heap.size) (h : cs.size = n * s) : Rd (w.alloc (.cells cs t)) (w.alloc (.cells cs t)).heap.size s (some ⟨g, 0, none⟩) n cs.toList := by
 subst hg; exact Rd.fresh w cs t n s h
theorem within_yes (z lo hi : Int) (w : World) (h : lo ≤ z ∧ z ≤ hi) : Calls Tryz.prog 99 #[.int .i64 z, .int .i64 lo, .int .i64 hi] w fun e w' => e = .returned (.bool true) ∧ w = w' := by
 obtain ⟨h1, h2⟩ := h
 go_enter Tryz.func99, Tryz.ntmps99
 go_wp2_with fail
 go_ret
 exact ⟨rfl, rfl⟩
theorem within_no (z lo hi : Int) (w : World) (h : ¬ (lo ≤ z ∧ z ≤ hi)) : Calls Tryz.prog 99 #[.int .i64 z, .int .i64 lo, .int .i64 hi] w fun e w' => e = .returned (.bool false) ∧ w = w' := by
 by_cases h1 : lo ≤ z
 · have h2 : hi < z := by omega
   clear h
   go_enter Tryz.func99, Tryz.ntmps99
   go_wp2_with fail
   go_ret
   exact ⟨by first | rfl | (simp; omega), rfl⟩
 · have h2 : z < lo := by omega
   clear h h1
   go_enter Tryz.func99, Tryz.ntmps99
   go_wp2_with fail
   go_ret
   exact ⟨by first | rfl | (simp; omega), rfl⟩
theorem within64_yes (z lo hi : Int) (w : World) (h : lo ≤ z ∧ z ≤ hi) : Calls Tryz.prog 100 #[.int .i64 z, .int .i64 lo, .int .i64 hi] w fun e w' => e = .returned (.bool true) ∧ w = w' := by
 obtain ⟨h1, h2⟩ := h
 go_enter Tryz.func100, Tryz.ntmps100
 go_wp2_with fail
 go_ret
 exact ⟨rfl, rfl⟩
theorem within64_no (z lo hi : Int) (w : World) (h : ¬ (lo ≤ z ∧ z ≤ hi)) : Calls Tryz.prog 100 #[.int .i64 z, .int .i64 lo, .int .i64 hi] w fun e w' => e = .returned (.bool false) ∧ w = w' := by
 by_cases h1 : lo ≤ z
 · have h2 : hi < z := by omega
   clear h
   go_enter Tryz.func100, Tryz.ntmps100
   go_wp2_with fail
   go_ret
   exact ⟨by first | rfl | (simp; omega), rfl⟩
 · have h2 : z < lo := by omega
   clear h h1
   go_enter Tryz.func100, Tryz.ntmps100
   go_wp2_with fail
   go_ret
   exact ⟨by first | rfl | (simp; omega), rfl⟩
theorem clo_any (gb B n : Nat) (A : Option Addr) (its : List Dq) (c : Nat) (i k : Nat) (w : World) (hb : w.cell? ⟨gb, 0, none⟩ = some (.slice A n c)) (hr : Rd w B 4 A n (itCs its)) (hn : n ≤ 1000000) (hi : i < its.length) (hk : k < its.length) :
  Calls Tryz.prog 102 #[.int .i64 i, .int .i64 k, .pointer (some ⟨gb, 0, none⟩)] w fun e w' => e = .returned (.int .i64 (ordI its[i] its[k])) ∧ Lays w w' := by
 have hl : its.length = n := by have := hr.1; rw [itCs_len] at this; omega
 obtain ⟨b, off, rfl, hB, x0, x1, x2, x3⟩ := hr.it hi
 obtain ⟨y0, y1, y2, y3⟩ := hr.it2 hk
 clear hr
 have i1 : (0 : Int) ≤ (i : Int) := by omega
 have i2 : (i : Int) < (n : Int) := by omega
 have k1 : (0 : Int) ≤ (k : Int) := by omega
 have k2 : (k : Int) < (n : Int) := by omega
 clear hl
 have hgbl := World.block_lt_of_cell? w _ hb
 have hbl := World.block_lt_of_cell? w _ x0
 generalize its[i] = a at *
 generalize its[k] = d at *
 go_enter Tryz.func102, Tryz.ntmps102
 go_wp2_with fail
 go_region_held3 (fun w' => w'.cell? ⟨gb, 0, none⟩ = some (.slice (some ⟨b, off, none⟩) n c) ∧ w'.cell? ⟨b, off + i * 4, none⟩ = some (.int .i64 a.due) ∧ w'.cell? ⟨b, off + i * 4 + 1, none⟩ = some (.int .i64 a.kind) ∧ w'.cell? ⟨b, off + i * 4 + 2, none⟩ = some (.int .i64 a.per) ∧ w'.cell? ⟨b, off + i * 4 + 3, none⟩ = some (.int .i64 a.opn) ∧
   w'.cell? ⟨b, off + k * 4, none⟩ = some (.int .i64 d.due) ∧ w'.cell? ⟨b, off + k * 4 + 1, none⟩ = some (.int .i64 d.kind) ∧ w'.cell? ⟨b, off + k * 4 + 2, none⟩ = some (.int .i64 d.per) ∧ w'.cell? ⟨b, off + k * 4 + 3, none⟩ = some (.int .i64 d.opn))
  ((first | (with_reducible exact ⟨hb, x0, x1, x2, x3, y0, y1, y2, y3⟩) | exact ⟨hb, x0, x1, x2, x3, y0, y1, y2, y3⟩ | exact ⟨(hcB _ hgbl).trans hb, (hcB _ hbl).trans x0, (hcB _ hbl).trans x1, (hcB _ hbl).trans x2, (hcB _ hbl).trans x3, (hcB _ hbl).trans y0, (hcB _ hbl).trans y1, (hcB _ hbl).trans y2, (hcB _ hbl).trans y3⟩))
  ((go_at_call 103; refine (order_any a d _).mono ?_; rintro e w2 ⟨rfl, hw2⟩; have hcB := fun (p : Addr) (hp : p.block < w.heap.size) => hw2.below.cell hp; have HW2 := hyd hw2; clear hw2))
 all_goals go_wp2_with fail
 all_goals go_ret
 all_goals exact ⟨rfl, (Lays.refl _).drew.trans HW2.out⟩
end
theorem u8_or (m : Nat) : bits .or .u8 ((m : Int) % 128) 128 = ((m % 128 + 128 : Nat) : Int) := by
 have e : (m : Int) % 128 = ((m % 128 : Nat) : Int) := by omega
 rw [e]
 show IntKind.u8.wrap (((BitVec.ofInt 8 ((m % 128 : Nat) : Int) ||| BitVec.ofInt 8 128).toNat : Nat) : Int) = _
 rw [or_128 _ (by omega)]
 exact IntWalk.u8_in _ (by omega)
theorem u64_div (m : Nat) (h : m < 18446744073709551616) : IntKind.u64.wrap ((m : Int) / 128) = ((m / 128 : Nat) : Int) := by
 rw [IntWalk.u64_in _ (by omega)]; omega
theorem number_any (n : Nat) (w : World) (hn : n < 18446744073709551616) :
  Calls Tryz.prog 62 #[.int .u64 n] w fun e w' => (∃ g c, e = .returned (.slice (some ⟨g, 0, none⟩) (numB n).length c) ∧ w'.ownsRow w.heap.size 5 1 (.slice (some ⟨g, 0, none⟩) (numB n).length c) (numB n).length (bys (numB n))) ∧ Below w.heap.size w w' := by
 obtain ⟨i0, hi, hz0, hz1, hz2⟩ := info_parts info_u8
 have HI := hyd hi
 have hlen := numB_len hn
 obtain ⟨r, hr⟩ : ∃ r : List Nat, r = n % 128 :: tailB (n / 128) := ⟨_, rfl⟩
 have hrl : r.length = (numB n).length := by rw [hr]; unfold numB; simp
 have hrr : r.reverse = numB n := by rw [hr]; rfl
 have HR := hyd hr; have HRL := hyd hrl; have HRR := hyd hrr
 clear hi hrl hr hrr
 have hn0 : [Value.int .u8 ((n % 128 : Nat) : Int)] = bys [n % 128] := rfl
 have hq0 := u64_div n hn
 have HN := hyd hn
 clear hn
 go_enter Tryz.func62, Tryz.ntmps62
 go_wp2_with fail
 go_loopg [0, 3] (n / 128) (fun gh v0 v3 wr => ∃ (m : Nat) (l : List Nat), gh = m ∧ m < 18446744073709551616 ∧ v0 = .int .u64 m ∧ 0 < l.length ∧ l ++ tailB m = r ∧ wr.ownsRow w.heap.size 5 1 v3 l.length (bys l) ∧ Below w.heap.size w wr)
 case atStart =>
  have e : (n : Int) % 128 = ((n % 128 : Nat) : Int) := by omega
  rw [e]
  refine ⟨n / 128, [n % 128], rfl, by have := HN.out; omega, rfl, by simp, by rw [HR.out]; rfl, ?_, (Below.refl _ _).alloc (Nat.le_refl _) _⟩
  exact ⟨rfl, .inr ⟨w.heap.size, 1, #[.int .u8 ((n % 128 : Nat) : Int)], rfl, Nat.le_refl _, blk_new _ _ rfl, Nat.le_refl _, by unfold maxLen; omega, by simp, rfl⟩⟩
 case round =>
  obtain ⟨m, l, hgm, hm, rfl, hl0, hl, hown, hbr⟩ := hrel
  have HG := hyd hgm; have HL := hyd hl; have HO := hyd hown; have HB := hyd hbr; have HM := hyd hm
  have hll : l.length + (tailB m).length ≤ 10 := by have := congrArg List.length hl; rw [List.length_append, HRL.out] at this; omega
  clear hgm hl hown hbr hm hlen
  by_cases h0 : 0 < m
  · have i1 : (0 : Int) < (m : Int) := by omega
    have hz3 := HB.out.size
    have hl1 : l.length < 10 := by rw [tailB_pos h0, List.length_cons] at hll; omega
    have hq1 := u64_div m HM.out
    have hor := u8_or m
    clear hll
    go_wp2_with (at_builtin; (refine wpList_app rfl (.tmp 14) (.tmp 19) _ rfl w.heap.size 5 i0 _ 1 1 Tryz.underlying66 HI.out hz0 hz1 hz2 rfl (by omega) _ _ _ rfl (HO.out.alloc _) _ _ 1 1 [.int .u8 ((m : Int) % 128 + 128)] rfl (Rd.new (cs := #[.int .u8 ((m : Int) % 128 + 128)]) rfl rfl) (by simp [Value.oneCell']) (by unfold maxLen; omega) (by omega) (by simp; omega) ?_; intro v2 w2 hown2 hg2 hat2))
    go_roundg (m / 128)
    case measure => have := HG.out; omega
    case rel => exact ⟨m / 128, l ++ [m % 128 + 128], rfl, by have := HM.out; omega, rfl, by simp, by rw [← HL.out, tailB_pos h0]; simp, by rw [bys_app, List.length_append]; exact hown2, (HB.out.alloc hz3 _).grown hg2 (by simp; omega) (fun k hk => (HO.out.lt k hk).1)⟩
  · have h0 : m = 0 := by omega
    subst h0
    rw [tailB_zero, List.append_nil] at HL
    obtain ⟨g, c, rfl, _⟩ := HO.out.form hl0
    have HRV := hyd (reverseB_any w.heap.size g c l.length l wr rfl HO.out HB.out.size (by omega))
    go_wp2_with fail
    refine HRV.out.mono ?_; rintro e w1 ⟨⟨x, rfl⟩, ho, hb⟩
    go_wp2_with fail
    go_ret
    exact ⟨⟨g, c, by rw [← HRR.out, ← HL.out]; simp, by rw [← HRR.out, ← HL.out, List.length_reverse]; exact ho⟩, HB.out.trans hb⟩
theorem rnumber_any (n : Nat) (w : World) (hn : n < 18446744073709551616) :
  Calls Tryz.prog 166 #[.int .u64 n] w fun e w' => (∃ g c, e = .returned (.slice (some ⟨g, 0, none⟩) (numB n).length c) ∧ w'.ownsRow w.heap.size 5 1 (.slice (some ⟨g, 0, none⟩) (numB n).length c) (numB n).length (bys (numB n))) ∧ Below w.heap.size w w' := by
 obtain ⟨i0, hi, hz0, hz1, hz2⟩ := info_parts info_u8
 have HI := hyd hi
 have hlen := numB_len hn
 have hq0 := u64_div n hn
 have HN := hyd hn
 clear hi hn
 go_enter Tryz.func166, Tryz.ntmps166
 go_wp2_with fail
 go_loopg [0, 3] (n / 128) (fun gh v0 v3 wr => ∃ (m : Nat) (l : List Nat), gh = m ∧ m < 18446744073709551616 ∧ v0 = .int .u64 m ∧ 0 < l.length ∧ headB m ++ l = numB n ∧ wr.ownsRow w.heap.size 5 1 v3 l.length (bys l) ∧ Below w.heap.size w wr)
 case atStart =>
  have e : (n : Int) % 128 = ((n % 128 : Nat) : Int) := by omega
  rw [e]
  refine ⟨n / 128, [n % 128], rfl, by have := HN.out; omega, rfl, by simp, (numB_eq n).symm, ?_, (Below.refl _ _).alloc (Nat.le_refl _) _⟩
  exact ⟨rfl, .inr ⟨w.heap.size, 1, #[.int .u8 ((n % 128 : Nat) : Int)], rfl, Nat.le_refl _, blk_new _ _ rfl, Nat.le_refl _, by unfold maxLen; omega, by simp, rfl⟩⟩
 case round =>
  obtain ⟨m, l, hgm, hm, rfl, hl0, hl, hown, hbr⟩ := hrel
  have HG := hyd hgm; have HL := hyd hl; have HO := hyd hown; have HB := hyd hbr; have HM := hyd hm
  have hll : (headB m).length + l.length ≤ 10 := by have := congrArg List.length hl; rw [List.length_append] at this; omega
  obtain ⟨g, c, rfl, _⟩ := hown.form hl0
  clear hgm hl hown hbr hm hlen
  by_cases h0 : 0 < m
  · have i1 : (0 : Int) < (m : Int) := by omega
    have hz3 := HB.out.size
    have hl1 : l.length < 10 := by rw [headB_pos h0, List.length_append] at hll; simp at hll; omega
    have hq1 := u64_div m HM.out
    have e1 : (m : Int) % 128 + 128 = ((m % 128 + 128 : Nat) : Int) := by omega
    have HMK : Hid ((wr.alloc (.cells #[.int .u8 ((m : Int) % 128 + 128)] 5)).ownsRow wr.heap.size 5 1 (.slice (some ⟨wr.heap.size, 0, none⟩) 1 1) 1 (bys [m % 128 + 128])) := hyd (by
     rw [e1]
     exact ⟨rfl, .inr ⟨wr.heap.size, 1, #[.int .u8 ((m % 128 + 128 : Nat) : Int)], rfl, Nat.le_refl _, blk_new _ _ rfl, Nat.le_refl _, by unfold maxLen; omega, by simp, rfl⟩⟩)
    have HRD : Hid (Rd (wr.alloc (.cells #[.int .u8 ((m : Int) % 128 + 128)] 5)) (wr.alloc (.cells #[.int .u8 ((m : Int) % 128 + 128)] 5)).heap.size 1 (some ⟨g, 0, none⟩) l.length (bys l)) := hyd (((Rd.of_own HO.out).below ((Below.refl _ _).alloc (Nat.le_refl _) _)).wider ((Below.refl wr.heap.size wr).alloc (Nat.le_refl _) _).size)
    have HFN : Hid (∀ (v5 : Value) (w5 : World), w5.ownsRow wr.heap.size 5 1 v5 (1 + l.length) (bys [m % 128 + 128] ++ bys l) → w5.ownsRow w.heap.size 5 1 v5 ((m % 128 + 128) :: l).length (bys ((m % 128 + 128) :: l))) := hyd (fun v5 w5 h => by
     have e : ((m % 128 + 128) :: l).length = 1 + l.length := by simp; omega
     rw [e, show (m % 128 + 128) :: l = [m % 128 + 128] ++ l from rfl, bys_app]
     exact own_mono h hz3)
    clear hll e1
    go_wp2_with (at_builtin; (refine wpList_app rfl (.tmp 18) (.tmp 19) _ rfl wr.heap.size 5 i0 _ 1 1 Tryz.underlying66 HI.out hz0 hz1 hz2 rfl (by omega) (.slice (some ⟨wr.heap.size, 0, none⟩) 1 1) 1 (bys [m % 128 + 128]) rfl HMK.out (wr.alloc (.cells #[.int .u8 ((m : Int) % 128 + 128)] 5)).heap.size (some ⟨g, 0, none⟩) l.length c (bys l) rfl HRD.out (by intro u hu; obtain ⟨x, _, rfl⟩ := List.mem_map.1 hu; rfl) (by unfold maxLen; omega) (by omega) (by simp) ?_; intro v5 w5 hO hgr hat; have HO5 := hyd (HFN.out v5 w5 hO); have HB5 := hyd (((HB.out.alloc hz3 _).grown hgr (by simp; omega) (fun k hk => by injection hk with hk; subst hk; exact hz3))); clear hO hgr hat))
    go_roundg (m / 128)
    case measure => have := HG.out; omega
    case rel => exact ⟨m / 128, (m % 128 + 128) :: l, rfl, by have := HM.out; omega, rfl, by simp, by rw [← HL.out, headB_pos h0]; simp, HO5.out, HB5.out⟩
  · have h0 : m = 0 := by omega
    subst h0
    rw [headB_zero, List.nil_append] at HL
    go_wp2_with fail
    go_ret
    exact ⟨⟨g, c, by rw [← HL.out]; rfl, by rw [← HL.out]; exact HO.out⟩, HB.out⟩
end Go.Proofs.YtbjjgnaojoaoiaaGreat
