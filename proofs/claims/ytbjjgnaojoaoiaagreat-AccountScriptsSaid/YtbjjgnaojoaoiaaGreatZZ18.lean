/- Laws. -/
import Derived.Test.YtbjjgnaojoaoiaaGreatZZ4
import Derived.Test.YtbjjgnaojoaoiaaGreatZZSh
namespace Go.Proofs.YtbjjgnaojoaoiaaGreat
open Go.RowKit Go
open Go.Sort (grow grow_empty grow_grow alloc_eq_grow heap_grow_old cell?_grow frozen?_grow putRow Holds PermIn SortedIn SWO cell?_putRow_other holds_putRow holds_grow)
set_option linter.unusedVariables false
set_option linter.unusedSimpArgs false
set_option maxHeartbeats 1600000
set_option maxRecDepth 100000
def nums {N : Nat} (d : Array (Fin N)) : List Int := d.toList.map fun i => (i.val : Int)
theorem nums_len {N : Nat} (d : Array (Fin N)) : (nums d).length = d.size := by simp [nums]
def idA (N : Nat) : Array (Fin N) := Array.ofFn fun i => i
theorem idA_size (N : Nat) : (idA N).size = N := by simp [idA]
theorem nums_idA (N : Nat) : nums (idA N) = (List.range N).map fun (i : Nat) => (i : Int) := by
 apply List.ext_getElem (by simp [nums, idA])
 intro i h1 h2
 simp [nums, idA]
theorem pl_of {N : Nat} [Inhabited (Fin N)] {d' : Array (Fin N)} (h : PermIn 0 (idA N).size (idA N) d') : d'.size = N ∧ Pl N (nums d') := by
 obtain ⟨h1, _, h3⟩ := h
 rw [idA_size] at h1
 refine ⟨h1, ?_⟩
 have e1 : d'.extract 0 (idA N).size = d' := by
  have : (idA N).size = d'.size := by rw [idA_size, h1]
  rw [this]; simp
 have e2 : (idA N).extract 0 (idA N).size = idA N := by simp
 rw [e1, e2] at h3
 unfold Pl
 rw [← nums_idA]
 exact h3.map _
theorem inOrd_nums {its : List Dq} (d' : Array (Fin its.length)) : inOrd its (nums d') = d'.toList.map fun i => its[i] := by
 unfold inOrd nums
 rw [List.map_map]
 apply List.map_congr_left
 intro i _
 simp
def cfI (its : List Dq) (i k : Fin its.length) : Int := ordI its[i] its[k]
theorem lt_cfI {its : List Dq} (hok : its.all okI = true) (i k : Fin its.length) : ltOf (cfI its) i k = decide (keyI its[i] < keyI its[k]) := by
 unfold ltOf cfI
 have := ordI_key (List.all_eq_true.1 hok its[i] (List.getElem_mem _)) (List.all_eq_true.1 hok its[k] (List.getElem_mem _))
 by_cases h : keyI its[i] < keyI its[k]
 · rw [decide_eq_true h, decide_eq_true (this.2 h)]
 · rw [decide_eq_false h, decide_eq_false (fun g => h (this.1 g))]
theorem swo_cfI {its : List Dq} (hok : its.all okI = true) : SWO (ltOf (cfI its)) where
 irrefl x := by rw [lt_cfI hok]; simp
 trans x y z h1 h2 := by rw [lt_cfI hok] at *; simp at *; omega
 ntrans x y z h1 h2 := by rw [lt_cfI hok] at *; simp at *; omega
theorem sorted_nums {its : List Dq} [Inhabited (Fin its.length)] (hok : its.all okI = true) {d' : Array (Fin its.length)} (hs : SortedIn (ltOf (cfI its)) 0 (idA its.length).size d') (hl : d'.size = its.length) :
  (inOrd its (nums d')).Pairwise fun a b => ¬ keyI b < keyI a := by
 rw [inOrd_nums, List.pairwise_iff_getElem]
 intro i j hi hj hij
 simp only [List.length_map, Array.length_toList] at hi hj
 have h := hs i j (by omega) hij (by rw [idA_size]; omega)
 rw [lt_cfI hok, decide_eq_false_iff_not, getElem!_pos d' i hi, getElem!_pos d' j hj] at h
 simpa using h
def SortedAs (its : List Dq) (g : Nat) (w : World) (e : Ending) (w' : World) : Prop :=
 e = .returned (.tuple #[]) ∧ ∃ d, Pl its.length d ∧ ((inOrd its d).Pairwise fun a b => ¬ keyI b < keyI a) ∧ Rd w' w'.heap.size 1 (some ⟨g, 0, none⟩) its.length (ints d) ∧ Below g w w' ∧ w.heap.size ≤ w'.heap.size ∧ ∀ b, b < w.heap.size → b ≠ g → w'.heap[b]? = w.heap[b]?
theorem sw_cell {N : Nat} [Inhabited (Fin N)] (enc : Fin N → Value) (w : World) (g m : Nat) (dk : Array (Fin N)) (os : Array Obj) (a : Addr) (h : a.block < w.heap.size) (hne : a.block ≠ g) : (sortWorld enc w g 0 m dk os).cell? a = w.cell? a := by
 unfold sortWorld
 rw [cell?_grow _ _ _ (by simpa using h), cell?_putRow_other _ _ _ _ _ _ (.inl hne)]
 rfl
theorem mapBlock_far (w : World) (blk b : Nat) (f : Array Value → Array Value) (h : b ≠ blk) : (Go.Sort.mapBlock w blk f).heap[b]? = w.heap[b]? := by
 unfold Go.Sort.mapBlock
 simp only [Array.getElem?_modify]
 rw [if_neg (Ne.symm h)]
theorem sw_block {N : Nat} [Inhabited (Fin N)] (enc : Fin N → Value) (w : World) (g m : Nat) (dk : Array (Fin N)) (os : Array Obj) (b : Nat) (h : b < w.heap.size) (hne : b ≠ g) : (sortWorld enc w g 0 m dk os).heap[b]? = w.heap[b]? := by
 unfold sortWorld
 rw [heap_grow_old _ _ (by simpa using h)]
 exact mapBlock_far _ _ _ _ hne
theorem sw_size {N : Nat} [Inhabited (Fin N)] (enc : Fin N → Value) (w : World) (g m : Nat) (dk : Array (Fin N)) (os : Array Obj) : w.heap.size ≤ (sortWorld enc w g 0 m dk os).heap.size := by
 unfold sortWorld; simp
theorem sw_below {N : Nat} [Inhabited (Fin N)] (enc : Fin N → Value) (w : World) (g m : Nat) (dk : Array (Fin N)) (os : Array Obj) (hg : g < w.heap.size) : Below g w (sortWorld enc w g 0 m dk os) :=
 ⟨rfl, rfl, rfl, sw_size enc w g m dk os, fun b hb => sw_block enc w g m dk os b (by omega) (by omega)⟩
theorem sort_some (its : List Dq) (hok : its.all okI = true) (A : Option Addr) (c gb g cap B base : Nat) (w : World) (hl : 0 < its.length) (hn : its.length ≤ 1000000) (hbox : w.cell? ⟨gb, 0, none⟩ = some (.slice A its.length c)) (hr : Rd w B 4 A its.length (itCs its)) (hB : B ≤ g) (hgb : gb ≠ g)
  (hown : w.ownsRow base 3 1 (.slice (some ⟨g, 0, none⟩) its.length cap) its.length (ints ((List.range its.length).map fun (i : Nat) => (i : Int)))) :
  Calls Tryz.prog 101 #[.slice (some ⟨g, 0, none⟩) its.length cap, .func (.func 102) #[] #[.pointer (some ⟨gb, 0, none⟩)]] w (SortedAs its g w) := by
 haveI : Inhabited (Fin its.length) := ⟨⟨0, hl⟩⟩
 have hg := (hown.lt g rfl).2
 have hfr : ∀ i, w.frozen? ⟨g, i, none⟩ = false := by
  rcases hown.2 with ⟨h, _⟩ | ⟨g', cp, cur, h, _, h3, _⟩
  · cases h
  · injection h with h _ _; injection h with h; injection h with h _ _; subst h
    exact fun i => blk_free h3 i
 have hH : Holds (fun i : Fin its.length => Value.int .i64 i.val) w g 0 (idA its.length) := by
  intro j hj
  rw [idA_size] at hj
  refine ⟨?_, hfr _⟩
  have hc := hown.cells (g := g) rfl j (.int .i64 (j : Int)) (by rw [ints_at _ _ (by simpa using hj)]; simp)
  have he : (⟨g, 0, none⟩ : Addr).add j = ⟨g, 0 + j, none⟩ := by unfold Addr.add; split <;> simp_all
  rw [he] at hc
  rw [hc, getElem!_pos _ j (by rw [idA_size]; exact hj)]
  simp [idA]
 have hgbl := World.block_lt_of_cell? w _ hbox
 have hcmp : CmpLays1 Tryz.prog 102 #[.pointer (some ⟨gb, 0, none⟩)] (fun i : Fin its.length => Value.int .i64 i.val) (cfI its) g 0 (idA its.length).size w := by
  intro m os dk hs x y
  have hb' := (sw_cell (fun i : Fin its.length => Value.int .i64 i.val) w g m dk os ⟨gb, 0, none⟩ hgbl hgb).trans hbox
  have hr' : Rd (sortWorld (fun i : Fin its.length => Value.int .i64 i.val) w g 0 m dk os) B 4 A its.length (itCs its) := hr.of_cells fun p hp => sw_cell _ w g m dk os p (by omega) (by omega)
  exact clo_any gb B its.length A its c x.val y.val _ hb' hr' hn x.isLt y.isLt
 have h := Tryz.slices_SortFunc (fun i : Fin its.length => Value.int .i64 i.val) (fun _ => rfl) (cfI its) (swo_cfI hok) 102 #[.pointer (some ⟨gb, 0, none⟩)] g 0 cap (idA its.length) w (enters_of Tryz.func102 (by kernel_rfl) rfl) hcmp hH hg (by rw [idA_size]; omega)
 rw [idA_size] at h
 refine h.mono ?_
 rintro e w' ⟨rfl, d', n, os, hp, hs, rfl⟩
 obtain ⟨hsz, hpl⟩ := pl_of (by rw [idA_size]; exact hp)
 refine ⟨rfl, nums d', hpl, sorted_nums hok (by rw [idA_size]; exact hs) hsz, ?_, sw_below _ w g n d' os hg, sw_size _ w g n d' os, fun b hb hne => sw_block _ w g n d' os b hb hne⟩
 refine ⟨by rw [ints_len, nums_len, hsz]; omega, fun _ => ⟨g, 0, rfl, Nat.lt_of_lt_of_le hg (sw_size _ w g n d' os), fun j hj => ?_⟩⟩
 have h1 := holds_grow _ (putRow (fun i : Fin its.length => Value.int .i64 i.val) (Go.Sort.ahead w n) g 0 d') os g 0 d' (by simpa using hg) (holds_putRow _ (Go.Sort.ahead w n) g 0 (idA its.length) d' hH (by rw [hsz, idA_size])) j (by omega)
 rw [ints_at _ _ (by rw [nums_len]; omega)]
 refine h1.1.trans ?_
 rw [getElem!_pos _ j (by omega)]
 simp [nums]
theorem sort_none (p : Option Addr) (cap : Nat) (fv : Value) (w : World) : Calls Tryz.prog 101 #[.slice p 0 cap, fv] w fun e w' => e = .returned (.tuple #[]) ∧ w' = w := Tryz.slices_SortFunc_none (α := Int) p cap fv w
end Go.Proofs.YtbjjgnaojoaoiaaGreat
