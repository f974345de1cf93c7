/- Laws. -/
import Derived.Test.YtbjjgnaojoaoiaaGreatZZ13
import Derived.Test.YtbjjgnaojoaoiaaGreatZZ15
import Derived.Shelf.Spec.SlicesInsert
import Derived.Lib.AppendZerosOnto
import Derived.Test.YtbjjgnaojoaoiaaGreatZZ21
import Derived.Test.YtbjjgnaojoaoiaaGreatZZ22
namespace Go.Proofs.YtbjjgnaojoaoiaaGreat
open Go.RowKit Go Go.Lib
set_option linter.unusedVariables false
set_option linter.unusedSimpArgs false
set_option maxHeartbeats 6400000
set_option maxRecDepth 100000
theorem run_copy_k {P : Program} (w : World) (dT sT ty elem : TypeId) (k b o dLen dCap : Nat) (a : Addr) (sLen sCap n : Nat) (cs : List Value)
  (hu : P.underlying dT = some (.slice elem)) (hs : (P.info? elem).map (·.size) = some k) (hn : Nat.min sLen dLen = n) (hl : cs.length = n * k)
  (hsrc : ∀ j v, cs[j]? = some v → w.cell? (a.add j) = some v) (hc : ∀ j, j < cs.length → (w.cell? ⟨b, o + j, none⟩).isSome = true) (hf : ∀ j, j < cs.length → w.frozen? ⟨b, o + j, none⟩ = false) (h1 : ∀ v ∈ cs, v.oneCell' = true) :
  (Builtin.copy_ #[dT, sT] ty #[.slice (some ⟨b, o, none⟩) dLen dCap, .slice (some a) sLen sCap]).run P w = .ok (goInt n) (w.setCells b o cs) := by
 have hl0 := run_loadCells_list (P := P) w a cs hsrc
 have hst := run_storeCells_cells (P := P) b o cs 0 w (by simpa using hc) (by simpa using hf) h1
 cases hq : P.info? elem with
 | none => simp [hq] at hs
 | some i =>
   have hi : i.size = k := by simpa [hq] using hs
   rw [hl] at hl0
   simp [Builtin.copy_, run_underlying hu, Builtin.lenOf, Builtin.firstCells, sizeOf, typeInfo, hq, hi, hn, hl0, hst]
def insP (ps : List Per) (i : Nat) (p : Per) : List Per := ps.take i ++ p :: ps.drop i
theorem perCs_cons (p : Per) (l : List Per) : perCs (p :: l) = perC p ++ perCs l := by simp [perCs]
theorem perCs_take (ps : List Per) (i : Nat) (h : i ≤ ps.length) : (perCs ps).take (i * 11) = perCs (ps.take i) := by
 have : perCs ps = perCs (ps.take i) ++ perCs (ps.drop i) := by rw [← perCs_app, List.take_append_drop]
 rw [this, List.take_append_of_le_length (by rw [perCs_len, List.length_take]; omega), List.take_of_length_le (by rw [perCs_len, List.length_take]; omega)]
theorem perCs_drop (ps : List Per) (i : Nat) (h : i ≤ ps.length) : (perCs ps).drop (i * 11) = perCs (ps.drop i) := by
 have : perCs ps = perCs (ps.take i) ++ perCs (ps.drop i) := by rw [← perCs_app, List.take_append_drop]
 have hl : (perCs (ps.take i)).length = i * 11 := by rw [perCs_len, List.length_take]; omega
 rw [this, ← hl, List.drop_left]
theorem perC_one (p : Per) : ∀ u ∈ perC p, u.oneCell' = true := by
 intro u hu
 simp [perC] at hu
 rcases hu with rfl | rfl | rfl | rfl | rfl | rfl | rfl | rfl | rfl | rfl | rfl <;> rfl
def InsOf (w : World) (B : Nat) (A : Option Addr) (n : Nat) (ps : List Per) (e : Ending) (w' : World) : Prop := ∃ v, e = .returned v ∧ w'.ownsRow B 92 11 v (n + 1) (perCs ps) ∧ w.grownBy w' (A.map (·.block))
theorem ins_end (A : Option Addr) (B n c vb : Nat) (ps : List Per) (p : Per) (w : World) (hl : ps.length = n) (ho : w.ownsRow B 92 11 (.slice A n c) n (perCs ps)) (hv : w.heap[vb]? = some (.cells (perC p).toArray 92 (0, 0))) (hB : B ≤ w.heap.size) (hn : n ≤ 1000) :
  Calls Tryz.prog 42 #[.slice A n c, .int .i64 n, .slice (some ⟨vb, 0, none⟩) 1 1] w (InsOf w B A n (insP ps n p)) := by
 obtain ⟨i0, hi, hz0, hz1, hz2⟩ := info_parts info_per
 have hvr : Rd w w.heap.size 11 (some ⟨vb, 0, none⟩) 1 (perC p) := ⟨perC_len p, fun _ => ⟨vb, 0, rfl, blk_lt hv, fun j hj => by rw [Nat.zero_add]; exact (blk_cell hv j).trans (by simp)⟩⟩
 have HVR := hyd hvr; have HO := hyd ho; have HI := hyd hi
 have HL : Hid (perCs ps ++ perC p = perCs (insP ps n p)) := hyd (by unfold insP; rw [List.take_of_length_le (by omega), List.drop_of_length_le (by omega), perCs_app, perCs_cons]; simp [perCs])
 have hform := ho.2
 clear ho hv hvr hi
 rcases hform with ⟨h1, h2⟩ | ⟨g, cap, cur, h1, h2, h3, h4, h5, h6, h7⟩
 · injection h1 with h1 _ h3
   subst h1 h2 h3
   go_enter Tryz.func42, Tryz.ntmps42
   go_wp2_with (at_builtin; refine wpList_app rfl (.tmp 23) (.tmp 24) _ rfl B 92 i0 _ 11 88 Tryz.underlying80 HI.out hz0 hz1 hz2 rfl (by omega) (.slice none 0 0) 0 (perCs ps) rfl HO.out _ _ 1 1 (perC p) rfl HVR.out (perC_one p) (by unfold maxLen; omega) (by omega) hB ?_; intro v5 w5 hO hgr hat)
   have HG := hyd hgr; have HOO := hyd hO
   clear hO hgr hat
   go_wp2_with fail
   go_ret
   exact ⟨_, rfl, by rw [← HL.out]; exact HOO.out, HG.out⟩
 · injection h1 with h1 _ h8
   subst h1 h8
   clear h2 h3 h4 h5 h6 h7
   go_enter Tryz.func42, Tryz.ntmps42
   go_wp2_with (at_builtin; refine wpList_app rfl (.tmp 23) (.tmp 24) _ rfl B 92 i0 _ 11 88 Tryz.underlying80 HI.out hz0 hz1 hz2 rfl (by omega) (.slice (some ⟨g, 0, none⟩) n c) n (perCs ps) rfl HO.out _ _ 1 1 (perC p) rfl HVR.out (perC_one p) (by unfold maxLen; omega) (by omega) hB ?_; intro v5 w5 hO hgr hat)
   all_goals go_ret
   all_goals exact ⟨_, rfl, by rw [← HL.out]; exact hO, hgr⟩
def perZ : Value := .agg #[.int .i64 0, .int .i64 0, .int .i64 0, .int .i64 0, .int .i64 0, .int .i64 0, .int .i64 0, .int .i64 0, .int .i64 0, .int .i64 0, .int .i64 0]
theorem zeroCells_size (k : Nat) : (Builtin.zeroCells perZ.cells k).size = k * 11 := by simp [Builtin.zeroCells, perZ, Value.cells]
def InsC (w : World) (B : Nat) (A : Option Addr) (n : Nat) (xs : List Value) (e : Ending) (w' : World) : Prop := ∃ v, e = .returned v ∧ w'.ownsRow B 92 11 v (n + 1) xs ∧ w.grownBy w' (A.map (·.block))
theorem ins_row {i n : Nat} {ROW : Array Value} {hd vs tl : List Value} (hR : (n + 1) * 11 ≤ ROW.size) (hh : hd.length = i * 11) (hv : vs.length = 11) (ht : tl.length = (n - i) * 11) (hi : i < n) (hR1 : ROW.toList.take (i * 11) = hd) :
  (putAt (putAt ROW (i * 11) vs) ((i + 1) * 11) tl).toList.take ((n + 1) * 11) = hd ++ vs ++ tl := by
 rw [putAt_list tl _ _ (by rw [putAt_size, ht]; omega), putAt_list vs _ _ (by rw [hv]; omega)]
 have e1 : (ROW.toList.take (i * 11) ++ vs ++ ROW.toList.drop (i * 11 + vs.length)).take ((i + 1) * 11) = hd ++ vs := by
  rw [hR1]
  have : (hd ++ vs).length = (i + 1) * 11 := by rw [List.length_append, hh, hv]; omega
  rw [← this, List.take_left']
  rfl
 rw [e1]
 have e2 : (hd ++ vs ++ tl).length = (n + 1) * 11 := by simp only [List.length_append, hh, hv, ht]; omega
 rw [List.take_append_of_le_length (by omega), ← e2, List.take_length]
theorem ins_grow (g B n c i vb : Nat) (xs vs : List Value) (w : World) (hl : xs.length = n * 11) (hx1 : ∀ u ∈ xs, u.oneCell' = true) (hvl : vs.length = 11) (hv1 : ∀ u ∈ vs, u.oneCell' = true) (hgl : g < w.heap.size)
  (hcs : ∀ j v, xs[j]? = some v → w.cell? ⟨g, j, none⟩ = some v) (hvs : ∀ j v, vs[j]? = some v → w.cell? ⟨vb, j, none⟩ = some v) (hvbl : vb < w.heap.size) (hB : B ≤ w.heap.size) (hn : n ≤ 1000)
  (hi : i < n) (hnc : n ≤ c) (hroom : c < n + 1) :
  Calls Tryz.prog 42 #[.slice (some ⟨g, 0, none⟩) n c, .int .i64 i, .slice (some ⟨vb, 0, none⟩) 1 1] w (InsC w B (some ⟨g, 0, none⟩) n (xs.take (i * 11) ++ vs ++ xs.drop (i * 11))) := by
 obtain ⟨i0, hi0, hz0, hz1, hz2⟩ := info_parts info_per
 have hsz : (Tryz.prog.info? 92).map (·.size) = some 11 := by rw [hi0]; simp [hz1]
 obtain ⟨hd, hhd⟩ : ∃ hd, xs.take (i * 11) = hd := ⟨_, rfl⟩
 obtain ⟨tl, htl0⟩ : ∃ tl, xs.drop (i * 11) = tl := ⟨_, rfl⟩
 have hdl : tl.length = (n - i) * 11 := by rw [← htl0, List.length_drop, hl]; omega
 have htl : hd.length = i * 11 := by rw [← hhd, List.length_take, hl]; omega
 have hd1 : ∀ u ∈ tl, u.oneCell' = true := fun u hu => hx1 u (by rw [← htl0] at hu; exact List.mem_of_mem_drop hu)
 have hz1' : ¬ ((i : Int) = (n : Int)) := by omega
 have hz3 : (c : Int) < (n : Int) + 1 := by omega
 have hkk : (n : Int) + 1 - (i : Int) = ((n + 1 - i : Nat) : Int) := by omega
 have hik : i + (n + 1 - i) = n + 1 := by omega
 have hold : (Builtin.firstCells i0.size i (.slice (some ⟨g, 0, none⟩) i c)).run Tryz.prog w.drew = .ok hd.toArray w.drew := by
  rw [hz1]
  exact run_firstCells_some w.drew 11 i ⟨g, 0, none⟩ i c hd htl (fun j v hj => by
   rw [Addr.add_lit, Nat.zero_add]
   rw [← hhd, List.getElem?_take] at hj
   split at hj
   · exact hcs j v hj
   · cases hj)
 have hrz : ∀ ty, (Builtin.append_ #[80, 3] ty #[.slice (some ⟨g, 0, none⟩) i c, .int .i64 ((n : Int) + 1 - (i : Int))]).run Tryz.prog w =
   .ok (.slice (some ⟨w.heap.size, 0, none⟩) (n + 1) (grownCap w (n + 1) c 92)) (w.drew.alloc (.cells (hd.toArray ++ Builtin.zeroCells perZ.cells (n + 1 - i) ++ Builtin.zeroCells perZ.cells (grownCap w (n + 1) c 92 - (n + 1))) 92)) := fun ty => by
  have h := Lib.run_append_grow_zeros w 80 3 ty 92 i0 perZ .i64 .i64 Tryz.underlying80 Tryz.underlying3 hi0 hz0 (some ⟨g, 0, none⟩) i c hd hold (n + 1 - i) (by omega) (by omega) (by omega) (by omega) (by rw [hz2]; omega) (by rw [hz2, hik]; exact growslice_fits hroom (by omega))
  rw [hik] at h
  rw [hkk]
  exact h
 obtain ⟨G, hG⟩ : ∃ G, G = grownCap w (n + 1) c 92 := ⟨_, rfl⟩
 obtain ⟨ROW, hROW⟩ : ∃ ROW : Array Value, ROW = hd.toArray ++ Builtin.zeroCells perZ.cells (n + 1 - i) ++ Builtin.zeroCells perZ.cells (G - (n + 1)) := ⟨_, rfl⟩
 rw [← hG, ← hROW] at hrz
 have hGn : n + 1 ≤ G := by rw [hG]; exact grownCap_ge w _ _ _
 have hRs : ROW.size = G * 11 := by
  rw [hROW]
  simp only [Array.size_append, zeroCells_size, List.size_toArray, htl]
  omega
 have hRt : ROW.toList.take (i * 11) = hd := by
  rw [hROW]; simp only [Array.toList_append, List.append_assoc]
  rw [List.take_append_of_le_length (by simp [htl]), List.take_of_length_le (by simp [htl])]
 have hGM : G ≤ maxLen := by rw [hG]; exact grownCap_le_maxLen w (n + 1) c _ (by unfold maxLen; omega)
 have hN : ∀ j, j < (n + 1) * 11 → ((w.drew.alloc (.cells ROW 92)).cell? ⟨w.heap.size, j, none⟩).isSome = true := fun j hj => by
  rw [World.cell?_alloc_at (w := w.drew) ROW _ w.heap.size j rfl, Array.getElem?_eq_getElem (by omega)]; rfl
 have hNf : ∀ j, (w.drew.alloc (.cells ROW 92)).frozen? ⟨w.heap.size, j, none⟩ = false := fun j => World.frozen?_alloc_at (w := w.drew) ROW _ w.heap.size j rfl
 have hOb : ∀ j v, w.cell? ⟨g, j, none⟩ = some v → (w.drew.alloc (.cells ROW 92)).cell? ⟨g, j, none⟩ = some v := fun j v h => by rw [World.cell?_alloc_past (w := w.drew) _ g j hgl]; exact h
 have hOv : ∀ j v, w.cell? ⟨vb, j, none⟩ = some v → (w.drew.alloc (.cells ROW 92)).cell? ⟨vb, j, none⟩ = some v := fun j v h => by rw [World.cell?_alloc_past (w := w.drew) _ vb j hvbl]; exact h
 have hblk := blk_new w.drew (.cells ROW 92) rfl
 have hfar : ∀ k, k < w.heap.size → (w.drew.alloc (.cells ROW 92)).heap[k]? = w.heap[k]? := fun k hk => Below.heap_alloc w.drew _ k hk
 obtain ⟨W1, hW1⟩ : ∃ W1, W1 = w.drew.alloc (.cells ROW 92) := ⟨_, rfl⟩
 have hbW : Below w.heap.size w (w.drew.alloc (.cells ROW 92)) := (Below.refl _ _).drew.alloc (Nat.le_refl _) _
 rw [← hW1] at hrz hN hNf hOb hOv hblk hbW
 have hcpA : ∀ (W : World), (∀ x, W.cell? x = W1.cell? x) → (∀ x, W.frozen? x = W1.frozen? x) → ∀ ty dc, (Builtin.copy_ #[80, 80] ty #[.slice (some ⟨w.heap.size, i * 11, none⟩) (n + 1 - i) dc, .slice (some ⟨vb, 0, none⟩) 1 1]).run Tryz.prog W = .ok (goInt ((1 : Nat) : Int)) (W.setCells w.heap.size (i * 11) vs) := fun W hWc hWf ty dc =>
  run_copy_k W _ _ ty 92 11 w.heap.size (i * 11) (n + 1 - i) dc ⟨vb, 0, none⟩ 1 1 1 vs Tryz.underlying80 hsz (by simp only [Nat.min_def]; split <;> omega) hvl
   (fun j v hj => by rw [Addr.add_lit, hWc, Nat.zero_add]; exact hOv _ v (hvs j v hj))
   (fun j hj => by rw [hWc]; rw [hvl] at hj; exact hN _ (by omega)) (fun j hj => by rw [hWf]; exact hNf _) hv1
 have hbN : g ≠ w.heap.size := by omega
 have hcpB : ∀ (W : World), (∀ x, W.cell? x = (W1.setCells w.heap.size (i * 11) vs).cell? x) → (∀ x, W.frozen? x = (W1.setCells w.heap.size (i * 11) vs).frozen? x) → ∀ ty dc sc, (Builtin.copy_ #[80, 80] ty #[.slice (some ⟨w.heap.size, (i + 1) * 11, none⟩) (n + 1 - (i + 1)) dc, .slice (some ⟨g, i * 11, none⟩) (n - i) sc]).run Tryz.prog W = .ok (goInt ((n - i : Nat) : Int)) (W.setCells w.heap.size ((i + 1) * 11) tl) := fun W hWc hWf ty dc sc =>
  run_copy_k W _ _ ty 92 11 w.heap.size ((i + 1) * 11) (n + 1 - (i + 1)) dc ⟨g, i * 11, none⟩ (n - i) sc (n - i) tl Tryz.underlying80 hsz (by simp only [Nat.min_def]; split <;> omega) hdl
   (fun j v hj => by
     rw [Addr.add_lit, hWc, World.cell?_setCells_out _ _ _ _ _ (fun h _ => absurd h hbN)]
     exact hOb _ v (hcs (i * 11 + j) v (by rw [← htl0, List.getElem?_drop] at hj; exact hj)))
   (fun j hj => by rw [hWc]; rw [hdl] at hj; exact isSome_setCells _ _ _ _ (fun t ht => by rw [hvl] at ht; exact hN _ (by omega)) _ (hN _ (by omega)))
   (fun j hj => by rw [hWf, World.frozen?_setCells]; exact hNf _) hd1
 have hG63 : G ≤ 9223372036854775807 := by unfold maxLen at hGM; omega
 have HFIN : Hid (InsC w B (some ⟨g, 0, none⟩) n (hd ++ vs ++ tl) (.returned (.slice (some ⟨w.heap.size, 0, none⟩) (n + 1) G)) (((W1.setCells w.heap.size (i * 11) vs).drew).setCells w.heap.size ((i + 1) * 11) tl)) := hyd (by
  have a1 : W1.heap[w.heap.size]? = some (.cells ROW 92 (0, 0)) := hblk
  have a2 := setCells_at vs (i * 11) a1
  have hb2 : Below w.heap.size w (W1.setCells w.heap.size (i * 11) vs) := setCells_below (Nat.le_refl _) _ _ hbW
  generalize W1.setCells w.heap.size (i * 11) vs = W2 at *
  have a3 : W2.drew.heap[w.heap.size]? = some (.cells (putAt ROW (i * 11) vs) 92 (0, 0)) := a2
  have hb3 := hb2.drew
  generalize W2.drew = W3 at *
  have a4 := setCells_at tl ((i + 1) * 11) a3
  have hb4 : Below w.heap.size w (W3.setCells w.heap.size ((i + 1) * 11) tl) := setCells_below (Nat.le_refl _) _ _ hb3
  generalize W3.setCells w.heap.size ((i + 1) * 11) tl = W4 at *
  refine ⟨_, rfl, ⟨by simp only [List.length_append, htl, hvl, hdl]; omega, .inr ⟨w.heap.size, G, _, rfl, hB, a4, hGn, hGM, by rw [putAt_size, putAt_size, hRs], ins_row (by omega) htl hvl hdl hi hRt⟩⟩, ?_⟩
  exact ⟨hb4.os, hb4.tape, hb4.output, hb4.size, fun k hk _ => hb4.block k hk⟩)
 have hGi : ¬ (G = i) := by omega
 have hGim : ¬ (G = i + 1) := by omega
 have hci : ¬ (c = i) := by omega
 have hw1 : IntKind.i64.wrap ((i : Int) + 1) = (i : Int) + 1 := IntWalk.i64_in _ (by omega)
 have hb1 : (0 : Int) ≤ (i : Int) + 1 := by omega
 have hin : i ≤ n := by omega
 have htn : ((i : Int) + 1).toNat = i + 1 := by omega
 have hb3 : (i : Int) ≤ (n : Int) := by omega
 have HA := hyd hcpA; have HB2 := hyd hcpB; have HZ := hyd hrz
 rw [hhd, htl0]
 clear hkk hik hold hROW hG hcs hvs hN hNf hOb hOv hRt hi0 hz0 hz1 hz2 hsz hrz hcpA hcpB hbW hdl htl hl hRs hW1 hblk hfar hhd htl0 hd1 hGM hx1 hv1 hvl
 have hc1 := HA.out W1 (fun _ => rfl) (fun _ => rfl) 3 (G - i)
 have hc2 := HB2.out (W1.setCells w.heap.size (i * 11) vs).drew (fun _ => rfl) (fun _ => rfl) 3 (G - (i + 1)) (c - i)
 have HC2 := hyd hc2
 clear HA HB2 hc2
 go_enter Tryz.func42, Tryz.ntmps42
 go_wp2_with (at_builtin; refine Lib.wpList_append_run _ rfl _ _ _ _ rfl _ _ rfl rfl _ _ (HZ.out _) ?_)
 go_region_law (refine step_copy_runI rfl _ _ 80 80 rfl (.slice (some ⟨w.heap.size, (i + 1) * 11, none⟩) (n + 1 - (i + 1)) (G - (i + 1))) (.slice (some ⟨g, i * 11, none⟩) (n - i) (c - i)) (by simp [Act.eval, Act.put]) (by simp [Act.eval, Act.put]) HC2.out ?_)
 all_goals go_wp2_with fail
 all_goals go_ret
 all_goals exact HFIN.out
theorem ins_shift (g B n c i vb : Nat) (xs vs : List Value) (w : World) (hl : xs.length = n * 11) (hx1 : ∀ u ∈ xs, u.oneCell' = true) (hvl : vs.length = 11) (hv1 : ∀ u ∈ vs, u.oneCell' = true)
  (ho : w.ownsRow B 92 11 (.slice (some ⟨g, 0, none⟩) n c) n xs) (hv : w.heap[vb]? = some (.cells vs.toArray 92 (0, 0))) (hvg : vb ≠ g) (hB : B ≤ w.heap.size) (hn : n ≤ 1000)
  (hi : i < n) (hroom : n + 1 ≤ c) :
  Calls Tryz.prog 42 #[.slice (some ⟨g, 0, none⟩) n c, .int .i64 i, .slice (some ⟨vb, 0, none⟩) 1 1] w (InsC w B (some ⟨g, 0, none⟩) n (xs.take (i * 11) ++ vs ++ xs.drop (i * 11))) := by
 obtain ⟨i0, hi0, hz0, hz1, hz2⟩ := info_parts info_per
 have hsz : (Tryz.prog.info? 92).map (·.size) = some 11 := by rw [hi0]; simp [hz1]
 obtain ⟨hd, hhd⟩ : ∃ hd, xs.take (i * 11) = hd := ⟨_, rfl⟩
 obtain ⟨tl, htl0⟩ : ∃ tl, xs.drop (i * 11) = tl := ⟨_, rfl⟩
 have hdl : tl.length = (n - i) * 11 := by rw [← htl0, List.length_drop, hl]; omega
 have htl : hd.length = i * 11 := by rw [← hhd, List.length_take, hl]; omega
 have hd1 : ∀ u ∈ tl, u.oneCell' = true := fun u hu => hx1 u (by rw [← htl0] at hu; exact List.mem_of_mem_drop hu)
 obtain ⟨cur, hgB, hg, hcM, hcs, hct⟩ : ∃ cur, B ≤ g ∧ w.heap[g]? = some (.cells cur 92 (0, 0)) ∧ c ≤ maxLen ∧ cur.size = c * 11 ∧ cur.toList.take (n * 11) = xs := by
  rcases ho.2 with ⟨h1, _⟩ | ⟨g', cap, cur, h1, h2, h3, h4, h5, h6, h7⟩
  · cases h1
  · injection h1 with h1 _ h8; injection h1 with h1; injection h1 with h1 _ _; subst h1; subst h8
    exact ⟨cur, h2, h3, h5, h6, h7⟩
 have hc63 : c ≤ 9223372036854775807 := by unfold maxLen at hcM; omega
 have hcell : ∀ j v, xs[j]? = some v → w.cell? ⟨g, j, none⟩ = some v := fun j v h => (own_cell ho h).1
 have hN : ∀ j, j < (n + 1) * 11 → (w.cell? ⟨g, j, none⟩).isSome = true := fun j hj => by rw [blk_cell hg, Array.getElem?_eq_getElem (by omega)]; rfl
 have hNf : ∀ j, w.frozen? ⟨g, j, none⟩ = false := fun j => blk_free hg j
 have hvs : ∀ j v, vs[j]? = some v → w.cell? ⟨vb, j, none⟩ = some v := fun j v h => (blk_cell hv j).trans (by simpa using h)
 have hov : ∀ lb cb, (callFunc 96 #[.slice (some ⟨vb, 0, none⟩) 1 1, .slice (some ⟨g, (i + 1) * 11, none⟩) lb cb]).run Tryz.prog w = .ok (.value (.bool false)) w := fun lb cb => by
  rw [run_callFunc_extern Tryz.func96 (by kernel_rfl) (by kernel_rfl) (by kernel_rfl) (e := Extern.SlicesOverlaps.overlaps #[80, 80] #[4]) (by kernel_rfl),
   Lib.run_overlaps_apart w 80 4 92 Tryz.underlying80 11 Tryz.sizeOf92 ⟨vb, 0, none⟩ ⟨g, (i + 1) * 11, none⟩ 1 1 lb cb hvg 92 92 11 cur.size (by simp [World.shape?, hv, hvl]) (by simp [World.shape?, hg]) (by omega) (blk_free hv 0) (blk_free hv 11)]
  rfl
 have hcp1 := run_copy_k (P := Tryz.prog) w.drew 80 80 3 92 11 g ((i + 1) * 11) (n + 1 - (i + 1)) (c - (i + 1)) ⟨g, i * 11, none⟩ (n + 1 - i) (c - i) (n - i) tl Tryz.underlying80 hsz (by simp only [Nat.min_def]; split <;> omega) hdl
   (fun j v hj => by rw [Addr.add_lit]; exact hcell (i * 11 + j) v (by rw [← htl0, List.getElem?_drop] at hj; exact hj))
   (fun j hj => by rw [hdl] at hj; exact hN _ (by omega)) (fun j hj => hNf _) hd1
 have hg1 : w.drew.heap[g]? = some (.cells cur 92 (0, 0)) := hg
 have hg2 := setCells_at tl ((i + 1) * 11) hg1
 have hgr1 : w.grownBy (w.drew.setCells g ((i + 1) * 11) tl) (some g) := by
  have hb : Below 0 w (w.drew.setCells g ((i + 1) * 11) tl) := setCells_below (Nat.zero_le _) _ _ (Below.refl 0 w).drew
  exact ⟨hb.os, hb.tape, hb.output, hb.size, fun k hk hn => (setCells_far g (fun e => hn (by rw [e])) tl _ w.drew)⟩
 obtain ⟨W1, hW1⟩ : ∃ W1, W1 = w.drew.setCells g ((i + 1) * 11) tl := ⟨_, rfl⟩
 rw [← hW1] at hcp1 hg2 hgr1
 have hv2 : W1.heap[vb]? = some (.cells vs.toArray 92 (0, 0)) := (hgr1.block vb (blk_lt hv) (fun e => hvg (Option.some.inj e))).trans hv
 have hcp2 := run_copy_k (P := Tryz.prog) W1 80 80 3 92 11 g (i * 11) (n + 1 - i) (c - i) ⟨vb, 0, none⟩ 1 1 1 vs Tryz.underlying80 hsz (by simp only [Nat.min_def]; split <;> omega) hvl
   (fun j v hj => by rw [Addr.add_lit, Nat.zero_add]; exact (blk_cell hv2 j).trans (by simpa using hj))
   (fun j hj => by rw [hvl] at hj; rw [blk_cell hg2, Array.getElem?_eq_getElem (by rw [putAt_size]; omega)]; rfl) (fun j hj => blk_free hg2 _) hv1
 have HFIN : Hid (InsC w B (some ⟨g, 0, none⟩) n (hd ++ vs ++ tl) (.returned (.slice (some ⟨g, 0, none⟩) (n + 1) c)) (W1.setCells g (i * 11) vs)) := hyd (by
  have a4 := setCells_at vs (i * 11) hg2
  have hb4 : Below 0 W1 (W1.setCells g (i * 11) vs) := setCells_below (Nat.zero_le _) _ _ (Below.refl 0 W1)
  have hf4 : ∀ k, k ≠ g → (W1.setCells g (i * 11) vs).heap[k]? = W1.heap[k]? := fun k hk => setCells_far g hk vs _ W1
  generalize W1.setCells g (i * 11) vs = W4 at *
  refine ⟨_, rfl, ⟨by simp only [List.length_append, htl, hvl, hdl]; omega, .inr ⟨g, c, _, rfl, hgB, a4, hroom, hcM, by rw [putAt_size, putAt_size]; exact hcs, ?_⟩⟩, ⟨hb4.os.trans hgr1.os, hb4.tape.trans hgr1.tape, hb4.output.trans hgr1.output, Nat.le_trans hgr1.size hb4.size, fun k hk hn => (hf4 k (fun e => hn (by rw [e]; rfl))).trans (hgr1.block k hk hn)⟩⟩
  have e0 : cur.toList.take (i * 11) = hd := by rw [← hhd, ← hct, List.take_take, Nat.min_eq_left (by omega)]
  have e1 := putAt_list tl ((i + 1) * 11) cur (by rw [hdl]; omega)
  have e2 := putAt_list vs (i * 11) (putAt cur ((i + 1) * 11) tl) (by rw [putAt_size, hvl]; omega)
  rw [e2, e1]
  have e3 : (cur.toList.take ((i + 1) * 11) ++ tl ++ cur.toList.drop ((i + 1) * 11 + tl.length)).take (i * 11) = hd := by
   rw [List.append_assoc, List.take_append_of_le_length (by simp; omega), List.take_take, Nat.min_eq_left (by omega), e0]
  have e4 : (cur.toList.take ((i + 1) * 11) ++ tl ++ cur.toList.drop ((i + 1) * 11 + tl.length)).drop (i * 11 + vs.length) = tl ++ cur.toList.drop ((i + 1) * 11 + tl.length) := by
   have : (cur.toList.take ((i + 1) * 11)).length = i * 11 + vs.length := by rw [List.length_take, hvl]; simp; omega
   rw [← this, List.append_assoc, List.drop_left]
  rw [e3, e4, ← List.append_assoc, List.take_append_of_le_length (by simp only [List.length_append, htl, hvl, hdl]; omega), List.take_of_length_le (by simp only [List.length_append, htl, hvl, hdl]; omega)])
 have hz1' : ¬ ((i : Int) = (n : Int)) := by omega
 have hz3 : ¬ ((c : Int) < (n : Int) + 1) := by omega
 have hci1 : ¬ (c = i + 1) := by omega
 have hci : ¬ (c = i) := by omega
 have hw1 : IntKind.i64.wrap ((i : Int) + 1) = (i : Int) + 1 := IntWalk.i64_in _ (by omega)
 have hb1 : (0 : Int) ≤ (i : Int) + 1 := by omega
 have hin : i ≤ n := by omega
 have htn : ((i : Int) + 1).toNat = i + 1 := by omega
 have hb3 : (i : Int) ≤ (n : Int) := by omega
 have hb4 : (i : Int) ≤ (n : Int) + 1 := by omega
 have HC1 := hyd hcp1
 rw [hhd, htl0]
 clear hcell hvs hv hN hNf hi0 hz0 hz1 hz2 hsz hcp1 hdl htl hl hg1 hg2 hgr1 hW1 hhd htl0 hd1 hx1 hv1 hvl hv2 hg hcs hct ho hcM
 go_enter Tryz.func42, Tryz.ntmps42
 go_wp2_with (simp only [hov])
 go_region_law (refine step_copy_runI rfl _ _ 80 80 rfl (.slice (some ⟨g, (i + 1) * 11, none⟩) (n + 1 - (i + 1)) (c - (i + 1))) (.slice (some ⟨g, i * 11, none⟩) (n + 1 - i) (c - i)) (by simp [Act.eval, Act.put]) (by simp [Act.eval, Act.put]) HC1.out ?_)
 all_goals go_wp2_with fail
 all_goals go_ret
 all_goals exact HFIN.out
theorem insert_any (A : Option Addr) (B n c i vb : Nat) (ps : List Per) (p : Per) (w : World) (hl : ps.length = n) (ho : w.ownsRow B 92 11 (.slice A n c) n (perCs ps)) (hv : w.heap[vb]? = some (.cells (perC p).toArray 92 (0, 0))) (hvg : ∀ a, A = some a → vb ≠ a.block) (hB : B ≤ w.heap.size) (hn : n ≤ 1000) (hi : i ≤ n) :
  Calls Tryz.prog 42 #[.slice A n c, .int .i64 i, .slice (some ⟨vb, 0, none⟩) 1 1] w (InsOf w B A n (insP ps i p)) := by
 by_cases hin : i = n
 · subst hin
   exact ins_end A B i c vb ps p w hl ho hv hB hn
 · obtain ⟨g, cap, e, hgB, hgl⟩ := ho.form (by omega)
   injection e with e _ e2
   subst e e2
   have hxl : (perCs ps).length = n * 11 := by rw [perCs_len, hl]
   have hq : perCs (insP ps i p) = (perCs ps).take (i * 11) ++ perC p ++ (perCs ps).drop (i * 11) := by
    rw [perCs_take ps i (by omega), perCs_drop ps i (by omega), insP, perCs_app, perCs_cons, List.append_assoc]
   have hnc : n ≤ c := by
    rcases ho.2 with ⟨h1, _⟩ | ⟨g', cap, cur, h1, h2, h3, h4, h5, h6, h7⟩
    · cases h1
    · injection h1 with _ _ h8; omega
   unfold InsOf
   rw [hq]
   by_cases hr : c < n + 1
   · exact ins_grow g B n c i vb (perCs ps) (perC p) w hxl (perCs_one ps) (perC_len p) (perC_one p) hgl (fun j v h => (own_cell ho h).1) (fun j v h => (blk_cell hv j).trans (by simpa using h)) (blk_lt hv) hB hn (by omega) hnc hr
   · exact ins_shift g B n c i vb (perCs ps) (perC p) w hxl (perCs_one ps) (perC_len p) (perC_one p) ho hv (hvg _ rfl) hB hn (by omega) (by omega)
section
open Go.RowKit Go
def newPer (r : Ret) (b : Bl) : Per := ⟨r, b.pen, 0, b.prin, r.due, 0, 0⟩
def file1 (S : Ac) (r : Ret) (b : Bl) : Ac × Mv × Int :=
 if (settleS S.day S.bp (newPer r b)).1 ≠ 0 then (S, Mv.zero, (settleS S.day S.bp (newPer r b)).1) else
 if (addS S.cr b.exc).2 ≠ 0 then (S, Mv.zero, 2) else
 ({ S with ps := insP S.ps (aheadP r.per S.ps) (settleS S.day S.bp (newPer r b)).2.2, cr := (addS S.cr b.exc).1 }, ⟨b.pen, (settleS S.day S.bp (newPer r b)).2.1, b.prin, 0, b.exc, 0⟩, 0)
theorem own_map (A : Option Addr) (n c : Nat) : A.map (·.block) = (Value.slice A n c).ownBlock := by cases A <;> rfl
theorem own_ins_end {X Y : World} {B gb : Nat} {S : Ac} {A : Option Addr} {c : Nat} {vq v5 : Value} {qs : List PmE} {ps : List Per} (h : OwnV X B gb S (.slice A S.ps.length c) vq qs) (hg : X.grownBy Y (A.map (·.block)))
  (ho : Y.ownsRow B 92 11 v5 (S.ps.length + 1) (perCs ps)) (hl : ps.length = S.ps.length + 1) (hB : B ≤ X.heap.size) :
  OwnAt (Y.setCell ⟨gb, 3, none⟩ v5) B gb { S with ps := ps } ∧ Below B X (Y.setCell ⟨gb, 3, none⟩ v5) ∧ ∀ (k : Nat) (cs : Array Value) (t : TypeId) (fr : Nat × Nat), X.heap[k]? = some (.cells cs t fr) → t ≠ 92 → k ≠ gb → (Y.setCell ⟨gb, 3, none⟩ v5).heap[k]? = some (.cells cs t fr) := by
 rw [own_map A S.ps.length c] at hg
 have keep : ∀ {k : Nat} {cs : Array Value} {t : TypeId} {fr : Nat × Nat}, X.heap[k]? = some (.cells cs t fr) → t ≠ 92 → Y.heap[k]? = some (.cells cs t fr) := fun hk ht => own_far_type h.hp hg hk ht
 have hgY := keep h.hg (by decide)
 have p : Puts Y gb [(3, v5)] (Y.setCell ⟨gb, 3, none⟩ v5) := (Puts.start (Below.refl _ _)).set 3 v5
 have hbY : Below B X Y := (Below.refl B X).grown hg hB (fun k hk => (own_block_type h.hp hk).1)
 refine ⟨⟨v5, vq, qs, p.near _ _ _ hgY, h.hB, ?_, ?_, h.hm, fun q hq => ?_⟩, hbY.setCell h.hB _, fun k cs t fr hk ht hne => (p.far k (blk_lt (keep hk ht)) hne).trans (keep hk ht)⟩
 · show (Y.setCell ⟨gb, 3, none⟩ v5).ownsRow B 92 11 v5 ps.length (perCs ps)
   rw [hl]
   exact own_apart ho p (fun e => by obtain ⟨_, cs, hcs⟩ := own_block_type ho e; exact ne_of_type' hgY hcs (by decide) rfl)
 · have h1 : Y.ownsRow B 110 6 vq S.ms.length (pmCs qs) := own_keep h.hq (fun b cs hb => (keep hb (by decide)).trans hb.symm)
   exact own_apart h1 p (fun e => by obtain ⟨_, cs, hcs⟩ := own_block_type h1 e; exact ne_of_type' hgY hcs (by decide) rfl)
 · have h2 : PartsAt Y q.v q.p.parts := (h.parts q hq).keep (fun b cs hb => (keep hb (by decide)).trans hb.symm)
   exact h2.puts3 p hgY (by decide)
theorem cells11 {w : World} {b : Nat} {p : Per} (h : w.heap[b]? = some (.cells (perC p).toArray 92 (0, 0))) : PerAt w b 0 p :=
 ⟨fun j hj => by rw [Nat.zero_add]; exact (blk_cell h j).trans (by simp), fun j hj => by rw [Nat.zero_add]; exact blk_free h j⟩
theorem settle_enter (u v : Value) (w : World) : (callFunc 39 #[u, v]).run Tryz.prog w = .ok (.enter 39 #[u, v]) w := by kernel_rfl
theorem bs_enter (u v x : Value) (w : World) : (callFunc 40 #[u, v, x]).run Tryz.prog w = .ok (.enter 40 #[u, v, x]) w := by kernel_rfl
theorem ins_enter (u v x : Value) (w : World) : (callFunc 42 #[u, v, x]).run Tryz.prog w = .ok (.enter 42 #[u, v, x]) w := by kernel_rfl
theorem settle_put {w w' : World} {b : Nat} {p p' : Per} (h : w.heap[b]? = some (.cells (perC p).toArray 92 (0, 0))) (hp : Puts w b [(0 + 6, .int .i64 p'.o1), (0 + 10, .int .i64 p'.acc)] w') (he : p' = { p with o1 := p'.o1, acc := p'.acc }) : w'.heap[b]? = some (.cells (perC p').toArray 92 (0, 0)) := by
 have := hp.near _ _ _ h
 rw [he]
 exact this
theorem add_bd (a b : Int) : -4611686018427387904 ≤ (addS a b).1 ∧ (addS a b).1 ≤ 4611686018427387904 := by
 unfold addS
 split
 · unfold told
   split
   · rename_i h; simpa [amt] using h
   · simp
 · simp
theorem interest_bd (day bp : Int) (p : Per) : -4611686018427387904 ≤ (interestS day bp p).1 ∧ (interestS day bp p).1 ≤ 4611686018427387904 := by
 unfold interestS
 split
 · simp
 · split
   · exact add_bd _ _
   · simp
theorem settle_is (day bp : Int) (p : Per) : (settleS day bp p).2.2 = { p with o1 := (settleS day bp p).2.2.o1, acc := (settleS day bp p).2.2.acc } := by
 unfold settleS
 split
 · rfl
 · split <;> rfl
theorem insP_len (ps : List Per) (i : Nat) (p : Per) (h : i ≤ ps.length) : (insP ps i p).length = ps.length + 1 := by simp [insP]; omega
theorem aheadP_le (t : Int) (ps : List Per) : aheadP t ps ≤ ps.length := List.countP_le_length
@[reducible] def fileW (w : World) (r : Ret) (b : Bl) : World := ((w.alloc (.cells #[.int .i64 0, .int .i64 0, .int .i64 0, .int .i64 0, .int .i64 0, .int .i64 0] 33)).alloc (.cells #[.int .i64 r.per, .int .i64 r.due, .int .i64 r.filed, .int .i64 r.inc, .int .i64 r.wh, .int .i64 b.pen, .int .i64 0, .int .i64 b.prin, .int .i64 r.due, .int .i64 0, .int .i64 0] 92)).alloc (.cells #[.int .i64 b.pen, .int .i64 0, .int .i64 b.prin, .int .i64 0, .int .i64 b.exc, .int .i64 0] 33)
theorem fileW_facts (w : World) (r : Ret) (b : Bl) : Below w.heap.size w (fileW w r b) ∧ (fileW w r b).heap[w.heap.size]? = some (.cells #[.int .i64 0, .int .i64 0, .int .i64 0, .int .i64 0, .int .i64 0, .int .i64 0] 33 (0, 0)) ∧
  (fileW w r b).heap[w.heap.size + 1]? = some (.cells (perC (newPer r b)).toArray 92 (0, 0)) ∧ (fileW w r b).heap[w.heap.size + 1 + 1]? = some (.cells #[.int .i64 b.pen, .int .i64 0, .int .i64 b.prin, .int .i64 0, .int .i64 b.exc, .int .i64 0] 33 (0, 0)) ∧ (fileW w r b).heap.size = w.heap.size + 3 := by
 have e2 := blk_new ((w.alloc (.cells #[.int .i64 0, .int .i64 0, .int .i64 0, .int .i64 0, .int .i64 0, .int .i64 0] 33)).alloc (.cells #[.int .i64 r.per, .int .i64 r.due, .int .i64 r.filed, .int .i64 r.inc, .int .i64 r.wh, .int .i64 b.pen, .int .i64 0, .int .i64 b.prin, .int .i64 r.due, .int .i64 0, .int .i64 0] 92)) (.cells #[.int .i64 b.pen, .int .i64 0, .int .i64 b.prin, .int .i64 0, .int .i64 b.exc, .int .i64 0] 33) rfl
 have e1 := blk_alloc (blk_new (w.alloc (.cells #[.int .i64 0, .int .i64 0, .int .i64 0, .int .i64 0, .int .i64 0, .int .i64 0] 33)) (.cells #[.int .i64 r.per, .int .i64 r.due, .int .i64 r.filed, .int .i64 r.inc, .int .i64 r.wh, .int .i64 b.pen, .int .i64 0, .int .i64 b.prin, .int .i64 r.due, .int .i64 0, .int .i64 0] 92) rfl) (.cells #[.int .i64 b.pen, .int .i64 0, .int .i64 b.prin, .int .i64 0, .int .i64 b.exc, .int .i64 0] 33)
 simp only [World.size_alloc] at e1 e2
 exact ⟨(((Below.refl _ _).alloc (Nat.le_refl _) _).alloc (by simp) _).alloc (by simp; omega) _, blk_alloc (blk_alloc (blk_new w _ rfl) _) _, e1, e2, by simp⟩
theorem file1_any (gb B gr gl : Nat) (S : Ac) (r : Ret) (b : Bl) (w : World) (h : OwnAt w B gb S) (hB : B ≤ w.heap.size) (hr : w.heap[gr]? = some (.cells #[.int .i64 r.per, .int .i64 r.due, .int .i64 r.filed, .int .i64 r.inc, .int .i64 r.wh] 37 (0, 0))) (hl : w.heap[gl]? = some (.cells #[.int .i64 b.tax, .int .i64 b.prin, .int .i64 b.pen, .int .i64 b.exc] 85 (0, 0)))
  (hG : Good S) (hrd : 0 ≤ r.due ∧ r.due ≤ 3652058) (hrp : 0 ≤ r.per ∧ r.per ≤ 1000000) (hb : 0 ≤ b.prin ∧ b.prin ≤ 1125899906842624) :
  Calls Tryz.prog 38 #[.pointer (some ⟨gb, 0, none⟩), .pointer (some ⟨gr, 0, none⟩), .pointer (some ⟨gl, 0, none⟩)] w (StepOf w B gb (file1 S r b)) := by
 obtain ⟨vp, vq, qs, h⟩ := h
 have hgl := blk_lt h.hg
 obtain ⟨r0, r1, r2, r3, r4, r5⟩ := cells5U hr
 obtain ⟨l0, l1, l2, l3, l4⟩ := cells4G hl
 have hrl := blk_lt hr; have hll := blk_lt hl
 have HV := hyd h; have HR := hyd hr; have HL := hyd hl
 have n1 : gr ≠ w.heap.size := by omega
 have n2 : gl ≠ w.heap.size := by omega
 have n3 : gr ≠ w.heap.size + 1 := by omega
 have n4 : gl ≠ w.heap.size + 1 := by omega
 obtain ⟨hb0, hm0, hp0, hm2, hz0⟩ := fileW_facts w r b
 have hv0 := h.below hb0
 have hBg := h.hB
 have hib := interest_bd S.day S.bp (newPer r b)
 have HS := hyd (settle_any gb (w.heap.size + 1) 0 S.day S.bp (.int .i64 S.cr) vp vq 83 (newPer r b) (fileW w r b) hv0.hg (cells11 hp0) hG.day (by show 0 ≤ r.due ∧ r.due ≤ 3652058; exact hrd) (by show _ ≤ _ - 0 ∧ _ - 0 ≤ _; omega))
 have HM0 := hyd hm0; have HP0 := hyd hp0; have HM2 := hyd hm2; have HB0 := hyd hb0; have HZ0 := hyd hz0
 obtain ⟨c0, more, p1, hset⟩ : ∃ c0 more p1, settleS S.day S.bp (newPer r b) = (c0, more, p1) := ⟨_, _, _, rfl⟩
 have hpi := settle_is S.day S.bp (newPer r b)
 have HF : Hid (file1 S r b = if c0 ≠ 0 then (S, Mv.zero, c0) else if (addS S.cr b.exc).2 ≠ 0 then (S, Mv.zero, 2) else ({ S with ps := insP S.ps (aheadP r.per S.ps) p1, cr := (addS S.cr b.exc).1 }, ⟨b.pen, more, b.prin, 0, b.exc, 0⟩, 0)) := hyd (by unfold file1; rw [hset])
 rw [hset] at HS hpi
 simp only at hpi
 have HPI := hyd hpi
 have hnp := hG.np; have hris := hG.rise
 have hper : ∀ p ∈ S.ps, 0 ≤ p.ret.per ∧ p.ret.per ≤ 1000000 := fun p hp => by have := (retB_yes (hG.per p hp).ret).1; omega
 have HRI := hyd hris; have HPER := hyd hper
 clear h hr hl hb0 hm0 hp0 hm2 hv0 hib hpi hset hris hper hz0 hG
 go_enter Tryz.func38, Tryz.ntmps38
 go_wp2_with fail
 refine HS.out.mono ?_; rintro e w2 (⟨hne, rfl, hw2⟩ | ⟨h0, rfl, hp2⟩)
 · simp only at hne hw2 ⊢
   refine ⟨rfl, (HB0.out.mono hB).trans (hw2.mono (Nat.le_trans hB HB0.out.size)), ?_⟩
   rw [HF.out, if_pos hne]
   exact .inr ⟨hne, .inr rfl⟩
 simp only at h0 hp2
 subst h0
 have hbw2 : Below w.heap.size w w2 := HB0.out.trans (hp2.toBelow (by omega) HB0.out.size)
 have hpb2 : w2.heap[w.heap.size + 1]? = some (.cells (perC p1).toArray 92 (0, 0)) := settle_put HP0.out hp2 HPI.out
 have hm02 : w2.heap[w.heap.size]? = _ := (hp2.far w.heap.size (by have := HZ0.out; omega) (by omega)).trans HM0.out
 have hm22 : w2.heap[w.heap.size + 1 + 1]? = _ := (hp2.far (w.heap.size + 1 + 1) (by have := HZ0.out; omega) (by omega)).trans HM2.out
 have hov2 := HV.out.below hbw2
 have hr2 := blk_below HR.out hbw2 hrl
 have hl2 := blk_below HL.out hbw2 hll
 obtain ⟨x0, x1, x2, x3, x4, x5, x6⟩ := cells6U hm22
 have p3 : Puts w2 (w.heap.size + 1 + 1) [(1, .int .i64 more)] (w2.setCell ⟨w.heap.size + 1 + 1, 1, none⟩ (.int .i64 more)) := (Puts.start (Below.refl _ _)).set 1 _
 have hbw3 : Below w.heap.size w (w2.setCell ⟨w.heap.size + 1 + 1, 1, none⟩ (.int .i64 more)) := hbw2.setCell (by show w.heap.size ≤ w.heap.size + 1 + 1; omega) _
 have hm23 : (w2.setCell ⟨w.heap.size + 1 + 1, 1, none⟩ (.int .i64 more)).heap[w.heap.size + 1 + 1]? = some (.cells #[.int .i64 b.pen, .int .i64 more, .int .i64 b.prin, .int .i64 0, .int .i64 b.exc, .int .i64 0] 33 (0, 0)) := p3.near _ _ _ hm22
 have hm03 : (w2.setCell ⟨w.heap.size + 1 + 1, 1, none⟩ (.int .i64 more)).heap[w.heap.size]? = some (.cells #[.int .i64 0, .int .i64 0, .int .i64 0, .int .i64 0, .int .i64 0, .int .i64 0] 33 (0, 0)) := (p3.far w.heap.size (blk_lt hm02) (by omega)).trans hm02
 have hpb3 : (w2.setCell ⟨w.heap.size + 1 + 1, 1, none⟩ (.int .i64 more)).heap[w.heap.size + 1]? = some (.cells (perC p1).toArray 92 (0, 0)) := (p3.far (w.heap.size + 1) (blk_lt hpb2) (by omega)).trans hpb2
 have hlt2 := blk_lt hm22
 have HBW3 := hyd hbw3; have HM23 := hyd hm23; have HM03 := hyd hm03; have HPB3 := hyd hpb3
 clear hp2 hbw2 hpb2 hm02 hm22 hr2 hl2 hov2 p3 hbw3 hm23 hm03 hpb3
 go_upto_region 4 with fail
 generalize hX : w2.setCell ⟨w.heap.size + 1 + 1, 1, none⟩ (.int .i64 more) = X at *
 clear hX x0 x1 x2 x3 x4 x5 x6 hlt2
 have hovX := HV.out.below HBW3.out
 have hrX := blk_below HR.out HBW3.out hrl
 obtain ⟨A, c, rfl, hcA, hrd2⟩ := hovX.rdp
 have HBS := hyd (bsPer_any A S.ps.length c S.ps r.per X.drew rfl (hrd2.below (Below.refl _ _).drew) (by omega) HRI.out HPER.out hrp)
 obtain ⟨a0, a1, a2, a3, a4, a5⟩ := cells5U hovX.hg
 obtain ⟨q0, q1, q2, q3, q4, q5⟩ := cells5U hrX
 have HOX := hyd hovX
 clear hovX hrX hrd2 r0 r1 r2 r3 r4 r5 l0 l1 l2 l3 l4
 go_cut [8] from 28 to 37 (fun v8 wc => v8 = .int .i64 (aheadP r.per S.ps) ∧ Below X.heap.size X wc)
 case first =>
  go_region_law (first
   | (refine step_call3R rfl 40 (.tmp 32) (.tmp 34) (.func 41) _ _ _ rfl (.slice A S.ps.length c) (.int .i64 r.per) (.func (.func 41) #[] #[]) rfl rfl rfl (bs_enter _ _ _) ?_
      refine HBS.out.mono ?_; rintro e w3 ⟨⟨bb, rfl⟩, hw3⟩; refine ⟨_, rfl, ?_⟩
      have HW3 := hyd hw3; clear hw3))
  all_goals go_wp2_with fail
  all_goals go_meet
  all_goals exact ⟨rfl, (Below.refl _ _).drew.trans HW3.out⟩
 case rest =>
  obtain ⟨rfl, hbc⟩ := hcut
  have hbwc : Below w.heap.size w wc := HBW3.out.trans (hbc.mono HBW3.out.size)
  have hovc := HOX.out.below hbc
  have hlc := blk_below HL.out hbwc hll
  have hm0c := blk_below HM03.out hbc (blk_lt HM03.out)
  have hm2c := blk_below HM23.out hbc (blk_lt HM23.out)
  have hpbc := blk_below HPB3.out hbc (blk_lt HPB3.out)
  obtain ⟨z0, z1, z2, z3, z4, z5⟩ := cells5U hovc.hg
  obtain ⟨i0, hi0, hz0', hz1', hz2'⟩ := info_parts info_per
  have hlen : (insP S.ps (aheadP r.per S.ps) p1).length = S.ps.length + 1 := insP_len _ _ _ (aheadP_le _ _)
  have hpc : ∀ j, j < 11 → wc.cell? ⟨w.heap.size + 1, j, none⟩ = (perC p1)[j]? := fun j hj => (blk_cell hpbc j).trans (by simp)
  have y0 := hpc 0 (by omega); have y1 := hpc 1 (by omega); have y2 := hpc 2 (by omega); have y3 := hpc 3 (by omega); have y4 := hpc 4 (by omega); have y5 := hpc 5 (by omega); have y6 := hpc 6 (by omega); have y7 := hpc 7 (by omega); have y8 := hpc 8 (by omega); have y9 := hpc 9 (by omega); have y10 := hpc 10 (by omega)
  simp only [perC, List.getElem?_cons_zero, List.getElem?_cons_succ] at y0 y1 y2 y3 y4 y5 y6 y7 y8 y9 y10
  have hpl := blk_lt hpbc
  have hglc := blk_lt hovc.hg
  have n5 : w.heap.size + 1 ≠ wc.heap.size := by omega
  have n6 : gb ≠ wc.heap.size := by omega
  have hovd := (hovc.below (Below.refl _ _).drew).below (bnewU wc.drew (.cells (perC p1).toArray 92))
  have hpd := blk_new wc.drew (.cells (perC p1).toArray 92) rfl
  have HIN := hyd (insert_any A B S.ps.length c (aheadP r.per S.ps) wc.heap.size S.ps p1 (wc.drew.alloc (.cells (perC p1).toArray 92)) rfl hovd.hp hpd (fun a ha => by
    obtain ⟨_, cs, hcs⟩ := own_block_type hovc.hp (b := a.block) (by rw [ha]; rfl)
    have := blk_lt hcs; omega) (by have h1 := hbwc.size; simp; omega) (by omega) (aheadP_le _ _))
  have HOD := hyd hovd; have HBWC := hyd hbwc
  have HBD : Hid (B ≤ (wc.drew.alloc (.cells (perC p1).toArray 92)).heap.size) := hyd (by have h1 := hbwc.size; simp; omega)
  have hbcd : Below wc.heap.size wc (wc.drew.alloc (.cells (perC p1).toArray 92)) := (Below.refl _ _).drew.alloc (Nat.le_refl _) _
  have HBCD := hyd hbcd
  have HL0 := hyd (blk_below hlc hbcd (blk_lt hlc)); have HM0C := hyd (blk_below hm0c hbcd (blk_lt hm0c)); have HM2C := hyd (blk_below hm2c hbcd (blk_lt hm2c))
  have n7 : w.heap.size ≠ gb := by omega
  have n8 : w.heap.size + 1 + 1 ≠ gb := by omega
  have n9 : gl ≠ gb := fun e => by rw [e] at hlc; exact ne_of_type' hovc.hg hlc (by decide) rfl
  have HLEN := hyd hlen
  obtain ⟨at_, hat⟩ : ∃ k, aheadP r.per S.ps = k := ⟨_, rfl⟩
  rw [hat] at HIN HLEN ⊢
  have HAT := hyd hat
  clear hbc hbwc hovc hlc hm0c hm2c hpbc hpc hovd hpd hbcd hat hlen hi0 hz0' hz1' hz2'
  go_upto_region 5 with fail
  go_cut [] from 38 to 48 (fun wd => OwnAt wd B gb { S with ps := insP S.ps at_ p1 } ∧ Below B wc wd ∧ wd.heap[w.heap.size]? = some (.cells #[.int .i64 0, .int .i64 0, .int .i64 0, .int .i64 0, .int .i64 0, .int .i64 0] 33 (0, 0)) ∧ wd.heap[w.heap.size + 1 + 1]? = some (.cells #[.int .i64 b.pen, .int .i64 more, .int .i64 b.prin, .int .i64 0, .int .i64 b.exc, .int .i64 0] 33 (0, 0)) ∧ wd.heap[gl]? = some (.cells #[.int .i64 b.tax, .int .i64 b.prin, .int .i64 b.pen, .int .i64 b.exc] 85 (0, 0)))
  case first =>
   go_region_law (first
    | (refine step_call3R rfl 42 (.tmp 42) (.tmp 43) (.tmp 45) _ _ _ rfl (.slice A S.ps.length c) (.int .i64 (at_ : Int)) (.slice (some ⟨wc.heap.size, 0, none⟩) 1 1) rfl rfl rfl (ins_enter _ _ _) ?_
       refine HIN.out.mono ?_; rintro e w5 ⟨v5, rfl, ho5, hg5⟩; refine ⟨_, rfl, ?_⟩
       have hE := own_ins_end HOD.out hg5 ho5 HLEN.out HBD.out
       have hgb5 := own_far_type HOD.out.hp (by rw [← own_map]; exact hg5) HOD.out.hg (by decide)
       obtain ⟨d0, d1, d2, d3, d4, d5⟩ := cells5U hgb5
       have hgl5 := blk_lt hgb5
       obtain ⟨A5, c5, rfl, _⟩ := own_form ho5
       have HE := hyd hE
       clear ho5 hg5 hE hgb5))
   all_goals go_wp2_with fail
   all_goals go_meet
   all_goals exact ⟨HE.out.1, (HBCD.out.mono (by have h1 := HBWC.out.size; omega)).trans HE.out.2.1, HE.out.2.2 _ _ _ _ HM0C.out (by decide) n7, HE.out.2.2 _ _ _ _ HM2C.out (by decide) n8, HE.out.2.2 _ _ _ _ HL0.out (by decide) n9⟩
  case rest =>
   obtain ⟨hod, hbd, hm0d, hm2d, hld⟩ := hcut
   have hbw : Below B w wc := (HBWC.out.mono hB).trans hbd
   obtain ⟨vpd, vqd, qsd, hovd⟩ := hod
   obtain ⟨d0, d1, d2, d3, d4, d5⟩ := cells5U hovd.hg
   obtain ⟨x0, x1, x2, x3, x4, x5, x6⟩ := cells6U hm2d
   obtain ⟨e0, e1, e2, e3, e4⟩ := cells4G hld
   have hgld := blk_lt hovd.hg; have hlld := blk_lt hld; have hm2l := blk_lt hm2d
   have hne1 : gb ≠ gl := ne_of_type' hovd.hg hld (by decide)
   have HOV := hyd hovd; have HBW := hyd hbw; have HM0D := hyd hm0d; have HM2D := hyd hm2d; have HLD := hyd hld
   obtain ⟨cr', er, hadd⟩ : ∃ cr' er, addS S.cr b.exc = (cr', er) := ⟨_, _, rfl⟩
   have HO := HF.out
   rw [if_neg (by simp), hadd, HAT.out] at HO
   simp only at HO
   clear hovd hbd hbw hm0d hm2d hld d0 d1 d3 d4 z0 z1 z2 z3 z4 z5 y0 y1 y2 y3 y4 y5 y6 y7 y8 y9 y10 a0 a1 a2 a3 a4 a5 q0 q1 q2 q3 q4 q5
   by_cases h0 : er = 0
   · subst h0
     have HA := hyd (fun wx => uadd_yes S.cr b.exc wx (by rw [hadd]))
     rw [hadd] at HA
     rw [if_neg (by simp)] at HO
     have HOO := hyd HO
     clear hadd HO
     go_wp2_with fail
     go_region_law (first
      | (refine step_call2R rfl 43 (.tmp 53) (.tmp 55) 2 2 rfl (.int .i64 S.cr) (.int .i64 b.exc) rfl rfl (add_enter _ _) ?_
         refine (HA.out _).mono ?_; rintro e w6 ⟨rfl, hw6⟩; refine ⟨_, rfl, ?_⟩
         have hov6 := (HOV.out.below (Below.refl _ _).drew).below hw6
         obtain ⟨f0, f1, f2, f3, f4, f5⟩ := cells5U hov6.hg
         have hm26 := blk_below (w := wc.drew) HM2D.out hw6 (blk_lt HM2D.out)
         have hm06 := blk_below (w := wc.drew) HM0D.out hw6 (blk_lt HM0D.out)
         obtain ⟨g0, g1, g2, g3, g4, g5, g6⟩ := cells6U hm26
         obtain ⟨h0, h1, h2, h3, h4, h5, h6⟩ := cells6U hm06
         have hgl6 := blk_lt hov6.hg; have hml6 := blk_lt hm26; have hml7 := blk_lt hm06
         have HOV6 := hyd hov6; have HM26 := hyd hm26; have HM06 := hyd hm06
         have HBW6 : Hid (Below B w w6) := hyd (HBW.out.trans ((Below.refl _ _).drew.trans hw6 |>.mono (Nat.le_trans hB HBW.out.size)))
         clear hw6 hov6 hm26 hm06 f0 f1 f3 f4))
     all_goals go_wp2_with fail
     all_goals
      have p6 := (Puts.start (b := gb) (Below.refl w6.heap.size w6)).set 2 (.int .i64 cr')
      have hov7 := HOV6.out.setCr p6
      have hm07 := (p6.far w.heap.size hml7 n7).trans HM06.out
      obtain ⟨E1, E2⟩ := step_last0 { S with ps := insP S.ps at_ p1, cr := cr' } ⟨b.pen, more, b.prin, 0, b.exc, 0⟩ (HBW6.out.setCell hBg (.int .i64 cr')) ⟨_, _, _, hov7⟩ hm07 hB
      rw [HOO.out]
      exact mv_ret ⟨b.pen, more, b.prin, 0, b.exc, 0⟩ 0 w.heap.size rfl rfl rfl E1 E2
   · have HA := hyd (fun wx => uadd_no S.cr b.exc wx (by rw [hadd]; exact h0))
     rw [if_pos h0] at HO
     have HOO := hyd HO
     clear hadd HO
     go_wp2_with fail
     have HBB := hyd (fun (w6 : World) (hw : Below wc.drew.heap.size wc.drew w6) => (HBW.out.trans (((Below.refl _ _).drew.trans hw).mono (Nat.le_trans hB HBW.out.size)) : Below B w w6))
     go_region_law (refine step_call2P rfl 43 (.tmp 53) (.tmp 55) 2 2 rfl (.int .i64 S.cr) (.int .i64 b.exc) rfl rfl (add_enter _ _) ((HA.out _).mono ?_) ?_
                    · rintro e w6 ⟨rfl, hw6⟩; exact ⟨_, rfl, rfl, HBB.out w6 hw6, by rw [HOO.out]; exact .inr ⟨by show (2 : Int) ≠ 0; decide, .inr rfl⟩⟩)
     all_goals trivial
end
end Go.Proofs.YtbjjgnaojoaoiaaGreat
