/- Insert: a period into a row of periods. -/
import Derived.Test.YtbjjgnaojoaoiaaGreatK9
import Derived.Test.YtbjjgnaojoaoiaaGreatK15
import Derived.Shelf.Spec.SlicesInsert
import Derived.Lib.AppendZerosOnto
import Derived.Laws.NewBlocks
namespace Go.Proofs.YtbjjgnaojoaoiaaGreat
open Go.RowKit Go Go.Lib
set_option linter.unusedVariables false
set_option linter.unusedSimpArgs false

/-- 'copy' of elements of k cells each. -/
theorem run_copy_k {P : Program} (w : World) (dT sT ty elem : TypeId) (k b o dLen dCap : Nat) (a : Addr) (sLen sCap n : Nat) (cs : List Value)
    (hu : P.underlying dT = some (.slice elem)) (hs : (P.info? elem).map (·.size) = some k) (hn : Nat.min sLen dLen = n) (hl : cs.length = n * k)
    (hsrc : ∀ j v, cs[j]? = some v → w.cell? (a.add j) = some v) (hc : ∀ j, j < cs.length → (w.cell? ⟨b, o + j, none⟩).isSome = true) (hf : ∀ j, j < cs.length → w.frozen? ⟨b, o + j, none⟩ = false) (h1 : ∀ v ∈ cs, v.oneCell' = true) :
    (Builtin.copy_ #[dT, sT] ty #[.slice (some ⟨b, o, none⟩) dLen dCap, .slice (some a) sLen sCap]).run P w = .ok (goInt n) (w.setCells b o cs) := by
  have hl0 := run_loadCells_list (P := P) w a cs hsrc
  have hst := run_storeCells_cells (P := P) b o cs 0 w (by simpa using hc) (by simpa using hf) h1
  cases hq : P.info? elem with
  | none => simp [hq] at hs
  | some i =>
    have hi : i.size = k := by simpa [hq] using hs
    rw [hl] at hl0
    simp [Builtin.copy_, run_underlying hu, Builtin.lenOf, Builtin.firstCells, sizeOf, typeInfo, hq, hi, hn, hl0, hst]
def insP (ps : List Per) (i : Nat) (p : Per) : List Per := ps.take i ++ p :: ps.drop i
theorem perCs_cons (p : Per) (l : List Per) : perCs (p :: l) = perC p ++ perCs l := by simp [perCs]
theorem perCs_take (ps : List Per) (i : Nat) (h : i ≤ ps.length) : (perCs ps).take (i * 11) = perCs (ps.take i) := by
  have : perCs ps = perCs (ps.take i) ++ perCs (ps.drop i) := by rw [← perCs_app, List.take_append_drop]
  rw [this, List.take_append_of_le_length (by rw [perCs_len, List.length_take]; omega), List.take_of_length_le (by rw [perCs_len, List.length_take]; omega)]
theorem perCs_drop (ps : List Per) (i : Nat) (h : i ≤ ps.length) : (perCs ps).drop (i * 11) = perCs (ps.drop i) := by
  have : perCs ps = perCs (ps.take i) ++ perCs (ps.drop i) := by rw [← perCs_app, List.take_append_drop]
  have hl : (perCs (ps.take i)).length = i * 11 := by rw [perCs_len, List.length_take]; omega
  rw [this, ← hl, List.drop_left]
theorem perC_one (p : Per) : ∀ u ∈ perC p, u.oneCell' = true := by
  intro u hu
  simp [perC] at hu
  rcases hu with rfl | rfl | rfl | rfl | rfl | rfl | rfl | rfl | rfl | rfl | rfl <;> rfl
/-- What Insert leaves. -/
def InsOf (w : World) (B : Nat) (A : Option Addr) (n : Nat) (ps : List Per) (e : Ending) (w' : World) : Prop := ∃ v, e = .returned v ∧ w'.ownsRow B 92 11 v (n + 1) (perCs ps) ∧ w.grownBy w' (A.map (·.block))
set_option maxHeartbeats 6400000 in
set_option maxRecDepth 100000 in
theorem ins_end (A : Option Addr) (B n c vb : Nat) (ps : List Per) (p : Per) (w : World) (hl : ps.length = n) (ho : w.ownsRow B 92 11 (.slice A n c) n (perCs ps)) (hv : w.heap[vb]? = some (.cells (perC p).toArray 92 (0, 0))) (hB : B ≤ w.heap.size) (hn : n ≤ 1000) :
    Calls Tryz.prog 42 #[.slice A n c, .int .i64 n, .slice (some ⟨vb, 0, none⟩) 1 1] w (InsOf w B A n (insP ps n p)) := by
  obtain ⟨i0, hi, hz0, hz1, hz2⟩ := info_parts info_per
  have hvr : Rd w w.heap.size 11 (some ⟨vb, 0, none⟩) 1 (perC p) := ⟨perC_len p, fun _ => ⟨vb, 0, rfl, blk_lt hv, fun j hj => by rw [Nat.zero_add]; exact (blk_cell hv j).trans (by simp)⟩⟩
  have HVR := Lib.hid hvr; have HO := Lib.hid ho; have HI := Lib.hid hi
  have HL : Hid (perCs ps ++ perC p = perCs (insP ps n p)) := Lib.hid (by unfold insP; rw [List.take_of_length_le (by omega), List.drop_of_length_le (by omega), perCs_app, perCs_cons]; simp [perCs])
  have hform := ho.2
  clear ho hv hvr hi
  rcases hform with ⟨h1, h2⟩ | ⟨g, cap, cur, h1, h2, h3, h4, h5, h6, h7⟩
  · injection h1 with h1 _ h3
    subst h1 h2 h3
    go_enter Tryz.func42, Tryz.ntmps42
    go_wp2_with (at_builtin; refine wpList_app rfl (.tmp 23) (.tmp 24) _ rfl B 92 i0 _ 11 88 Tryz.underlying80 HI.out hz0 hz1 hz2 rfl (by omega) (.slice none 0 0) 0 (perCs ps) rfl HO.out _ _ 1 1 (perC p) rfl HVR.out (perC_one p) (by unfold maxLen; omega) (by omega) hB ?_; intro v5 w5 hO hgr hat)
    have HG := Lib.hid hgr; have HOO := Lib.hid hO
    clear hO hgr hat
    go_wp2_with fail
    go_ret
    exact ⟨_, rfl, by rw [← HL.out]; exact HOO.out, HG.out⟩
  · injection h1 with h1 _ h8
    subst h1 h8
    clear h2 h3 h4 h5 h6 h7
    go_enter Tryz.func42, Tryz.ntmps42
    go_wp2_with (at_builtin; refine wpList_app rfl (.tmp 23) (.tmp 24) _ rfl B 92 i0 _ 11 88 Tryz.underlying80 HI.out hz0 hz1 hz2 rfl (by omega) (.slice (some ⟨g, 0, none⟩) n c) n (perCs ps) rfl HO.out _ _ 1 1 (perC p) rfl HVR.out (perC_one p) (by unfold maxLen; omega) (by omega) hB ?_; intro v5 w5 hO hgr hat)
    all_goals go_ret
    all_goals exact ⟨_, rfl, by rw [← HL.out]; exact hO, hgr⟩
def perZ : Value := .agg #[.int .i64 0, .int .i64 0, .int .i64 0, .int .i64 0, .int .i64 0, .int .i64 0, .int .i64 0, .int .i64 0, .int .i64 0, .int .i64 0, .int .i64 0]
theorem zeroCells_size (k : Nat) : (Builtin.zeroCells perZ.cells k).size = k * 11 := by simp [Builtin.zeroCells, perZ, Value.cells]
/-- What Insert leaves, of cells. -/
def InsC (w : World) (B : Nat) (A : Option Addr) (n : Nat) (xs : List Value) (e : Ending) (w' : World) : Prop := ∃ v, e = .returned v ∧ w'.ownsRow B 92 11 v (n + 1) xs ∧ w.grownBy w' (A.map (·.block))
theorem ins_row {i n : Nat} {ROW : Array Value} {hd vs tl : List Value} (hR : (n + 1) * 11 ≤ ROW.size) (hh : hd.length = i * 11) (hv : vs.length = 11) (ht : tl.length = (n - i) * 11) (hi : i < n) (hR1 : ROW.toList.take (i * 11) = hd) :
    (putAt (putAt ROW (i * 11) vs) ((i + 1) * 11) tl).toList.take ((n + 1) * 11) = hd ++ vs ++ tl := by
  rw [putAt_list tl _ _ (by rw [putAt_size, ht]; omega), putAt_list vs _ _ (by rw [hv]; omega)]
  have e1 : (ROW.toList.take (i * 11) ++ vs ++ ROW.toList.drop (i * 11 + vs.length)).take ((i + 1) * 11) = hd ++ vs := by
    rw [hR1]
    have : (hd ++ vs).length = (i + 1) * 11 := by rw [List.length_append, hh, hv]; omega
    rw [← this, List.take_left']
    rfl
  rw [e1]
  have e2 : (hd ++ vs ++ tl).length = (n + 1) * 11 := by simp only [List.length_append, hh, hv, ht]; omega
  rw [List.take_append_of_le_length (by omega), ← e2, List.take_length]
set_option maxHeartbeats 3200000 in
set_option maxRecDepth 100000 in
theorem ins_grow (g B n c i vb : Nat) (xs vs : List Value) (w : World) (hl : xs.length = n * 11) (hx1 : ∀ u ∈ xs, u.oneCell' = true) (hvl : vs.length = 11) (hv1 : ∀ u ∈ vs, u.oneCell' = true) (hgl : g < w.heap.size)
    (hcs : ∀ j v, xs[j]? = some v → w.cell? ⟨g, j, none⟩ = some v) (hvs : ∀ j v, vs[j]? = some v → w.cell? ⟨vb, j, none⟩ = some v) (hvbl : vb < w.heap.size) (hB : B ≤ w.heap.size) (hn : n ≤ 1000)
    (hi : i < n) (hnc : n ≤ c) (hroom : c < n + 1) :
    Calls Tryz.prog 42 #[.slice (some ⟨g, 0, none⟩) n c, .int .i64 i, .slice (some ⟨vb, 0, none⟩) 1 1] w (InsC w B (some ⟨g, 0, none⟩) n (xs.take (i * 11) ++ vs ++ xs.drop (i * 11))) := by
  obtain ⟨i0, hi0, hz0, hz1, hz2⟩ := info_parts info_per
  have hsz : (Tryz.prog.info? 92).map (·.size) = some 11 := by rw [hi0]; simp [hz1]
  obtain ⟨hd, hhd⟩ : ∃ hd, xs.take (i * 11) = hd := ⟨_, rfl⟩
  obtain ⟨tl, htl0⟩ : ∃ tl, xs.drop (i * 11) = tl := ⟨_, rfl⟩
  have hdl : tl.length = (n - i) * 11 := by rw [← htl0, List.length_drop, hl]; omega
  have htl : hd.length = i * 11 := by rw [← hhd, List.length_take, hl]; omega
  have hd1 : ∀ u ∈ tl, u.oneCell' = true := fun u hu => hx1 u (by rw [← htl0] at hu; exact List.mem_of_mem_drop hu)
  have hz1' : ¬ ((i : Int) = (n : Int)) := by omega
  have hz3 : (c : Int) < (n : Int) + 1 := by omega
  have hkk : (n : Int) + 1 - (i : Int) = ((n + 1 - i : Nat) : Int) := by omega
  have hik : i + (n + 1 - i) = n + 1 := by omega
  have hold : (Builtin.firstCells i0.size i (.slice (some ⟨g, 0, none⟩) i c)).run Tryz.prog w.drew = .ok hd.toArray w.drew := by
    rw [hz1]
    exact run_firstCells_some w.drew 11 i ⟨g, 0, none⟩ i c hd htl (fun j v hj => by
      rw [Addr.add_lit, Nat.zero_add]
      rw [← hhd, List.getElem?_take] at hj
      split at hj
      · exact hcs j v hj
      · cases hj)
  have hrz : ∀ ty, (Builtin.append_ #[80, 3] ty #[.slice (some ⟨g, 0, none⟩) i c, .int .i64 ((n : Int) + 1 - (i : Int))]).run Tryz.prog w =
      .ok (.slice (some ⟨w.heap.size, 0, none⟩) (n + 1) (grownCap w (n + 1) c 92)) (w.drew.alloc (.cells (hd.toArray ++ Builtin.zeroCells perZ.cells (n + 1 - i) ++ Builtin.zeroCells perZ.cells (grownCap w (n + 1) c 92 - (n + 1))) 92)) := fun ty => by
    have h := Lib.run_append_grow_zeros w 80 3 ty 92 i0 perZ .i64 .i64 Tryz.underlying80 Tryz.underlying3 hi0 hz0 (some ⟨g, 0, none⟩) i c hd hold (n + 1 - i) (by omega) (by omega) (by omega) (by omega) (by rw [hz2]; omega) (by rw [hz2, hik]; exact growslice_fits hroom (by omega))
    rw [hik] at h
    rw [hkk]
    exact h
  obtain ⟨G, hG⟩ : ∃ G, G = grownCap w (n + 1) c 92 := ⟨_, rfl⟩
  obtain ⟨ROW, hROW⟩ : ∃ ROW : Array Value, ROW = hd.toArray ++ Builtin.zeroCells perZ.cells (n + 1 - i) ++ Builtin.zeroCells perZ.cells (G - (n + 1)) := ⟨_, rfl⟩
  rw [← hG, ← hROW] at hrz
  have hGn : n + 1 ≤ G := by rw [hG]; exact grownCap_ge w _ _ _
  have hRs : ROW.size = G * 11 := by
    rw [hROW]
    simp only [Array.size_append, zeroCells_size, List.size_toArray, htl]
    omega
  have hRt : ROW.toList.take (i * 11) = hd := by
    rw [hROW]; simp only [Array.toList_append, List.append_assoc]
    rw [List.take_append_of_le_length (by simp [htl]), List.take_of_length_le (by simp [htl])]
  have hGM : G ≤ maxLen := by rw [hG]; exact grownCap_le_maxLen w (n + 1) c _ (by unfold maxLen; omega)
  have hN : ∀ j, j < (n + 1) * 11 → ((w.drew.alloc (.cells ROW 92)).cell? ⟨w.heap.size, j, none⟩).isSome = true := fun j hj => by
    rw [World.cell?_alloc_at (w := w.drew) ROW _ w.heap.size j rfl, Array.getElem?_eq_getElem (by omega)]; rfl
  have hNf : ∀ j, (w.drew.alloc (.cells ROW 92)).frozen? ⟨w.heap.size, j, none⟩ = false := fun j => World.frozen?_alloc_at (w := w.drew) ROW _ w.heap.size j rfl
  have hOb : ∀ j v, w.cell? ⟨g, j, none⟩ = some v → (w.drew.alloc (.cells ROW 92)).cell? ⟨g, j, none⟩ = some v := fun j v h => by rw [World.cell?_alloc_past (w := w.drew) _ g j hgl]; exact h
  have hOv : ∀ j v, w.cell? ⟨vb, j, none⟩ = some v → (w.drew.alloc (.cells ROW 92)).cell? ⟨vb, j, none⟩ = some v := fun j v h => by rw [World.cell?_alloc_past (w := w.drew) _ vb j hvbl]; exact h
  have hblk := blk_new w.drew (.cells ROW 92) rfl
  have hfar : ∀ k, k < w.heap.size → (w.drew.alloc (.cells ROW 92)).heap[k]? = w.heap[k]? := fun k hk => Below.heap_alloc w.drew _ k hk
  obtain ⟨W1, hW1⟩ : ∃ W1, W1 = w.drew.alloc (.cells ROW 92) := ⟨_, rfl⟩
  have hbW : Below w.heap.size w (w.drew.alloc (.cells ROW 92)) := (Below.refl _ _).drew.alloc (Nat.le_refl _) _
  rw [← hW1] at hrz hN hNf hOb hOv hblk hbW
  have hcpA : ∀ (W : World), (∀ x, W.cell? x = W1.cell? x) → (∀ x, W.frozen? x = W1.frozen? x) → ∀ ty dc, (Builtin.copy_ #[80, 80] ty #[.slice (some ⟨w.heap.size, i * 11, none⟩) (n + 1 - i) dc, .slice (some ⟨vb, 0, none⟩) 1 1]).run Tryz.prog W = .ok (goInt ((1 : Nat) : Int)) (W.setCells w.heap.size (i * 11) vs) := fun W hWc hWf ty dc =>
    run_copy_k W _ _ ty 92 11 w.heap.size (i * 11) (n + 1 - i) dc ⟨vb, 0, none⟩ 1 1 1 vs Tryz.underlying80 hsz (by simp only [Nat.min_def]; split <;> omega) hvl
      (fun j v hj => by rw [Addr.add_lit, hWc, Nat.zero_add]; exact hOv _ v (hvs j v hj))
      (fun j hj => by rw [hWc]; rw [hvl] at hj; exact hN _ (by omega)) (fun j hj => by rw [hWf]; exact hNf _) hv1
  have hbN : g ≠ w.heap.size := by omega
  have hcpB : ∀ (W : World), (∀ x, W.cell? x = (W1.setCells w.heap.size (i * 11) vs).cell? x) → (∀ x, W.frozen? x = (W1.setCells w.heap.size (i * 11) vs).frozen? x) → ∀ ty dc sc, (Builtin.copy_ #[80, 80] ty #[.slice (some ⟨w.heap.size, (i + 1) * 11, none⟩) (n + 1 - (i + 1)) dc, .slice (some ⟨g, i * 11, none⟩) (n - i) sc]).run Tryz.prog W = .ok (goInt ((n - i : Nat) : Int)) (W.setCells w.heap.size ((i + 1) * 11) tl) := fun W hWc hWf ty dc sc =>
    run_copy_k W _ _ ty 92 11 w.heap.size ((i + 1) * 11) (n + 1 - (i + 1)) dc ⟨g, i * 11, none⟩ (n - i) sc (n - i) tl Tryz.underlying80 hsz (by simp only [Nat.min_def]; split <;> omega) hdl
      (fun j v hj => by
        rw [Addr.add_lit, hWc, World.cell?_setCells_out _ _ _ _ _ (fun h _ => absurd h hbN)]
        exact hOb _ v (hcs (i * 11 + j) v (by rw [← htl0, List.getElem?_drop] at hj; exact hj)))
      (fun j hj => by rw [hWc]; rw [hdl] at hj; exact isSome_setCells _ _ _ _ (fun t ht => by rw [hvl] at ht; exact hN _ (by omega)) _ (hN _ (by omega)))
      (fun j hj => by rw [hWf, World.frozen?_setCells]; exact hNf _) hd1
  have hG63 : G ≤ 9223372036854775807 := by unfold maxLen at hGM; omega
  have HFIN : Hid (InsC w B (some ⟨g, 0, none⟩) n (hd ++ vs ++ tl) (.returned (.slice (some ⟨w.heap.size, 0, none⟩) (n + 1) G)) (((W1.setCells w.heap.size (i * 11) vs).drew).setCells w.heap.size ((i + 1) * 11) tl)) := Lib.hid (by
    have a1 : W1.heap[w.heap.size]? = some (.cells ROW 92 (0, 0)) := hblk
    have a2 := setCells_at vs (i * 11) a1
    have hb2 : Below w.heap.size w (W1.setCells w.heap.size (i * 11) vs) := setCells_below (Nat.le_refl _) _ _ hbW
    generalize W1.setCells w.heap.size (i * 11) vs = W2 at *
    have a3 : W2.drew.heap[w.heap.size]? = some (.cells (putAt ROW (i * 11) vs) 92 (0, 0)) := a2
    have hb3 := hb2.drew
    generalize W2.drew = W3 at *
    have a4 := setCells_at tl ((i + 1) * 11) a3
    have hb4 : Below w.heap.size w (W3.setCells w.heap.size ((i + 1) * 11) tl) := setCells_below (Nat.le_refl _) _ _ hb3
    generalize W3.setCells w.heap.size ((i + 1) * 11) tl = W4 at *
    refine ⟨_, rfl, ⟨by simp only [List.length_append, htl, hvl, hdl]; omega, .inr ⟨w.heap.size, G, _, rfl, hB, a4, hGn, hGM, by rw [putAt_size, putAt_size, hRs], ins_row (by omega) htl hvl hdl hi hRt⟩⟩, ?_⟩
    exact ⟨hb4.os, hb4.tape, hb4.output, hb4.size, fun k hk _ => hb4.block k hk⟩)
  have hGi : ¬ (G = i) := by omega
  have hGim : ¬ (G = i + 1) := by omega
  have hci : ¬ (c = i) := by omega
  have hw1 : IntKind.i64.wrap ((i : Int) + 1) = (i : Int) + 1 := IntWalk.i64_in _ (by omega)
  have hb1 : (0 : Int) ≤ (i : Int) + 1 := by omega
  have hin : i ≤ n := by omega
  have htn : ((i : Int) + 1).toNat = i + 1 := by omega
  have hb3 : (i : Int) ≤ (n : Int) := by omega
  have HA := Lib.hid hcpA; have HB2 := Lib.hid hcpB; have HZ := Lib.hid hrz
  rw [hhd, htl0]
  clear hkk hik hold hROW hG hcs hvs hN hNf hOb hOv hRt hi0 hz0 hz1 hz2 hsz hrz hcpA hcpB hbW hdl htl hl hRs hW1 hblk hfar hhd htl0 hd1 hGM hx1 hv1 hvl
  have hc1 := HA.out W1 (fun _ => rfl) (fun _ => rfl) 3 (G - i)
  have hc2 := HB2.out (W1.setCells w.heap.size (i * 11) vs).drew (fun _ => rfl) (fun _ => rfl) 3 (G - (i + 1)) (c - i)
  have HC2 := Lib.hid hc2
  clear HA HB2 hc2
  go_enter Tryz.func42, Tryz.ntmps42
  go_wp2_with (at_builtin; refine Lib.wpList_append_run _ rfl _ _ _ _ rfl _ _ rfl rfl _ _ (HZ.out _) ?_)
  go_region_law (refine step_copy_runI rfl _ _ 80 80 rfl (.slice (some ⟨w.heap.size, (i + 1) * 11, none⟩) (n + 1 - (i + 1)) (G - (i + 1))) (.slice (some ⟨g, i * 11, none⟩) (n - i) (c - i)) (by simp [Act.eval, Act.put]) (by simp [Act.eval, Act.put]) HC2.out ?_)
  all_goals go_wp2_with fail
  all_goals go_ret
  all_goals exact HFIN.out
set_option maxHeartbeats 3200000 in
set_option maxRecDepth 100000 in
theorem ins_shift (g B n c i vb : Nat) (xs vs : List Value) (w : World) (hl : xs.length = n * 11) (hx1 : ∀ u ∈ xs, u.oneCell' = true) (hvl : vs.length = 11) (hv1 : ∀ u ∈ vs, u.oneCell' = true)
    (ho : w.ownsRow B 92 11 (.slice (some ⟨g, 0, none⟩) n c) n xs) (hv : w.heap[vb]? = some (.cells vs.toArray 92 (0, 0))) (hvg : vb ≠ g) (hB : B ≤ w.heap.size) (hn : n ≤ 1000)
    (hi : i < n) (hroom : n + 1 ≤ c) :
    Calls Tryz.prog 42 #[.slice (some ⟨g, 0, none⟩) n c, .int .i64 i, .slice (some ⟨vb, 0, none⟩) 1 1] w (InsC w B (some ⟨g, 0, none⟩) n (xs.take (i * 11) ++ vs ++ xs.drop (i * 11))) := by
  obtain ⟨i0, hi0, hz0, hz1, hz2⟩ := info_parts info_per
  have hsz : (Tryz.prog.info? 92).map (·.size) = some 11 := by rw [hi0]; simp [hz1]
  obtain ⟨hd, hhd⟩ : ∃ hd, xs.take (i * 11) = hd := ⟨_, rfl⟩
  obtain ⟨tl, htl0⟩ : ∃ tl, xs.drop (i * 11) = tl := ⟨_, rfl⟩
  have hdl : tl.length = (n - i) * 11 := by rw [← htl0, List.length_drop, hl]; omega
  have htl : hd.length = i * 11 := by rw [← hhd, List.length_take, hl]; omega
  have hd1 : ∀ u ∈ tl, u.oneCell' = true := fun u hu => hx1 u (by rw [← htl0] at hu; exact List.mem_of_mem_drop hu)
  obtain ⟨cur, hgB, hg, hcM, hcs, hct⟩ : ∃ cur, B ≤ g ∧ w.heap[g]? = some (.cells cur 92 (0, 0)) ∧ c ≤ maxLen ∧ cur.size = c * 11 ∧ cur.toList.take (n * 11) = xs := by
    rcases ho.2 with ⟨h1, _⟩ | ⟨g', cap, cur, h1, h2, h3, h4, h5, h6, h7⟩
    · cases h1
    · injection h1 with h1 _ h8; injection h1 with h1; injection h1 with h1 _ _; subst h1; subst h8
      exact ⟨cur, h2, h3, h5, h6, h7⟩
  have hc63 : c ≤ 9223372036854775807 := by unfold maxLen at hcM; omega
  have hcell : ∀ j v, xs[j]? = some v → w.cell? ⟨g, j, none⟩ = some v := fun j v h => (own_cell ho h).1
  have hN : ∀ j, j < (n + 1) * 11 → (w.cell? ⟨g, j, none⟩).isSome = true := fun j hj => by rw [blk_cell hg, Array.getElem?_eq_getElem (by omega)]; rfl
  have hNf : ∀ j, w.frozen? ⟨g, j, none⟩ = false := fun j => blk_free hg j
  have hvs : ∀ j v, vs[j]? = some v → w.cell? ⟨vb, j, none⟩ = some v := fun j v h => (blk_cell hv j).trans (by simpa using h)
  have hov : ∀ lb cb, (callFunc 96 #[.slice (some ⟨vb, 0, none⟩) 1 1, .slice (some ⟨g, (i + 1) * 11, none⟩) lb cb]).run Tryz.prog w = .ok (.value (.bool false)) w := fun lb cb => by
    rw [run_callFunc_extern Tryz.func96 (by kernel_rfl) (by kernel_rfl) (by kernel_rfl) (e := Extern.SlicesOverlaps.overlaps #[80, 80] #[4]) (by kernel_rfl),
      Lib.run_overlaps_apart w 80 4 92 Tryz.underlying80 11 Tryz.sizeOf92 ⟨vb, 0, none⟩ ⟨g, (i + 1) * 11, none⟩ 1 1 lb cb hvg 92 92 11 cur.size (by simp [World.shape?, hv, hvl]) (by simp [World.shape?, hg]) (by omega) (blk_free hv 0) (blk_free hv 11)]
    rfl
  have hcp1 := run_copy_k (P := Tryz.prog) w.drew 80 80 3 92 11 g ((i + 1) * 11) (n + 1 - (i + 1)) (c - (i + 1)) ⟨g, i * 11, none⟩ (n + 1 - i) (c - i) (n - i) tl Tryz.underlying80 hsz (by simp only [Nat.min_def]; split <;> omega) hdl
      (fun j v hj => by rw [Addr.add_lit]; exact hcell (i * 11 + j) v (by rw [← htl0, List.getElem?_drop] at hj; exact hj))
      (fun j hj => by rw [hdl] at hj; exact hN _ (by omega)) (fun j hj => hNf _) hd1
  have hg1 : w.drew.heap[g]? = some (.cells cur 92 (0, 0)) := hg
  have hg2 := setCells_at tl ((i + 1) * 11) hg1
  have hgr1 : w.grownBy (w.drew.setCells g ((i + 1) * 11) tl) (some g) := by
    have hb : Below 0 w (w.drew.setCells g ((i + 1) * 11) tl) := setCells_below (Nat.zero_le _) _ _ (Below.refl 0 w).drew
    exact ⟨hb.os, hb.tape, hb.output, hb.size, fun k hk hn => (setCells_far g (fun e => hn (by rw [e])) tl _ w.drew)⟩
  obtain ⟨W1, hW1⟩ : ∃ W1, W1 = w.drew.setCells g ((i + 1) * 11) tl := ⟨_, rfl⟩
  rw [← hW1] at hcp1 hg2 hgr1
  have hv2 : W1.heap[vb]? = some (.cells vs.toArray 92 (0, 0)) := (hgr1.block vb (blk_lt hv) (fun e => hvg (Option.some.inj e))).trans hv
  have hcp2 := run_copy_k (P := Tryz.prog) W1 80 80 3 92 11 g (i * 11) (n + 1 - i) (c - i) ⟨vb, 0, none⟩ 1 1 1 vs Tryz.underlying80 hsz (by simp only [Nat.min_def]; split <;> omega) hvl
      (fun j v hj => by rw [Addr.add_lit, Nat.zero_add]; exact (blk_cell hv2 j).trans (by simpa using hj))
      (fun j hj => by rw [hvl] at hj; rw [blk_cell hg2, Array.getElem?_eq_getElem (by rw [putAt_size]; omega)]; rfl) (fun j hj => blk_free hg2 _) hv1
  have HFIN : Hid (InsC w B (some ⟨g, 0, none⟩) n (hd ++ vs ++ tl) (.returned (.slice (some ⟨g, 0, none⟩) (n + 1) c)) (W1.setCells g (i * 11) vs)) := Lib.hid (by
    have a4 := setCells_at vs (i * 11) hg2
    have hb4 : Below 0 W1 (W1.setCells g (i * 11) vs) := setCells_below (Nat.zero_le _) _ _ (Below.refl 0 W1)
    have hf4 : ∀ k, k ≠ g → (W1.setCells g (i * 11) vs).heap[k]? = W1.heap[k]? := fun k hk => setCells_far g hk vs _ W1
    generalize W1.setCells g (i * 11) vs = W4 at *
    refine ⟨_, rfl, ⟨by simp only [List.length_append, htl, hvl, hdl]; omega, .inr ⟨g, c, _, rfl, hgB, a4, hroom, hcM, by rw [putAt_size, putAt_size]; exact hcs, ?_⟩⟩, ⟨hb4.os.trans hgr1.os, hb4.tape.trans hgr1.tape, hb4.output.trans hgr1.output, Nat.le_trans hgr1.size hb4.size, fun k hk hn => (hf4 k (fun e => hn (by rw [e]; rfl))).trans (hgr1.block k hk hn)⟩⟩
    have e0 : cur.toList.take (i * 11) = hd := by rw [← hhd, ← hct, List.take_take, Nat.min_eq_left (by omega)]
    have e1 := putAt_list tl ((i + 1) * 11) cur (by rw [hdl]; omega)
    have e2 := putAt_list vs (i * 11) (putAt cur ((i + 1) * 11) tl) (by rw [putAt_size, hvl]; omega)
    rw [e2, e1]
    have e3 : (cur.toList.take ((i + 1) * 11) ++ tl ++ cur.toList.drop ((i + 1) * 11 + tl.length)).take (i * 11) = hd := by
      rw [List.append_assoc, List.take_append_of_le_length (by simp; omega), List.take_take, Nat.min_eq_left (by omega), e0]
    have e4 : (cur.toList.take ((i + 1) * 11) ++ tl ++ cur.toList.drop ((i + 1) * 11 + tl.length)).drop (i * 11 + vs.length) = tl ++ cur.toList.drop ((i + 1) * 11 + tl.length) := by
      have : (cur.toList.take ((i + 1) * 11)).length = i * 11 + vs.length := by rw [List.length_take, hvl]; simp; omega
      rw [← this, List.append_assoc, List.drop_left]
    rw [e3, e4, ← List.append_assoc, List.take_append_of_le_length (by simp only [List.length_append, htl, hvl, hdl]; omega), List.take_of_length_le (by simp only [List.length_append, htl, hvl, hdl]; omega)])
  have hz1' : ¬ ((i : Int) = (n : Int)) := by omega
  have hz3 : ¬ ((c : Int) < (n : Int) + 1) := by omega
  have hci1 : ¬ (c = i + 1) := by omega
  have hci : ¬ (c = i) := by omega
  have hw1 : IntKind.i64.wrap ((i : Int) + 1) = (i : Int) + 1 := IntWalk.i64_in _ (by omega)
  have hb1 : (0 : Int) ≤ (i : Int) + 1 := by omega
  have hin : i ≤ n := by omega
  have htn : ((i : Int) + 1).toNat = i + 1 := by omega
  have hb3 : (i : Int) ≤ (n : Int) := by omega
  have hb4 : (i : Int) ≤ (n : Int) + 1 := by omega
  have HC1 := Lib.hid hcp1
  rw [hhd, htl0]
  clear hcell hvs hv hN hNf hi0 hz0 hz1 hz2 hsz hcp1 hdl htl hl hg1 hg2 hgr1 hW1 hhd htl0 hd1 hx1 hv1 hvl hv2 hg hcs hct ho hcM
  go_enter Tryz.func42, Tryz.ntmps42
  go_wp2_with (simp only [hov])
  go_region_law (refine step_copy_runI rfl _ _ 80 80 rfl (.slice (some ⟨g, (i + 1) * 11, none⟩) (n + 1 - (i + 1)) (c - (i + 1))) (.slice (some ⟨g, i * 11, none⟩) (n + 1 - i) (c - i)) (by simp [Act.eval, Act.put]) (by simp [Act.eval, Act.put]) HC1.out ?_)
  all_goals go_wp2_with fail
  all_goals go_ret
  all_goals exact HFIN.out
theorem insert_any (A : Option Addr) (B n c i vb : Nat) (ps : List Per) (p : Per) (w : World) (hl : ps.length = n) (ho : w.ownsRow B 92 11 (.slice A n c) n (perCs ps)) (hv : w.heap[vb]? = some (.cells (perC p).toArray 92 (0, 0))) (hvg : ∀ a, A = some a → vb ≠ a.block) (hB : B ≤ w.heap.size) (hn : n ≤ 1000) (hi : i ≤ n) :
    Calls Tryz.prog 42 #[.slice A n c, .int .i64 i, .slice (some ⟨vb, 0, none⟩) 1 1] w (InsOf w B A n (insP ps i p)) := by
  by_cases hin : i = n
  · subst hin
    exact ins_end A B i c vb ps p w hl ho hv hB hn
  · obtain ⟨g, cap, e, hgB, hgl⟩ := ho.form (by omega)
    injection e with e _ e2
    subst e e2
    have hxl : (perCs ps).length = n * 11 := by rw [perCs_len, hl]
    have hq : perCs (insP ps i p) = (perCs ps).take (i * 11) ++ perC p ++ (perCs ps).drop (i * 11) := by
      rw [perCs_take ps i (by omega), perCs_drop ps i (by omega), insP, perCs_app, perCs_cons, List.append_assoc]
    have hnc : n ≤ c := by
      rcases ho.2 with ⟨h1, _⟩ | ⟨g', cap, cur, h1, h2, h3, h4, h5, h6, h7⟩
      · cases h1
      · injection h1 with _ _ h8; omega
    unfold InsOf
    rw [hq]
    by_cases hr : c < n + 1
    · exact ins_grow g B n c i vb (perCs ps) (perC p) w hxl (perCs_one ps) (perC_len p) (perC_one p) hgl (fun j v h => (own_cell ho h).1) (fun j v h => (blk_cell hv j).trans (by simpa using h)) (blk_lt hv) hB hn (by omega) hnc hr
    · exact ins_shift g B n c i vb (perCs ps) (perC p) w hxl (perCs_one ps) (perC_len p) (perC_one p) ho hv (hvg _ rfl) hB hn (by omega) (by omega)
end Go.Proofs.YtbjjgnaojoaoiaaGreat
