/- A heap of runs in memory: the methods Push and Pop. -/
import Derived.Test.YtfcemlcocdhmfaaXF
import Derived.Deep.RegionLaw
namespace Go.Proofs.Ytfcemlcocdhmfaa
open Go.RowKit Go
set_option linter.unusedVariables false
set_option linter.unusedSimpArgs false

/-- wp_app at a step of a region that draws. -/
theorem step_app {P : Program} {w : World} {ops : Array Oper} {o : Oper} {a : Act} {K : Act → World → Prop} {Q : Exit → Act → World → Prop} {E : Prop} (hgd : o.guard = none) (s x : Operand) (t : TypeId) (ho : o.op = .call { callee := .builtin .append, args := #[s, x], argTypes := #[t, t] })
    (base : Nat) (e : TypeId) (i : TypeInfo) (z : Value) (size bytes : Nat) (ht : P.underlying t = some (.slice e)) (hi : P.info? e = some i) (hz : i.zero = some z)
    (hsize : i.size = size) (hby : i.bytes = bytes) (hzs : z.cells.size = size) (hsz : 0 < size) (v : Value) (n : Nat) (xs : List Value) (hs : a.eval s = v) (hown : w.ownsRow base e size v n xs)
    (B : Nat) (A : Option Addr) (m c : Nat) (news : List Value) (hx : a.eval x = .slice A m c) (hr : Rd w B size A m news) (h1 : ∀ u ∈ news, u.oneCell' = true)
    (h63 : n + m ≤ maxLen) (hbytes : (n + m) * bytes ≤ 140737488355328) (hbase : base ≤ w.heap.size)
    (h : ∀ v' w', w'.ownsRow base e size v' (n + m) (xs ++ news) → w.grownBy w' v.ownBlock → (v'.ownBlock = v.ownBlock ∨ v'.ownBlock = some w.heap.size) → K (a.put o.dst v') w') :
    if Region.wanted o (yielded ops a.tmps) = true then Oper.wp P o a w K Q else E := by
  have hw : Region.wanted o (yielded ops a.tmps) = true := by simp [Region.wanted, hgd]
  rw [if_pos hw]
  exact wp_app s x t ho base e i z size bytes ht hi hz hsize hby hzs hsz v n xs hs hown B A m c news hx hr h1 h63 hbytes hbase h

/-- Every block that was there, but for two, is as it was. -/
structure Gr2 (w w' : World) (x y : Nat) : Prop where
  os : w'.os = w.os
  tape : w'.tape = w.tape
  output : w'.output = w.output
  size : w.heap.size ≤ w'.heap.size
  block : ∀ k, k < w.heap.size → k ≠ x → k ≠ y → w'.heap[k]? = w.heap[k]?
theorem Gr2.refl (w : World) (x y : Nat) : Gr2 w w x y := ⟨rfl, rfl, rfl, Nat.le_refl _, fun _ _ _ _ => rfl⟩
theorem Gr2.trans {a b c : World} {x y : Nat} (h : Gr2 a b x y) (k : Gr2 b c x y) : Gr2 a c x y :=
  ⟨k.os.trans h.os, k.tape.trans h.tape, k.output.trans h.output, Nat.le_trans h.size k.size, fun i hi h1 h2 => (k.block i (Nat.lt_of_lt_of_le hi h.size) h1 h2).trans (h.block i hi h1 h2)⟩
theorem Gr2.of_grown {w w' : World} {x y : Nat} (h : w.grownBy w' (some y)) : Gr2 w w' x y := ⟨h.os, h.tape, h.output, h.size, fun k hk _ h2 => h.block k hk (by intro e; injection e with e; exact h2 e)⟩
theorem Gr2.of_below {w w' : World} {x y : Nat} (h : Below w.heap.size w w') : Gr2 w w' x y := ⟨h.os, h.tape, h.output, h.size, fun k hk _ _ => h.block k hk⟩
theorem Gr2.setCell (w : World) {x y : Nat} (p : Addr) (hp : p.block = x ∨ p.block = y) (u : Value) : Gr2 w (w.setCell p u) x y :=
  ⟨rfl, rfl, rfl, by simp [World.setCell], fun k _ h1 h2 => Below.heap_setCell _ _ _ _ (by rcases hp with h | h <;> omega)⟩
theorem Gr2.drew {w w' : World} {x y : Nat} (h : Gr2 w w' x y) : Gr2 w w'.drew x y := ⟨h.os, h.tape, h.output, h.size, h.block⟩
theorem Gr2.below {w w' : World} {x y B : Nat} (h : Gr2 w w' x y) (hx : B ≤ x) (hy : B ≤ y) (hB : B ≤ w.heap.size) : Below B w w' := ⟨h.os, h.tape, h.output, h.size, fun k hk => h.block k (by omega) (by omega) (by omega)⟩
theorem Gr2.keep {w w' : World} {x y k : Nat} {o : Obj} (h : Gr2 w w' x y) (hk : w.heap[k]? = some o) (h1 : k ≠ x) (h2 : k ≠ y) : w'.heap[k]? = some o := (h.block k (blk_lt hk) h1 h2).trans hk
theorem run_info : (Try.prog.info? 47).map (fun i => (i.zero, i.size, i.bytes)) = some (some (.agg #[.slice none 0 0, .int .i64 0]), 2, 32) := by kernel_rfl
theorem rd_run {w' : World} {b B : Nat} {lv : Value} {p : Int} (h : w'.heap[b]? = some (.cells #[lv, .int .i64 p] 47 (0, 0))) (hB : b < B) : Rd w' B 2 (some ⟨b, 0, none⟩) 1 [lv, .int .i64 p] :=
  ⟨rfl, fun _ => ⟨b, 0, rfl, hB, fun j hj => by rw [blk_cell h, Nat.zero_add]; simp⟩⟩
theorem run_one {A : Option Addr} {n c : Nat} {p : Int} : ∀ u ∈ [Value.slice A n c, Value.int .i64 p], u.oneCell' = true := by
  intro u hu; simp at hu; rcases hu with rfl | rfl <;> rfl
theorem own_far {w : World} {B n s : Nat} {e : TypeId} {v : Value} {xs : List Value} (h : w.ownsRow B e s v n xs) {p : Addr} (hp : v.ownBlock ≠ some p.block) (u : Value) : (w.setCell p u).ownsRow B e s v n xs := by
  refine ⟨h.1, ?_⟩
  rcases h.2 with h2 | ⟨g, cap, cur, rfl, hb, hg, r⟩
  · exact .inl h2
  · exact .inr ⟨g, cap, cur, rfl, hb, (Below.heap_setCell w p u g (fun e => hp (by rw [← e]; rfl))).trans hg, r⟩
theorem own_rows {w : World} {B n s : Nat} {v : Value} {xs : List Value} {e : TypeId} (h : w.ownsRow B e s v n xs) : ∀ b, v.ownBlock = some b → B ≤ b := by
  rcases h.2 with ⟨rfl, rfl⟩ | ⟨g, cap, cur, rfl, hb, _⟩
  · intro b e; cases e
  · intro b e; injection e with e; subst e; exact hb
theorem own_drew {w : World} {B n s : Nat} {v : Value} {xs : List Value} {e : TypeId} (h : w.ownsRow B e s v n xs) : w.drew.ownsRow B e s v n xs := h
theorem rd_drew {w : World} {B s n : Nat} {A : Option Addr} {xs : List Value} (h : Rd w B s A n xs) : Rd w.drew B s A n xs := h
/-- The header's cell, as it is held. -/
structure Hdr (w : World) (gh : Nat) (v : Value) : Prop where
  cell : w.heap[gh]? = some (.cells #[v] 44 (0, 0))
theorem Hdr.at_ {w : World} {gh : Nat} {v : Value} (h : Hdr w gh v) : w.cell? ⟨gh, 0, none⟩ = some v ∧ w.frozen? ⟨gh, 0, none⟩ = false := ⟨(blk_cell h.cell 0).trans rfl, blk_free h.cell 0⟩
theorem Hdr.lt {w : World} {gh : Nat} {v : Value} (h : Hdr w gh v) : gh < w.heap.size := blk_lt h.cell
theorem Hdr.set {w : World} {gh : Nat} {v : Value} (h : Hdr w gh v) (u : Value) : Hdr (w.setCell ⟨gh, 0, none⟩ u) gh u := ⟨(blk_set h.cell 0 u).trans rfl⟩
theorem Hdr.grown {w w' : World} {gh : Nat} {v : Value} {row : Option Nat} (h : Hdr w gh v) (hg : w.grownBy w' row) (hn : row ≠ some gh) : Hdr w' gh v := ⟨(hg.block gh h.lt (fun e => hn e.symm)).trans h.cell⟩
theorem assert_run (v : Value) (wx : World) : (Instr.typeAssert (.iface 47 v) 20 47 false).run Try.prog wx = .ok v wx := by kernel_rfl
/-- What Push leaves. -/
def Pushed (w : World) (B gh : Nat) (xs : List Value) (n : Nat) (w' : World) : Prop := ∃ v, Hdr w' gh v ∧ w'.ownsRow B 47 2 v n xs ∧ v.ownBlock ≠ some gh ∧ Below B w w'
set_option maxHeartbeats 1600000 in
theorem push_m (B gh : Nat) (v : Value) (xs : List Value) (n : Nat) (Ar : Option Addr) (nr cr : Nat) (pl : Int) (w : World) (hd : Hdr w gh v) (ho : w.ownsRow B 47 2 v n xs) (hv : v.ownBlock ≠ some gh) (hB : B ≤ gh) (hn : n ≤ 1000000) :
    Calls Try.prog 67 #[.pointer (some ⟨gh, 0, none⟩), .iface 47 (.agg #[.slice Ar nr cr, .int .i64 pl])] w fun e w' => (∃ x, e = .returned x) ∧ Pushed w B gh (xs ++ [.slice Ar nr cr, .int .i64 pl]) (n + 1) w' := by
  obtain ⟨A, c, rfl, _⟩ := own_form ho
  have hBw : B ≤ w.heap.size := by have := hd.lt; omega
  have hlt := hd.lt
  obtain ⟨hc, hf⟩ := hd.at_
  have HD := Lib.hid hd; have HO := Lib.hid ho; have HV := Lib.hid hv
  obtain ⟨i0, hi, hz0, hz1, hz2⟩ := info_parts run_info
  have hi' := Lib.hid hi; clear hi
  have HDA : Hid (Hdr (w.alloc (.cells #[.slice Ar nr cr, .int .i64 pl] 47)).drew gh (.slice A n c)) := Lib.hid (hd.grown (grown_drew (World.grownBy_alloc w (.cells #[.slice Ar nr cr, .int .i64 pl] 47) none)) (by simp))
  have HOA : Hid ((w.alloc (.cells #[.slice Ar nr cr, .int .i64 pl] 47)).drew.ownsRow B 47 2 (.slice A n c) n xs) := Lib.hid (own_drew (ho.alloc (.cells #[.slice Ar nr cr, .int .i64 pl] 47)))
  have HRA : Hid (Rd (w.alloc (.cells #[.slice Ar nr cr, .int .i64 pl] 47)).drew (w.heap.size + 1) 2 (some ⟨w.heap.size, 0, none⟩) 1 [.slice Ar nr cr, .int .i64 pl]) := Lib.hid (rd_drew (rd_run (blk_new w _ rfl) (Nat.lt_succ_self _)))
  have HBA : Hid (Below B w (w.alloc (.cells #[.slice Ar nr cr, .int .i64 pl] 47)).drew) := Lib.hid (((Below.refl B w).alloc hBw _).drew)
  have HSA : Hid (B ≤ (w.alloc (.cells #[.slice Ar nr cr, .int .i64 pl] 47)).drew.heap.size) := Lib.hid (by simp; omega)
  have hta := assert_run (.agg #[.slice Ar nr cr, .int .i64 pl]) w.drew
  clear hd ho hv
  go_enter Try.func67, Try.ntmps67
  go_wp2_with fail
  go_region_law (first
      | (refine step_app rfl (.tmp 7) (.tmp 10) 44 rfl B 47 i0 _ 2 32 Try.underlying44 hi'.out hz0 hz1 hz2 rfl (by omega) (.slice A n c) n xs rfl
          HOA.out _ _ 1 1 [.slice Ar nr cr, .int .i64 pl] rfl HRA.out run_one (by unfold maxLen; omega) (by omega) HSA.out ?_
         intro v' w' hO hgr hat
         have HD2 := Lib.hid ((HDA.out.grown hgr HV.out))
         obtain ⟨hc2, hf2⟩ := HD2.out.at_
         have HW2 := Lib.hid (HBA.out.grown hgr HSA.out (own_rows HO.out))
         have HV2 : Hid (v'.ownBlock ≠ some gh) := Lib.hid (by rcases hat with e | e <;> rw [e]; exact HV.out; (intro e; injection e with e; simp at e; omega))
         have HO2 := Lib.hid hO
         have hlt2 := HD2.out.lt
         obtain ⟨A', c', rfl, _⟩ := own_form hO
         clear hO hgr hat))
  all_goals go_end0
  all_goals exact ⟨⟨_, rfl⟩, _, HD2.out.set _, own_far HO2.out (by exact HV2.out) _, HV2.out, HW2.out.setCell hB _⟩
/-- A heap's block as a row that is owned. -/
theorem HAt.own {w : World} {B g c : Nat} {hs : List Rn} (h : HAt w g c hs) (hB : B ≤ g) : w.ownsRow B 47 2 (.slice (some ⟨g, 0, none⟩) hs.length c) hs.length (rnCs hs) := by
  obtain ⟨⟨cur, h1, h2, h3⟩, h4, h5⟩ := h
  refine ⟨rnCs_len hs, .inr ⟨g, c, cur, rfl, hB, h1, h4, h5, h2, ?_⟩⟩
  apply List.ext_getElem?
  intro j
  rw [List.getElem?_take]
  by_cases hj : j < hs.length * 2
  · rw [if_pos hj]
    have hk : j / 2 < hs.length := by omega
    have e := h3 (j / 2) hk
    have e2 := rnCs_at hs (j / 2) hk
    rcases Nat.mod_two_eq_zero_or_one j with h0 | h0
    · have hj2 : j = j / 2 * 2 := by omega
      rw [hj2, e2.1]; simpa using e.1
    · have hj2 : j = j / 2 * 2 + 1 := by omega
      rw [hj2, e2.2]; simpa using e.2
  · rw [if_neg hj, List.getElem?_eq_none (by rw [rnCs_len]; omega)]
theorem hat_of_own {w : World} {B g n c : Nat} {hs : List Rn} (h : w.ownsRow B 47 2 (.slice (some ⟨g, 0, none⟩) n c) n (rnCs hs)) : n = hs.length ∧ B ≤ g ∧ HAt w g c hs := by
  obtain ⟨h1, h2⟩ := h
  rcases h2 with ⟨h2, _⟩ | ⟨g', cap, cur, h2, hb, hg, hnc, hcm, hcs, ht⟩
  · cases h2
  · injection h2 with e1 e2 e3
    injection e1 with e1
    injection e1 with e1
    subst e1 e3
    have hn : n = hs.length := by rw [rnCs_len] at h1; omega
    refine ⟨hn, hb, ⟨cur, hg, hcs, fun k hk => ?_⟩, by omega, hcm⟩
    have e2 := rnCs_at hs k hk
    rw [← ht] at e2
    rw [List.getElem?_take, if_pos (by omega), List.getElem?_take, if_pos (by omega)] at e2
    simpa using e2
end Go.Proofs.Ytfcemlcocdhmfaa
