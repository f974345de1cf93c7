/- Laws. -/
import Derived.WalkKit
import Derived.Deep.QuietTactic
import Derived.BigQuiet
import Derived.Lib.Hide
import Derived.WalkSmall
import Derived.Handy
import Derived.Maps.AppendAt
import Derived.Deep.AppendLies
import Derived.Test.YtbjjgnaojoaoiaaGreatProg
namespace Go.Proofs.YtbjjgnaojoaoiaaGreat
open Go.RowKit
set_option linter.unusedVariables false
set_option linter.unusedSimpArgs false
set_option maxHeartbeats 1600000
set_option maxRecDepth 100000
section
open Go.RowKit Go
theorem hyd {p : Prop} (h : p) : Hid p := Lib.hid h
theorem bltm {B A : Nat} {w w1 w2 : World} (h : Below B w w1) (k : Below A w1 w2) (hs : B ≤ A) : Below B w w2 := Below.trans h (Below.mono k hs)
theorem bly {B : Nat} {w w' : World} (h : Below B w w' := by repeat' (first | (with_reducible exact Below.refl _ _) | (with_reducible refine Below.alloc ?_ ?_ _) | (with_reducible refine below_drewN ?_ _) | (with_reducible refine Below.drew ?_) | (with_reducible refine Below.setCell ?_ ?_ _) | (with_reducible refine Below.trans ?_ (Below.mono HW0.out ?_)) | (with_reducible refine Below.trans ?_ (Below.mono HW1.out ?_)) | (with_reducible refine Below.trans ?_ (Below.mono HW2.out ?_)) | (with_reducible refine Below.trans ?_ (Below.mono HW3.out ?_)) | (with_reducible refine Below.trans ?_ (Below.mono HW4.out ?_)) | (with_reducible refine Below.trans ?_ (Below.mono HW5.out ?_)) | (with_reducible refine Below.trans ?_ (Below.mono HW6.out ?_)) | (with_reducible refine Below.trans ?_ (Below.mono HW7.out ?_)) | (with_reducible exact Nat.le_refl _) | omega | (simp only [World.size_alloc, World.size_setCell, World.size_drew, size_drewN]; omega) | (simp; done) | (simp; omega))) : Below B w w' := h
theorem szA (w : World) (o : Obj) : (w.alloc o).heap.size = w.heap.size + 1 := World.size_alloc w o
theorem szS (w : World) (p : Addr) (v : Value) : (w.setCell p v).heap.size = w.heap.size := World.size_setCell w p v
theorem szD (w : World) : w.drew.heap.size = w.heap.size := World.size_drew w
end
def Rd (w : World) (B s : Nat) (A : Option Addr) (n : Nat) (xs : List Value) : Prop :=
 xs.length = n * s ∧ (0 < n → ∃ b off, A = some ⟨b, off, none⟩ ∧ b < B ∧ ∀ j, j < n * s → w.cell? ⟨b, off + j, none⟩ = xs[j]?)
section
variable {w w' : World} {B s n : Nat} {A : Option Addr} {xs : List Value}
theorem Rd.len (h : Rd w B s A n xs) : xs.length = n * s := h.1
theorem Rd.of_cells (h : Rd w B s A n xs) (hk : ∀ p : Addr, p.block < B → w'.cell? p = w.cell? p) : Rd w' B s A n xs :=
 ⟨h.1, fun hn => let ⟨b, off, e, hb, hc⟩ := h.2 hn; ⟨b, off, e, hb, fun j hj => (hk ⟨b, off + j, none⟩ hb).trans (hc j hj)⟩⟩
theorem Rd.below (h : Rd w B s A n xs) (hb : Below B w w') : Rd w' B s A n xs := h.of_cells fun _ hp => hb.cell hp
theorem Rd.wider {B' : Nat} (h : Rd w B s A n xs) (hB : B ≤ B') : Rd w B' s A n xs :=
 ⟨h.1, fun hn => let ⟨b, off, e, hb, hc⟩ := h.2 hn; ⟨b, off, e, Nat.lt_of_lt_of_le hb hB, hc⟩⟩
theorem Rd.fresh (w : World) (cs : Array Value) (t : TypeId) (n s : Nat) (h : cs.size = n * s) : Rd (w.alloc (.cells cs t)) (w.alloc (.cells cs t)).heap.size s (some ⟨w.heap.size, 0, none⟩) n cs.toList :=
 ⟨by simpa using h, fun _ => ⟨_, _, rfl, by simp, fun j _ => by rw [World.cell?_alloc_at _ _ _ _ rfl]; simp⟩⟩
theorem Rd.take {m : Nat} (h : Rd w B s A n xs) (hm : m ≤ n) : Rd w B s A m (xs.take (m * s)) := by
 have hle : m * s ≤ n * s := Nat.mul_le_mul_right _ hm
 refine ⟨by rw [List.length_take, h.1]; omega, fun h0 => ?_⟩
 obtain ⟨b, off, e, hb, hc⟩ := h.2 (by omega)
 refine ⟨b, off, e, hb, fun j hj => ?_⟩
 rw [hc j (by omega), List.getElem?_take, if_pos hj]
theorem Rd.of_own {base : Nat} {e : TypeId} {c : Nat} (h : w.ownsRow base e s (.slice A n c) n xs) : Rd w w.heap.size s A n xs := by
 refine ⟨h.1, fun hn => ?_⟩
 obtain ⟨g, cap, hv, _, hlt⟩ := h.form hn
 have hA : A = some ⟨g, 0, none⟩ := by injection hv
 subst hA
 refine ⟨g, 0, rfl, hlt, fun j hj => ?_⟩
 have hj' : j < xs.length := by rw [h.1]; exact hj
 have hc := h.cells (g := g) rfl j _ (List.getElem?_eq_getElem hj')
 rw [List.getElem?_eq_getElem hj', Nat.zero_add]
 have he : (⟨g, 0, none⟩ : Addr).add j = ⟨g, j, none⟩ := by unfold Addr.add; split <;> simp_all
 rw [← he]; exact hc
theorem own_form {base : Nat} {e : TypeId} {v : Value} (h : w.ownsRow base e s v n xs) : ∃ A c, v = .slice A n c ∧ n ≤ maxLen := by
 rcases h.2 with ⟨rfl, rfl⟩ | ⟨g, cap, cur, rfl, _, _, h1, h2, _⟩
 · exact ⟨none, 0, rfl, by simp⟩
 · exact ⟨_, cap, rfl, by omega⟩
theorem Rd.nil : Rd w B s A 0 [] := ⟨by simp, fun h => absurd h (by omega)⟩
end
@[go_sem] theorem size_drewN (w : World) (n : Nat) : (w.drewN n).heap.size = w.heap.size := rfl
theorem blk_lt {w : World} {g : Nat} {o : Obj} (h : w.heap[g]? = some o) : g < w.heap.size := by
 rcases Nat.lt_or_ge g w.heap.size with h1 | h1
 · exact h1
 · rw [Array.getElem?_eq_none h1] at h; cases h
theorem blk_alloc {w : World} {g : Nat} {o : Obj} (h : w.heap[g]? = some o) (o' : Obj) : (w.alloc o').heap[g]? = some o := (Below.heap_alloc w o' g (blk_lt h)).trans h
theorem blk_new (w : World) (o : Obj) {g : Nat} (h : g = w.heap.size) : (w.alloc o).heap[g]? = some o := by subst h; exact heap_alloc_new w o
theorem blk_set {w : World} {g : Nat} {cs : Array Value} {t : TypeId} {fr : Nat × Nat} (h : w.heap[g]? = some (.cells cs t fr)) (i : Nat) (u : Value) : (w.setCell ⟨g, i, none⟩ u).heap[g]? = some (.cells (cs.setIfInBounds i u) t fr) := by
 simp [World.setCell, Array.getElem?_modify, h]
theorem blk_far {w : World} {g : Nat} {o : Obj} (h : w.heap[g]? = some o) {p : Addr} (hp : g ≠ p.block) (u : Value) : (w.setCell p u).heap[g]? = some o := (Below.heap_setCell w p u g hp).trans h
theorem blk_below {w w' : World} {B g : Nat} {o : Obj} (h : w.heap[g]? = some o) (hb : Below B w w') (hg : g < B) : w'.heap[g]? = some o := (hb.block g hg).trans h
theorem blk_cell {w : World} {g : Nat} {cs : Array Value} {t : TypeId} {fr : Nat × Nat} (h : w.heap[g]? = some (.cells cs t fr)) (i : Nat) : w.cell? ⟨g, i, none⟩ = cs[i]? := by simp [World.cell?, h]
theorem blk_free {w : World} {g : Nat} {cs : Array Value} {t : TypeId} (h : w.heap[g]? = some (.cells cs t (0, 0))) (i : Nat) : w.frozen? ⟨g, i, none⟩ = false := by simp [World.frozen?, h]
theorem run_app {P : Program} (w : World) (base : Nat) (t ty e : TypeId) (i : TypeInfo) (z : Value) (size bytes : Nat) (ht : P.underlying t = some (.slice e)) (hi : P.info? e = some i) (hz : i.zero = some z)
  (hsize : i.size = size) (hby : i.bytes = bytes) (hzs : z.cells.size = size) (hsz : 0 < size) (v : Value) (n : Nat) (xs : List Value) (hown : w.ownsRow base e size v n xs)
  (B : Nat) (A : Option Addr) (m c : Nat) (news : List Value) (hr : Rd w B size A m news) (h1 : ∀ u ∈ news, u.oneCell' = true)
  (h63 : n + m ≤ maxLen) (hbytes : (n + m) * bytes ≤ 140737488355328) (hbase : base ≤ w.heap.size) :
  ∃ v' w', (Builtin.append_ #[t, t] ty #[v, .slice A m c]).run P w = .ok v' w' ∧ w'.ownsRow base e size v' (n + m) (xs ++ news) ∧ w.grownBy w' v.ownBlock ∧ (v'.ownBlock = v.ownBlock ∨ v'.ownBlock = some w.heap.size) := by
 have nilcase : m = 0 → A = none → ∃ v' w', (Builtin.append_ #[t, t] ty #[v, .slice A m c]).run P w = .ok v' w' ∧ w'.ownsRow base e size v' (n + m) (xs ++ news) ∧ w.grownBy w' v.ownBlock ∧ (v'.ownBlock = v.ownBlock ∨ v'.ownBlock = some w.heap.size) := by
  rintro rfl rfl
  have hn : news = [] := List.eq_nil_of_length_eq_zero (by simpa using hr.1)
  subst hn
  refine ⟨v, w, ?_, by simpa using hown, World.grownBy.refl w _, .inl rfl⟩
  rcases hown.2 with ⟨rfl, rfl⟩ | ⟨g, cap, cur, rfl, _, _, hnc, _⟩
  · simp [Builtin.append_, run_underlying ht, sizeOf, typeInfo, hi, Builtin.lenOf, Builtin.firstCells]
  · simp [Builtin.append_, run_underlying ht, sizeOf, typeInfo, hi, Builtin.lenOf, Builtin.firstCells, hnc, storeCells]
 rcases A with _ | ad
 · rcases Nat.eq_zero_or_pos m with h0 | h0
   · exact nilcase h0 rfl
   · obtain ⟨b, off, h, _⟩ := hr.2 h0; cases h
 · have hcells : ∀ j u, news[j]? = some u → w.cell? (ad.add j) = some u := by
     intro j u hu
     have hj : j < m * size := by rw [← hr.1]; exact (List.getElem?_eq_some_iff.1 hu).1
     have h0 : 0 < m := by rcases Nat.eq_zero_or_pos m with h | h; · rw [h] at hj; simp at hj
                           · exact h
     obtain ⟨b, off, h, _, hc⟩ := hr.2 h0
     injection h with h; subst h
     have he : (⟨b, off, none⟩ : Addr).add j = ⟨b, off + j, none⟩ := by unfold Addr.add; split <;> simp_all
     rw [he, hc j hj]; exact hu
   obtain ⟨v', w', hrun, h2, h3, _, h5⟩ := run_append_own_at (P := P) w base t ty e i z size bytes ht hi hz hsize hby hzs hsz v n xs hown ad m c news hr.1 hcells h1 h63 hbytes hbase
   exact ⟨v', w', hrun, h2, h3, h5⟩
theorem wp_app {P : Program} {w : World} {o : Oper} {a : Act} {K : Act → World → Prop} {Q : Exit → Act → World → Prop} (s x : Operand) (t : TypeId) (ho : o.op = .call { callee := .builtin .append, args := #[s, x], argTypes := #[t, t] })
  (base : Nat) (e : TypeId) (i : TypeInfo) (z : Value) (size bytes : Nat) (ht : P.underlying t = some (.slice e)) (hi : P.info? e = some i) (hz : i.zero = some z)
  (hsize : i.size = size) (hby : i.bytes = bytes) (hzs : z.cells.size = size) (hsz : 0 < size) (v : Value) (n : Nat) (xs : List Value) (hs : a.eval s = v) (hown : w.ownsRow base e size v n xs)
  (B : Nat) (A : Option Addr) (m c : Nat) (news : List Value) (hx : a.eval x = .slice A m c) (hr : Rd w B size A m news) (h1 : ∀ u ∈ news, u.oneCell' = true)
  (h63 : n + m ≤ maxLen) (hbytes : (n + m) * bytes ≤ 140737488355328) (hbase : base ≤ w.heap.size)
  (h : ∀ v' w', w'.ownsRow base e size v' (n + m) (xs ++ news) → w.grownBy w' v.ownBlock → (v'.ownBlock = v.ownBlock ∨ v'.ownBlock = some w.heap.size) → K (a.put o.dst v') w') : o.wp P a w K Q := by
 obtain ⟨v', w', hrun, h2, h3, h4⟩ := run_app (P := P) w base t o.type e i z size bytes ht hi hz hsize hby hzs hsz v n xs hown B A m c news hr h1 h63 hbytes hbase
 unfold Oper.wp execOp
 simp only [ho, resolve, invoke, builtin, Sem.run_bind, Sem.run_pure, Result.andThen_ok, List.map_toArray, List.map_cons, List.map_nil, hs, hx, hrun]
 exact h v' w' h2 h3 h4
theorem wpList_app {P : Program} {w : World} {ops : Array Oper} {rest : List Oper} {o : Oper} {a : Act} {Q : Exit → Act → World → Prop} (hgd : o.guard = none) (s x : Operand) (t : TypeId) (ho : o.op = .call { callee := .builtin .append, args := #[s, x], argTypes := #[t, t] })
  (base : Nat) (e : TypeId) (i : TypeInfo) (z : Value) (size bytes : Nat) (ht : P.underlying t = some (.slice e)) (hi : P.info? e = some i) (hz : i.zero = some z)
  (hsize : i.size = size) (hby : i.bytes = bytes) (hzs : z.cells.size = size) (hsz : 0 < size) (v : Value) (n : Nat) (xs : List Value) (hs : a.eval s = v) (hown : w.ownsRow base e size v n xs)
  (B : Nat) (A : Option Addr) (m c : Nat) (news : List Value) (hx : a.eval x = .slice A m c) (hr : Rd w B size A m news) (h1 : ∀ u ∈ news, u.oneCell' = true)
  (h63 : n + m ≤ maxLen) (hbytes : (n + m) * bytes ≤ 140737488355328) (hbase : base ≤ w.heap.size)
  (h : ∀ v' w', w'.ownsRow base e size v' (n + m) (xs ++ news) → w.grownBy w' v.ownBlock → (v'.ownBlock = v.ownBlock ∨ v'.ownBlock = some w.heap.size) → wpList P ops Q rest (a.put o.dst v') w') : wpList P ops Q (o :: rest) a w :=
 wpList_plain hgd fun _ hK => wp_app s x t ho base e i z size bytes ht hi hz hsize hby hzs hsz v n xs hs hown B A m c news hx hr h1 h63 hbytes hbase fun v' w' h2 h3 h4 => hK _ _ (h v' w' h2 h3 h4)
def amt (z : Int) : Bool := decide (-4611686018427387904 ≤ z ∧ z ≤ 4611686018427387904)
def ints (zs : List Int) : List Value := zs.map (Value.int .i64)
theorem ints_len (zs : List Int) : (ints zs).length = zs.length := by simp [ints]
theorem ints_at (zs : List Int) (k : Nat) (h : k < zs.length) : (ints zs)[k]? = some (.int .i64 zs[k]) := by simp [ints, h]
def told (z : Int) : Int × Int := if amt z then (z, 0) else (0, 2)
@[reducible] def pr (p : Int × Int) : Value := .tuple #[.int .i64 p.1, .int .i64 p.2]
section
open Go.RowKit Go
def V (a0 a1 a2 a3 : Int) : Int := a0 + 4294967296 * (a1 + 4294967296 * (a2 + 4294967296 * a3))
@[reducible] def d4 (a0 a1 a2 a3 : Int) : Value := .agg #[.int .u64 a0, .int .u64 a1, .int .u64 a2, .int .u64 a3]
theorem plus_any (a0 a1 a2 a3 b0 b1 b2 b3 : Int) (w : World) (ha0 : 0 ≤ a0 ∧ a0 ≤ 4294967295) (ha1 : 0 ≤ a1 ∧ a1 ≤ 4294967295) (ha2 : 0 ≤ a2 ∧ a2 ≤ 4294967295) (ha3 : 0 ≤ a3 ∧ a3 ≤ 4294967295)
  (hb0 : 0 ≤ b0 ∧ b0 ≤ 4294967295) (hb1 : 0 ≤ b1 ∧ b1 ≤ 4294967295) (hb2 : 0 ≤ b2 ∧ b2 ≤ 4294967295) (hb3 : 0 ≤ b3 ∧ b3 ≤ 4294967295) :
  Calls Tryz.prog 56 #[d4 a0 a1 a2 a3, d4 b0 b1 b2 b3] w fun e w' =>
   e = .returned (d4 ((a0 + b0) % 4294967296) ((a1 + b1 + (a0 + b0) / 4294967296) % 4294967296) ((a2 + b2 + (a1 + b1 + (a0 + b0) / 4294967296) / 4294967296) % 4294967296) ((a3 + b3 + (a2 + b2 + (a1 + b1 + (a0 + b0) / 4294967296) / 4294967296) / 4294967296) % 4294967296)) ∧ Below w.heap.size w w' := by
 go_enter Tryz.func56, Tryz.ntmps56
 go_wp2
 refine wp_loop_rounds 5 ?_
 rw [rounds_succ]; go_wp2; go_quiet (fail); go_wp2
 rw [rounds_succ]; go_wp2; go_quiet (fail); go_wp2
 rw [rounds_succ]; go_wp2; go_quiet (fail); go_wp2
 rw [rounds_succ]; go_wp2; go_quiet (fail); go_wp2
 rw [rounds_succ]; go_wp2
 refine bodyPost_ret (v := d4 _ _ _ _) (by simp [results, Tryz.results56, go_sem]) rfl ⟨rfl, bly⟩
theorem minus_any (a0 a1 a2 a3 b0 b1 b2 b3 : Int) (w : World) (ha0 : 0 ≤ a0 ∧ a0 ≤ 4294967295) (ha1 : 0 ≤ a1 ∧ a1 ≤ 4294967295) (ha2 : 0 ≤ a2 ∧ a2 ≤ 4294967295) (ha3 : 0 ≤ a3 ∧ a3 ≤ 4294967295)
  (hb0 : 0 ≤ b0 ∧ b0 ≤ 4294967295) (hb1 : 0 ≤ b1 ∧ b1 ≤ 4294967295) (hb2 : 0 ≤ b2 ∧ b2 ≤ 4294967295) (hb3 : 0 ≤ b3 ∧ b3 ≤ 4294967295) :
  Calls Tryz.prog 57 #[d4 a0 a1 a2 a3, d4 b0 b1 b2 b3] w fun e w' =>
   (∃ s0 s1 s2 s3, s0 = a0 + 4294967296 - b0 ∧ s1 = a1 + 4294967296 - b1 - (1 - s0 / 4294967296) ∧ s2 = a2 + 4294967296 - b2 - (1 - s1 / 4294967296) ∧ s3 = a3 + 4294967296 - b3 - (1 - s2 / 4294967296) ∧
     e = .returned (d4 (s0 % 4294967296) (s1 % 4294967296) (s2 % 4294967296) (s3 % 4294967296))) ∧ Below w.heap.size w w' := by
 go_enter Tryz.func57, Tryz.ntmps57
 go_wp2
 refine wp_loop_rounds 5 ?_
 rw [rounds_succ]; go_wp2; go_quiet (fail); go_wp2
 rw [rounds_succ]; go_wp2; go_quiet (fail); go_wp2
 rw [rounds_succ]; go_wp2; go_quiet (fail); go_wp2
 rw [rounds_succ]; go_wp2; go_quiet (fail); go_wp2
 rw [rounds_succ]; go_wp2
 refine bodyPost_ret (v := d4 _ _ _ _) (by simp [results, Tryz.results57, go_sem]) rfl ⟨⟨_, _, _, _, rfl, rfl, rfl, rfl, rfl⟩, bly⟩
theorem ret_bool {a b : Bool} (h : a = b) : Ending.returned (.bool a) = .returned (.bool b) := by rw [h]
theorem ret_dec {p q : Prop} [Decidable p] [Decidable q] (h : p ↔ q) : Ending.returned (.bool (decide p)) = .returned (.bool (decide q)) := by simp [h]
theorem less_any (a0 a1 a2 a3 b0 b1 b2 b3 : Int) (w : World) (ha0 : 0 ≤ a0 ∧ a0 ≤ 4294967295) (ha1 : 0 ≤ a1 ∧ a1 ≤ 4294967295) (ha2 : 0 ≤ a2 ∧ a2 ≤ 4294967295) (ha3 : 0 ≤ a3 ∧ a3 ≤ 4294967295)
  (hb0 : 0 ≤ b0 ∧ b0 ≤ 4294967295) (hb1 : 0 ≤ b1 ∧ b1 ≤ 4294967295) (hb2 : 0 ≤ b2 ∧ b2 ≤ 4294967295) (hb3 : 0 ≤ b3 ∧ b3 ≤ 4294967295) :
  Calls Tryz.prog 53 #[d4 a0 a1 a2 a3, d4 b0 b1 b2 b3] w fun e w' => e = .returned (.bool (decide (V a0 a1 a2 a3 < V b0 b1 b2 b3))) ∧ Below w.heap.size w w' := by
 go_enter Tryz.func53, Tryz.ntmps53
 go_wp2
 refine wp_loop_rounds 5 ?_
 rw [rounds_succ]; go_wp2; go_quiet (fail); go_wp2
 · have h3 : a3 ≠ b3 := by simpa using ‹(a3 != b3) = true›
   go_quiet (fail); go_wp2; go_ret
   exact ⟨ret_dec (by unfold V; omega), bly⟩
 have H3 := hyd (show a3 = b3 by simpa using ‹(a3 != b3) = false›)
 rw [rounds_succ]; go_wp2; go_quiet (fail); go_wp2
 · have h2 : a2 ≠ b2 := by simpa using ‹(a2 != b2) = true›
   go_quiet (fail); go_wp2; go_ret
   have h3 := H3.out
   exact ⟨ret_dec (by unfold V; omega), bly⟩
 have H2 := hyd (show a2 = b2 by simpa using ‹(a2 != b2) = false›)
 rw [rounds_succ]; go_wp2; go_quiet (fail); go_wp2
 · have h1 : a1 ≠ b1 := by simpa using ‹(a1 != b1) = true›
   go_quiet (fail); go_wp2; go_ret
   have h3 := H3.out
   have h2 := H2.out
   exact ⟨ret_dec (by unfold V; omega), bly⟩
 have H1 := hyd (show a1 = b1 by simpa using ‹(a1 != b1) = false›)
 rw [rounds_succ]; go_wp2; go_quiet (fail); go_wp2
 · have h0 : a0 ≠ b0 := by simpa using ‹(a0 != b0) = true›
   go_quiet (fail); go_wp2; go_ret
   have h3 := H3.out
   have h2 := H2.out
   have h1 := H1.out
   exact ⟨ret_dec (by unfold V; omega), bly⟩
 have H0 := hyd (show a0 = b0 by simpa using ‹(a0 != b0) = false›)
 rw [rounds_succ]; go_wp2; go_ret
 have h3 := H3.out
 have h2 := H2.out
 have h1 := H1.out
 have h0 := H0.out
 exact ⟨ret_bool (by symm; rw [decide_eq_false_iff_not]; unfold V; omega), bly⟩
end
theorem amt_yes {z : Int} (h : amt z = true) : -4611686018427387904 ≤ z ∧ z ≤ 4611686018427387904 := by simpa [amt] using h
theorem amt_no {z : Int} (h : ¬ amt z = true) : z < -4611686018427387904 ∨ 4611686018427387904 < z := by
 have : ¬ (-4611686018427387904 ≤ z ∧ z ≤ 4611686018427387904) := by simpa [amt] using h
 omega
theorem all_snoc {α : Type} (p : α → Bool) (zs : List α) (k : Nat) (h : k < zs.length) : (zs.take (k + 1)).all p = ((zs.take k).all p && p zs[k]) := by
 rw [List.take_succ_eq_append_getElem h, List.all_append, List.all_cons, List.all_nil, Bool.and_true]
theorem all_no {α : Type} (p : α → Bool) (zs : List α) (k : Nat) (h : k < zs.length) (hn : ¬ p zs[k] = true) : zs.all p = false := by
 rw [Bool.eq_false_iff]; intro h'; rw [List.all_eq_true] at h'; exact hn (h' _ (List.getElem_mem h))
theorem is_any (A : Option Addr) (zs : List Int) (c : Nat) (w : World) (hr : Rd w w.heap.size 1 A zs.length (ints zs)) (hm : zs.length ≤ maxLen) :
  Calls Tryz.prog 104 #[.slice A zs.length c] w fun e w' => e = .returned (.bool (zs.all amt)) ∧ w = w' := by
 unfold maxLen at hm
 go_enter Tryz.func104, Tryz.ntmps104
 go_wp2
 go_loop [7] (fun i => ∃ k : Nat, k ≤ zs.length ∧ i = .int .i64 k ∧ (zs.take k).all amt = true) (fun i => zs.length - (intOf i).toNat)
 case atStart => exact ⟨0, Nat.zero_le _, rfl, rfl⟩
 case round =>
  obtain ⟨k, hk, rfl, hall⟩ := hrel
  have HA := hyd hall; clear hall
  by_cases hlt : k < zs.length
  · obtain ⟨b, off, rfl, hb, hc⟩ := hr.2 (by omega)
    have hcell := (hc k (by omega)).trans (ints_at zs k hlt)
    clear hc
    by_cases ha : amt zs[k] = true
    · have hb := amt_yes ha
      have HX := hyd ha; clear ha
      go_wp2
      exact ⟨⟨k + 1, by omega, by go_num, by rw [all_snoc _ _ _ hlt, HA.out, HX.out]; rfl⟩, by simp [intOf]; omega⟩
    · have hb := amt_no ha
      have HX := hyd (all_no amt zs k hlt ha); clear ha
      go_wp2
      all_goals (go_ret; exact ⟨ret_bool HX.out.symm, rfl⟩)
  · go_wp2
    go_ret
    exact ⟨ret_bool (by rw [← HA.out, List.take_of_length_le (by omega)]), rfl⟩
theorem below_new (w : World) (o : Obj) : Below w.heap.size w (w.alloc o) := (Below.refl _ _).alloc (Nat.le_refl _) o
theorem is2 (a b : Int) (w : World) : Calls Tryz.prog 104 #[.slice (some ⟨w.heap.size, 0, none⟩) 2 2] (w.alloc (.cells #[.int .i64 a, .int .i64 b] 2)) fun e w' => e = .returned (.bool (amt a && amt b)) ∧ w.alloc (.cells #[.int .i64 a, .int .i64 b] 2) = w' :=
 (is_any (some ⟨w.heap.size, 0, none⟩) [a, b] 2 _ (Rd.fresh w #[.int .i64 a, .int .i64 b] 2 2 1 rfl) (by simp [maxLen])).mono fun _ _ ⟨h, g⟩ => ⟨by rw [h]; simp, g⟩
theorem is3 (a b c : Int) (w : World) : Calls Tryz.prog 104 #[.slice (some ⟨w.heap.size, 0, none⟩) 3 3] (w.alloc (.cells #[.int .i64 a, .int .i64 b, .int .i64 c] 2)) fun e w' => e = .returned (.bool (amt a && (amt b && amt c))) ∧ w.alloc (.cells #[.int .i64 a, .int .i64 b, .int .i64 c] 2) = w' :=
 (is_any (some ⟨w.heap.size, 0, none⟩) [a, b, c] 3 _ (Rd.fresh w #[.int .i64 a, .int .i64 b, .int .i64 c] 2 3 1 rfl) (by simp [maxLen])).mono fun _ _ ⟨h, g⟩ => ⟨by rw [h]; simp, g⟩
theorem told_yes {a : Int} (h : amt a = true) : told a = (a, 0) := by simp [told, h]
theorem told_no {a : Int} (h : ¬ amt a = true) : told a = (0, 2) := by simp [told, h]
theorem ret_pr {a b : Int} {p : Int × Int} (h : p = (a, b)) : Ending.returned (.tuple #[.int .i64 a, .int .i64 b]) = .returned (pr p) := by rw [h]
def addS (a b : Int) : Int × Int := if amt a && amt b then told (a + b) else (0, 1)
theorem add_no {a b : Int} (h : ¬ (amt a && amt b) = true) : addS a b = (0, 1) := by simp [addS, h]
theorem add_over {a b : Int} (h : (amt a && amt b) = true) (g : a + b < -4611686018427387904 ∨ 4611686018427387904 < a + b) : addS a b = (0, 2) := by
 unfold addS; rw [if_pos h]; exact told_no (by simp [amt]; omega)
theorem add_yes {a b : Int} (h : (amt a && amt b) = true) (g : -4611686018427387904 ≤ a + b ∧ a + b ≤ 4611686018427387904) : addS a b = (a + b, 0) := by
 unfold addS; rw [if_pos h]; exact told_yes (by simp [amt]; omega)
theorem add_any (a b : Int) (w : World) : Calls Tryz.prog 98 #[.int .i64 a, .int .i64 b] w fun e w' => e = .returned (pr (addS a b)) ∧ Below w.heap.size w w' := by
 by_cases ha : (amt a && amt b) = true
 · have h1 : -4611686018427387904 ≤ a ∧ a ≤ 4611686018427387904 := amt_yes (by simp at ha; exact ha.1)
   have h2 : -4611686018427387904 ≤ b ∧ b ≤ 4611686018427387904 := amt_yes (by simp at ha; exact ha.2)
   go_enter Tryz.func98, Tryz.ntmps98
   go_wp2_with fail
   refine (is2 a b w).mono ?_
   rintro e w' ⟨rfl, rfl⟩
   have HA := hyd ha
   rw [ha]
   clear ha
   go_wp2
   all_goals go_ret2
   all_goals first
    | exact ⟨ret_pr (add_over HA.out (by omega)), below_new _ _⟩
    | exact ⟨ret_pr (add_yes HA.out (by omega)), below_new _ _⟩
 · go_enter Tryz.func98, Tryz.ntmps98
   go_wp2_with fail
   refine (is2 a b w).mono ?_
   rintro e w' ⟨rfl, rfl⟩
   have HA := hyd ha
   rw [Bool.eq_false_iff.2 ha]
   clear ha
   go_wp2
   go_ret2
   exact ⟨ret_pr (add_no HA.out), below_new _ _⟩
section
def leapY (y : Nat) : Bool := decide (y % 4 = 0 ∧ (y % 100 ≠ 0 ∨ y % 400 = 0))
def yl (y : Nat) : Nat := if leapY y then 366 else 365
def ml (y m : Nat) : Nat := if m = 2 then (if leapY y then 29 else 28) else if m = 4 ∨ m = 6 ∨ m = 9 ∨ m = 11 then 30 else 31
def dby (y : Nat) : Nat := (y - 1) * 365 + (y - 1) / 4 - (y - 1) / 100 + (y - 1) / 400
def cumM (y : Nat) : Nat → Nat
 | 0 => 0
 | m + 1 => cumM y m + (if m = 0 then 0 else ml y m)
theorem ml_bd (y m : Nat) : 28 ≤ ml y m ∧ ml y m ≤ 31 := by unfold ml; split <;> (try split) <;> (try split) <;> omega
theorem leapY_iff (y : Nat) : leapY y = true ↔ (y % 4 = 0 ∧ (y % 100 ≠ 0 ∨ y % 400 = 0)) := by simp [leapY]
theorem step4 (n : Nat) : (n + 1) / 4 = n / 4 + (if (n + 1) % 4 = 0 then 1 else 0) := by split <;> omega
theorem step100 (n : Nat) : (n + 1) / 100 = n / 100 + (if (n + 1) % 100 = 0 then 1 else 0) := by split <;> omega
theorem step400 (n : Nat) : (n + 1) / 400 = n / 400 + (if (n + 1) % 400 = 0 then 1 else 0) := by split <;> omega
theorem dby_succ {y : Nat} (h : 1 ≤ y) : dby (y + 1) = dby y + yl y := by
 obtain ⟨n, rfl⟩ : ∃ n, y = n + 1 := ⟨y - 1, by omega⟩
 have e1 := step4 n; have e2 := step100 n; have e3 := step400 n
 have hle : n / 100 ≤ n / 4 := by omega
 have hle2 : (n + 1) / 100 ≤ (n + 1) / 4 := by omega
 have m1 : (n + 1) % 400 = 0 → (n + 1) % 100 = 0 := by omega
 have m2 : (n + 1) % 100 = 0 → (n + 1) % 4 = 0 := by omega
 unfold dby yl
 rw [Nat.add_sub_cancel, Nat.add_sub_cancel]
 generalize (n + 1) / 4 = A at *
 generalize (n + 1) / 100 = B at *
 generalize (n + 1) / 400 = C at *
 generalize n / 4 = a at *
 generalize n / 100 = b at *
 generalize n / 400 = c at *
 by_cases hl : leapY (n + 1) = true
 · rw [if_pos hl]; rw [leapY_iff] at hl
   obtain ⟨h1, h2⟩ := hl
   rw [if_pos h1] at e1
   rcases h2 with h2 | h2
   · rw [if_neg h2] at e2
     rw [if_neg (fun h => h2 (m1 h))] at e3; omega
   · rw [if_pos (m1 h2)] at e2; rw [if_pos h2] at e3; omega
 · rw [if_neg hl]; rw [leapY_iff] at hl
   by_cases h1 : (n + 1) % 4 = 0
   · have h2 : (n + 1) % 100 = 0 := by
       by_cases h2 : (n + 1) % 100 = 0
       · exact h2
       · exact absurd ⟨h1, .inl h2⟩ hl
     have h3 : ¬ (n + 1) % 400 = 0 := fun h3 => hl ⟨h1, .inr h3⟩
     rw [if_pos h1] at e1; rw [if_pos h2] at e2; rw [if_neg h3] at e3; omega
   · rw [if_neg h1] at e1; rw [if_neg (fun h => h1 (m2 h))] at e2; rw [if_neg (fun h => h1 (m2 (m1 h)))] at e3; omega
theorem cumM_one (y : Nat) : cumM y 1 = 0 := by simp [cumM]
theorem cumM_succ (y : Nat) {m : Nat} (h : 1 ≤ m) : cumM y (m + 1) = cumM y m + ml y m := by simp only [cumM]; rw [if_neg (by omega)]
theorem cumM_year (y : Nat) : cumM y 13 = yl y := by
 simp only [cumM, ml, yl]
 by_cases hl : leapY y = true
 · simp [hl]
 · simp [hl]
def IsD (n y m d : Nat) : Prop := 1 ≤ y ∧ (1 ≤ m ∧ m ≤ 12) ∧ (1 ≤ d ∧ d ≤ ml y m) ∧ n = dby y + cumM y m + (d - 1)
def ms (i : Nat) : Nat := dby (i / 12) + cumM (i / 12) (i % 12 + 1)
def mlen (i : Nat) : Nat := ml (i / 12) (i % 12 + 1)
theorem ms_succ {i : Nat} (h : 12 ≤ i) : ms (i + 1) = ms i + mlen i := by
 unfold ms mlen
 by_cases h11 : i % 12 = 11
 · have e1 : (i + 1) / 12 = i / 12 + 1 := by omega
   have e2 : (i + 1) % 12 = 0 := by omega
   rw [e1, e2, h11, dby_succ (by omega), Nat.zero_add, cumM_one]
   have := cumM_year (i / 12)
   rw [show (13 : Nat) = 12 + 1 from rfl, cumM_succ _ (by omega)] at this
   rw [← this, Nat.add_zero, ← Nat.add_assoc]
 · have e1 : (i + 1) / 12 = i / 12 := by omega
   have e2 : (i + 1) % 12 = i % 12 + 1 := by omega
   rw [e1, e2, cumM_succ _ (by omega)]; omega
theorem ms_lt {i : Nat} (h : 12 ≤ i) : ∀ k, ms i + mlen i ≤ ms (i + 1 + k)
 | 0 => by rw [Nat.add_zero, ms_succ h]; exact Nat.le_refl _
 | k + 1 => by
   have := ms_lt h k
   rw [← Nat.add_assoc, ms_succ (i := i + 1 + k) (by omega)]; omega
theorem ms_before {i j : Nat} (h : 12 ≤ i) (hij : i < j) : ms i + mlen i ≤ ms j := by
 have := ms_lt h (j - (i + 1))
 rwa [show i + 1 + (j - (i + 1)) = j by omega] at this
theorem ms_one {i j n : Nat} (hi : 12 ≤ i) (hj : 12 ≤ j) (h1 : ms i ≤ n ∧ n < ms i + mlen i) (h2 : ms j ≤ n ∧ n < ms j + mlen j) : i = j := by
 rcases Nat.lt_trichotomy i j with h | h | h
 · have := ms_before hi h; omega
 · exact h
 · have := ms_before hj h; omega
theorem IsD.ms {n y m d : Nat} (h : IsD n y m d) : n = ms (12 * y + (m - 1)) + (d - 1) ∧ d ≤ mlen (12 * y + (m - 1)) ∧ 1 ≤ d ∧ 12 ≤ 12 * y + (m - 1) := by
 obtain ⟨h1, h2, h3, rfl⟩ := h
 have e1 : (12 * y + (m - 1)) / 12 = y := by omega
 have e2 : (12 * y + (m - 1)) % 12 + 1 = m := by omega
 unfold Go.Proofs.YtbjjgnaojoaoiaaGreat.ms mlen
 rw [e1, e2]; exact ⟨rfl, h3.2, h3.1, by omega⟩
theorem IsD.one {n y m d y' m' d' : Nat} (h : IsD n y m d) (h' : IsD n y' m' d') : y = y' ∧ m = m' ∧ d = d' := by
 obtain ⟨a1, a2, a3, a4⟩ := h.ms
 obtain ⟨b1, b2, b3, b4⟩ := h'.ms
 have e := ms_one a4 b4 (n := n) (by omega) (by omega)
 obtain ⟨c1, c2, c3, _⟩ := h
 obtain ⟨c1', c2', c3', _⟩ := h'
 rw [e] at a1
 omega
theorem year_steps {n : Nat} (h : n ≤ 3652058) {k1 k2 k3 k4 n1 n2 n3 n4 : Nat} (e1 : k1 = min (n / 146097) 100) (f1 : n1 = n - k1 * 146097) (e2 : k2 = min (n1 / 36524) 3) (f2 : n2 = n1 - k2 * 36524)
  (e3 : k3 = min (n2 / 1461) 24) (f3 : n3 = n2 - k3 * 1461) (e4 : k4 = min (n3 / 365) 3) (f4 : n4 = n3 - k4 * 365) :
  n = dby (1 + k1 * 400 + k2 * 100 + k3 * 4 + k4) + n4 ∧ n4 < yl (1 + k1 * 400 + k2 * 100 + k3 * 4 + k4) := by
 have hk1 : k1 ≤ 24 := by omega
 have hk2 : k2 ≤ 3 := by omega
 have hk3 : k3 ≤ 24 := by omega
 have hk4 : k4 ≤ 3 := by omega
 have d : dby (1 + k1 * 400 + k2 * 100 + k3 * 4 + k4) = k1 * 146097 + k2 * 36524 + k3 * 1461 + k4 * 365 := by
  unfold dby
  have g1 : (1 + k1 * 400 + k2 * 100 + k3 * 4 + k4 - 1) / 4 = k1 * 100 + k2 * 25 + k3 := by omega
  have g2 : (1 + k1 * 400 + k2 * 100 + k3 * 4 + k4 - 1) / 100 = k1 * 4 + k2 := by omega
  have g3 : (1 + k1 * 400 + k2 * 100 + k3 * 4 + k4 - 1) / 400 = k1 := by omega
  rw [g1, g2, g3]; omega
 refine ⟨by rw [d]; omega, ?_⟩
 unfold yl
 by_cases hl : leapY (1 + k1 * 400 + k2 * 100 + k3 * 4 + k4) = true
 · rw [if_pos hl]; omega
 · rw [if_neg hl]; rw [leapY_iff] at hl; omega
theorem month_ex {y r : Nat} (h : r < yl y) : ∃ m, (1 ≤ m ∧ m ≤ 12) ∧ cumM y m ≤ r ∧ r < cumM y m + ml y m := by
 have h13 := cumM_year y
 have hz := cumM_one y
 have go : ∀ k, k ≤ 12 → (∃ m, (1 ≤ m ∧ m ≤ 12) ∧ cumM y m ≤ r ∧ r < cumM y m + ml y m) ∨ cumM y (k + 1) ≤ r := by
  intro k
  induction k with
  | zero => intro _; exact .inr (by rw [Nat.zero_add, hz]; omega)
  | succ k ih =>
    intro hk
    rcases ih (by omega) with h1 | h1
    · exact .inl h1
    · by_cases h2 : r < cumM y (k + 1) + ml y (k + 1)
      · exact .inl ⟨k + 1, ⟨by omega, by omega⟩, h1, h2⟩
      · exact .inr (by rw [cumM_succ y (m := k + 1) (by omega)]; omega)
 rcases go 12 (by omega) with h1 | h1
 · exact h1
 · have h2 : cumM y 13 ≤ r := h1
   omega
def addM (i d n : Nat) : Option Nat := if (i + n) / 12 ≤ 9999 then some (ms (i + n) + (min d (mlen (i + n)) - 1)) else none
def lateM (i d j e : Nat) : Nat := if min d (mlen j) < e then j - i + 1 else j - i
theorem late_before {i d j e n : Nat} (hi : 12 ≤ i) (hd : 1 ≤ d) (hj : j / 12 ≤ 9999) (he : 1 ≤ e ∧ e ≤ mlen j) (hij : i ≤ j) (hn : n < lateM i d j e) : ∃ x, addM i d n = some x ∧ x < ms j + (e - 1) := by
 have hle : n ≤ j - i := by unfold lateM at hn; split at hn <;> omega
 have hy : (i + n) / 12 ≤ 9999 := Nat.le_trans (Nat.div_le_div_right (by omega)) hj
 refine ⟨_, if_pos hy, ?_⟩
 by_cases h : n = j - i
 · have e1 : i + n = j := by omega
   rw [e1]
   unfold lateM at hn
   split at hn <;> omega
 · have := ms_before (i := i + n) (j := j) (by omega) (by omega)
   have hb := ml_bd ((i + n) / 12) ((i + n) % 12 + 1)
   have : 28 ≤ mlen (i + n) := hb.1
   omega
theorem late_at {i d j e x : Nat} (hi : 12 ≤ i) (hd : 1 ≤ d) (hj : j / 12 ≤ 9999) (he : 1 ≤ e ∧ e ≤ mlen j) (hij : i ≤ j) (hx : addM i d (lateM i d j e) = some x) : ms j + (e - 1) ≤ x := by
 unfold addM at hx
 split at hx
 · cases hx
   unfold lateM
   split
   · have e1 : i + (j - i + 1) = j + 1 := by omega
     rw [e1, ms_succ (by omega)]; omega
   · have e1 : i + (j - i) = j := by omega
     rw [e1]; omega
 · cases hx
theorem dby_big {y : Nat} (h : 10000 ≤ y) : 3652059 ≤ dby y := by unfold dby; omega
theorem day_ex {n : Nat} (h : n ≤ 3652058) : ∃ y m d, IsD n y m d ∧ y ≤ 9999 := by
 obtain ⟨k1, e1⟩ : ∃ k, k = min (n / 146097) 100 := ⟨_, rfl⟩
 obtain ⟨n1, f1⟩ : ∃ k, k = n - k1 * 146097 := ⟨_, rfl⟩
 obtain ⟨k2, e2⟩ : ∃ k, k = min (n1 / 36524) 3 := ⟨_, rfl⟩
 obtain ⟨n2, f2⟩ : ∃ k, k = n1 - k2 * 36524 := ⟨_, rfl⟩
 obtain ⟨k3, e3⟩ : ∃ k, k = min (n2 / 1461) 24 := ⟨_, rfl⟩
 obtain ⟨n3, f3⟩ : ∃ k, k = n2 - k3 * 1461 := ⟨_, rfl⟩
 obtain ⟨k4, e4⟩ : ∃ k, k = min (n3 / 365) 3 := ⟨_, rfl⟩
 obtain ⟨n4, f4⟩ : ∃ k, k = n3 - k4 * 365 := ⟨_, rfl⟩
 obtain ⟨g1, g2⟩ := year_steps h e1 f1 e2 f2 e3 f3 e4 f4
 obtain ⟨m, hm, hm1, hm2⟩ := month_ex g2
 refine ⟨1 + k1 * 400 + k2 * 100 + k3 * 4 + k4, m, n4 - cumM (1 + k1 * 400 + k2 * 100 + k3 * 4 + k4) m + 1, ⟨by omega, hm, ⟨by omega, by omega⟩, by omega⟩, ?_⟩
 omega
noncomputable def mi (n : Nat) : Nat × Nat := open Classical in if h : ∃ p : Nat × Nat, ∃ y m, IsD n y m p.2 ∧ p.1 = 12 * y + (m - 1) then h.choose else (0, 0)
theorem mi_eq {n y m d : Nat} (h : IsD n y m d) : mi n = (12 * y + (m - 1), d) := by
 have hex : ∃ p : Nat × Nat, ∃ y m, IsD n y m p.2 ∧ p.1 = 12 * y + (m - 1) := ⟨(12 * y + (m - 1), d), y, m, h, rfl⟩
 unfold mi
 rw [dif_pos hex]
 obtain ⟨y', m', h', e⟩ := hex.choose_spec
 obtain ⟨rfl, rfl, e2⟩ := h.one h'
 exact Prod.ext e e2.symm
noncomputable def lateD (due filed : Nat) : Nat := if filed ≤ due then 0 else lateM (mi due).1 (mi due).2 (mi filed).1 (mi filed).2
theorem IsD.order {n y m d n' y' m' d' : Nat} (h : IsD n y m d) (h' : IsD n' y' m' d') (hn : n ≤ n') : 12 * y + (m - 1) < 12 * y' + (m' - 1) ∨ 12 * y + (m - 1) = 12 * y' + (m' - 1) ∧ d ≤ d' := by
 obtain ⟨a1, a2, a3, a4⟩ := h.ms
 obtain ⟨b1, b2, b3, b4⟩ := h'.ms
 rcases Nat.lt_trichotomy (12 * y + (m - 1)) (12 * y' + (m' - 1)) with h1 | h1 | h1
 · exact .inl h1
 · refine .inr ⟨h1, ?_⟩; rw [h1] at a1; omega
 · have := ms_before b4 h1; omega
noncomputable def addD (due n : Nat) : Option Nat := addM (mi due).1 (mi due).2 n
theorem late_lt {due filed n : Nat} (hd : due ≤ 3652058) (hf : filed ≤ 3652058) (h : n < lateD due filed) : ∃ x, addD due n = some x ∧ x < filed := by
 obtain ⟨y, m, d, g, hy⟩ := day_ex hd
 obtain ⟨y1, m1, d1, g1, hy1⟩ := day_ex hf
 unfold lateD at h
 split at h
 · omega
 · rename_i h1
   unfold addD
   rw [mi_eq g, mi_eq g1] at h
   rw [mi_eq g]
   obtain ⟨a1, a2, a3, a4⟩ := g.ms
   obtain ⟨b1, b2, b3, b4⟩ := g1.ms
   have h2 := g.order g1 (by omega)
   obtain ⟨x, hx, hlt⟩ := late_before (i := 12 * y + (m - 1)) (d := d) (j := 12 * y1 + (m1 - 1)) (e := d1) (n := n) a4 a3 (by have := g1.2.1; omega) ⟨b3, b2⟩ (by omega) h
   exact ⟨x, hx, by omega⟩
theorem late_eq {due filed : Nat} (hd : due ≤ 3652058) (hf : filed ≤ 3652058) : ∀ x, addD due (lateD due filed) = some x → filed ≤ x := by
 intro x hx
 obtain ⟨y, m, d, g, hy⟩ := day_ex hd
 obtain ⟨y1, m1, d1, g1, hy1⟩ := day_ex hf
 obtain ⟨a1, a2, a3, a4⟩ := g.ms
 obtain ⟨b1, b2, b3, b4⟩ := g1.ms
 unfold addD lateD at hx
 split at hx
 · rw [mi_eq g] at hx
   simp only [addM, Nat.add_zero] at hx
   have h2 := g.2.1
   rw [if_pos (by omega)] at hx
   cases hx
   rw [Nat.min_eq_left a2]; omega
 · rw [mi_eq g, mi_eq g1] at hx
   have h2 := g.order g1 (by omega)
   have := late_at (i := 12 * y + (m - 1)) (d := d) (j := 12 * y1 + (m1 - 1)) (e := d1) a4 a3 (by have := g1.2.1; omega) ⟨b3, b2⟩ (by omega) hx
   omega
end
section
structure Br where
 frm : Int
 bp : Int
def fr (bs : List Br) (i : Nat) : Int := (bs[i]?.getD ⟨0, 0⟩).frm
def bpA (bs : List Br) (i : Nat) : Int := (bs[i]?.getD ⟨0, 0⟩).bp
theorem fr_at (bs : List Br) (i : Nat) (h : i < bs.length) : fr bs i = bs[i].frm := by simp [fr, h]
theorem bpA_at (bs : List Br) (i : Nat) (h : i < bs.length) : bpA bs i = bs[i].bp := by simp [bpA, h]
def mny (a : Int) : Bool := decide (0 ≤ a ∧ a ≤ 1125899906842624)
theorem mny_yes {a : Int} (h : mny a = true) : 0 ≤ a ∧ a ≤ 1125899906842624 := by simpa [mny] using h
theorem mny_no {a : Int} (h : ¬ mny a = true) : a < 0 ∨ 1125899906842624 < a := by
 have : ¬ (0 ≤ a ∧ a ≤ 1125899906842624) := by simpa [mny] using h
 omega
def okB (bs : List Br) (i : Nat) : Prop := (0 ≤ fr bs i ∧ fr bs i ≤ 1125899906842624) ∧ (0 ≤ bpA bs i ∧ bpA bs i ≤ 10000) ∧ (0 < i → fr bs (i - 1) < fr bs i)
def lft (bs : List Br) (P : Int) (k : Nat) : Int := if k < bs.length then min P (fr bs k) else P
def piece (bs : List Br) (P : Int) (i : Nat) : Int := max (lft bs P (i + 1) - fr bs i) 0 * bpA bs i
def up_ (bs : List Br) (P : Int) : Nat → Int
 | 0 => 0
 | k + 1 => up_ bs P k + piece bs P k
section
variable {bs : List Br} {P : Int}
theorem piece_nn {i : Nat} (h : okB bs i) : 0 ≤ piece bs P i := Int.mul_nonneg (by omega) h.2.1.1
theorem up_nn (h : ∀ i, i < bs.length → okB bs i) : ∀ k, k ≤ bs.length → 0 ≤ up_ bs P k
 | 0, _ => Int.le_refl _
 | k + 1, hk => by have := up_nn h k (by omega); have := piece_nn (P := P) (h k (by omega)); simp only [up_]; omega
theorem up_le (h : ∀ i, i < bs.length → okB bs i) (h0 : fr bs 0 = 0) (hP : 0 ≤ P) : ∀ k, k ≤ bs.length → up_ bs P k ≤ 10000 * lft bs P k
 | 0, _ => by
   simp only [up_, lft]; split
   · rw [h0]; omega
   · omega
 | k + 1, hk => by
   have ih := up_le h h0 hP k (by omega)
   obtain ⟨⟨a1, a2⟩, ⟨b1, b2⟩, c⟩ := h k (by omega)
   have hk' : k < bs.length := by omega
   have e : lft bs P k = min P (fr bs k) := by unfold lft; rw [if_pos hk']
   rw [e] at ih
   simp only [up_, piece]
   by_cases hl : lft bs P (k + 1) ≤ fr bs k
   · rw [show max (lft bs P (k + 1) - fr bs k) 0 = 0 by omega, Int.zero_mul]
     have : min P (fr bs k) ≤ lft bs P (k + 1) := by
      unfold lft; split
      · rename_i h2
        have := (h (k + 1) h2).2.2 (by omega)
        rw [Nat.add_sub_cancel] at this
        omega
      · omega
     omega
   · have h2 : lft bs P (k + 1) ≤ P := by unfold lft; split <;> omega
     rw [show max (lft bs P (k + 1) - fr bs k) 0 = lft bs P (k + 1) - fr bs k by omega]
     have := Int.mul_le_mul_of_nonneg_left b2 (show 0 ≤ lft bs P (k + 1) - fr bs k by omega)
     omega
structure Dn (bs : List Br) (P : Int) (k : Nat) (left units parts : Int) : Prop where
 lf : left = lft bs P k
 sm : 10000 * units + parts = up_ bs P bs.length - up_ bs P k
 un : 0 ≤ units
 pn : 0 ≤ parts
 pm : parts ≤ ((bs.length : Int) - k) * 99990000
theorem Dn.start : Dn bs P bs.length P 0 0 := ⟨by unfold lft; rw [if_neg (Nat.lt_irrefl _)], by omega, by omega, by omega, by omega⟩
theorem Dn.skip {k : Nat} {left units parts : Int} (h : ∀ i, i < bs.length → okB bs i) (hk : k < bs.length) (d : Dn bs P (k + 1) left units parts) (hl : left ≤ fr bs k) : Dn bs P k left units parts := by
 have hp : piece bs P k = 0 := by unfold piece; rw [← d.lf, show max (left - fr bs k) 0 = 0 by omega, Int.zero_mul]
 refine ⟨?_, ?_, d.un, d.pn, ?_⟩
 · have e := d.lf
   unfold lft at *
   rw [if_pos hk]
   split at e
   · rename_i h2
     have := (h (k + 1) h2).2.2 (by omega)
     rw [Nat.add_sub_cancel] at this
     omega
   · omega
 · have := d.sm; simp only [up_] at this; omega
 · have := d.pm; omega
theorem Dn.step {k : Nat} {left units parts : Int} (h : ∀ i, i < bs.length → okB bs i) (hk : k < bs.length) (d : Dn bs P (k + 1) left units parts) (hl : ¬ left ≤ fr bs k) :
  Dn bs P k (fr bs k) (units + (left - fr bs k) / 10000 * bpA bs k) (parts + (left - fr bs k) % 10000 * bpA bs k) := by
 obtain ⟨⟨a1, a2⟩, ⟨b1, b2⟩, c⟩ := h k hk
 have hp : piece bs P k = (left - fr bs k) * bpA bs k := by unfold piece; rw [← d.lf, show max (left - fr bs k) 0 = left - fr bs k by omega]
 have m1 := Int.emod_nonneg (left - fr bs k) (show (10000 : Int) ≠ 0 by omega)
 have m2 := Int.emod_lt_of_pos (left - fr bs k) (show (0 : Int) < 10000 by omega)
 have m3 := Int.mul_nonneg m1 b1
 have m4 : (left - fr bs k) % 10000 * bpA bs k ≤ 9999 * 10000 := Int.le_trans (Int.mul_le_mul_of_nonneg_right (show (left - fr bs k) % 10000 ≤ 9999 by omega) b1) (Int.mul_le_mul_of_nonneg_left b2 (by omega))
 have m5 : 0 ≤ (left - fr bs k) / 10000 * bpA bs k := Int.mul_nonneg (Int.ediv_nonneg (by omega) (by omega)) b1
 refine ⟨?_, ?_, by have := d.un; omega, by have := d.pn; omega, by have := d.pm; omega⟩
 · have e : left ≤ P := by rw [d.lf]; unfold lft; split <;> omega
   unfold lft; rw [if_pos hk]; omega
 · have := d.sm
   simp only [up_] at this
   rw [hp] at this
   have e := Int.mul_ediv_add_emod (left - fr bs k) 10000
   have e2 : 10000 * ((left - fr bs k) / 10000 * bpA bs k) + (left - fr bs k) % 10000 * bpA bs k = (left - fr bs k) * bpA bs k := by
    conv => rhs; rw [← e]
    rw [Int.add_mul, Int.mul_assoc]
   omega
theorem Dn.bound {k : Nat} {left units parts : Int} (h : ∀ i, i < bs.length → okB bs i) (h0 : fr bs 0 = 0) (hP : 0 ≤ P ∧ P ≤ 1125899906842624) (hn : bs.length ≤ 10) (hk : k ≤ bs.length) (d : Dn bs P k left units parts) :
  (left ≤ P ∧ 0 ≤ left) ∧ (0 ≤ units ∧ units ≤ 1125899906842624) ∧ (0 ≤ parts ∧ parts ≤ 999900000) := by
 have u1 := up_le h h0 hP.1 bs.length (Nat.le_refl _)
 have e : lft bs P bs.length = P := by unfold lft; rw [if_neg (Nat.lt_irrefl _)]
 rw [e] at u1
 have u2 := up_nn (P := P) h k hk
 have := d.sm; have a := d.un; have b := d.pn; have := d.pm
 refine ⟨?_, ⟨a, by omega⟩, ⟨b, by omega⟩⟩
 have := d.lf
 unfold lft at this
 split at this
 · have := (h k (by assumption)).1; omega
 · omega
theorem Dn.done {left units parts : Int} (d : Dn bs P 0 left units parts) : units + parts / 10000 = up_ bs P bs.length / 10000 := by
 have := d.sm; simp only [up_] at this; omega
end
structure Sch where
 bs : List Br
 ded : Int
 cred : Int
 lbp : Int
 most : Int
 least : Int
def OkS (s : Sch) : Prop := (1 ≤ s.bs.length ∧ s.bs.length ≤ 10) ∧ (0 ≤ s.lbp ∧ s.lbp ≤ 10000) ∧ (0 ≤ s.most ∧ s.most ≤ 60) ∧ fr s.bs 0 = 0 ∧ (∀ i, i < s.bs.length → okB s.bs i) ∧ mny s.ded = true ∧ mny s.cred = true ∧ mny s.least = true
noncomputable def okS (s : Sch) : Bool := @decide (OkS s) (Classical.propDecidable _)
theorem okS_yes {s : Sch} (h : okS s = true) : OkS s := @of_decide_eq_true _ (Classical.propDecidable _) h
theorem okS_no {s : Sch} (h : ¬ OkS s) : okS s = false := @decide_eq_false _ (Classical.propDecidable _) h
theorem okS_is {s : Sch} (h : OkS s) : okS s = true := @decide_eq_true _ (Classical.propDecidable _) h
def partS (s : Sch) (x : Int) : Int := max (x - s.ded) 0
def taxV (s : Sch) (x : Int) : Int := max (up_ s.bs (partS s x) s.bs.length / 10000 - s.cred) 0
noncomputable def taxS (s : Sch) (x : Int) : Int × Int := if okS s && mny x then (taxV s x, 0) else (0, 1)
theorem taxV_bd {s : Sch} {x : Int} (h : OkS s) (hx : mny x = true) : 0 ≤ taxV s x ∧ taxV s x ≤ 1125899906842624 := by
 obtain ⟨_, _, _, h0, hb, hd, hc, _⟩ := h
 have d := mny_yes hd; have c := mny_yes hc; have x' := mny_yes hx
 have u1 := up_le (P := partS s x) hb h0 (by unfold partS; omega) s.bs.length (Nat.le_refl _)
 have e : lft s.bs (partS s x) s.bs.length = partS s x := by unfold lft; rw [if_neg (Nat.lt_irrefl _)]
 rw [e] at u1
 have : partS s x ≤ 1125899906842624 := by unfold partS; omega
 unfold taxV; omega
end
section
def dayB (n : Int) : Bool := decide (0 ≤ n ∧ n ≤ 3652058)
theorem dayB_yes {n : Int} (h : dayB n = true) : 0 ≤ n ∧ n ≤ 3652058 := by simpa [dayB] using h
theorem dayB_no {n : Int} (h : ¬ dayB n = true) : n < 0 ∨ 3652058 < n := by
 have : ¬ (0 ≤ n ∧ n ≤ 3652058) := by simpa [dayB] using h
 omega
structure Ret where
 per : Int
 due : Int
 filed : Int
 inc : Int
 wh : Int
def retB (r : Ret) : Bool := decide (1 ≤ r.per ∧ r.per ≤ 99999) && dayB r.due && dayB r.filed && mny r.inc && mny r.wh
theorem retB_yes {r : Ret} (h : retB r = true) : (1 ≤ r.per ∧ r.per ≤ 99999) ∧ dayB r.due = true ∧ dayB r.filed = true ∧ mny r.inc = true ∧ mny r.wh = true := by
 simp only [retB, Bool.and_eq_true, decide_eq_true_eq] at h
 exact ⟨h.1.1.1.1, h.1.1.1.2, h.1.1.2, h.1.2, h.2⟩
structure Bl where
 tax : Int
 prin : Int
 pen : Int
 exc : Int
def Bl.zero : Bl := ⟨0, 0, 0, 0⟩
def Bl.sub (b a : Bl) : Bl := ⟨b.tax - a.tax, b.prin - a.prin, b.pen - a.pen, b.exc - a.exc⟩
noncomputable def lateI (r : Ret) : Int := (lateD r.due.toNat r.filed.toNat : Nat)
def penV (s : Sch) (p l : Int) : Int := if 0 < p ∧ 0 < l then min (max (p * (s.lbp * min l s.most) / 10000) s.least) p else 0
def prinV (s : Sch) (r : Ret) : Int := max (taxV s r.inc - r.wh) 0
noncomputable def billV (s : Sch) (r : Ret) : Bl := ⟨taxV s r.inc, prinV s r, penV s (prinV s r) (lateI r), max (r.wh - taxV s r.inc) 0⟩
noncomputable def billS (s : Sch) (r : Ret) : Bl × Int := if okS s && retB r then (billV s r, 0) else (Bl.zero, 1)
theorem billS_yes {s : Sch} {r : Ret} (h : OkS s) (hr : retB r = true) : billS s r = (billV s r, 0) := by unfold billS; rw [okS_is h, hr]; rfl
theorem billS_no1 {s : Sch} {r : Ret} (h : ¬ OkS s) : billS s r = (Bl.zero, 1) := by unfold billS; rw [okS_no h]; rfl
theorem billS_no2 {s : Sch} {r : Ret} (h : ¬ retB r = true) : billS s r = (Bl.zero, 1) := by unfold billS; rw [Bool.eq_false_iff.2 h, Bool.and_false]; rfl
theorem rate_bd {s : Sch} (h : OkS s) {l : Int} (hl : 0 ≤ l) : 0 ≤ s.lbp * min l s.most ∧ s.lbp * min l s.most ≤ 600000 := by
 obtain ⟨_, ⟨b1, b2⟩, ⟨c1, c2⟩, _⟩ := h
 have h1 : 0 ≤ min l s.most := by omega
 have h2 : min l s.most ≤ 60 := by omega
 refine ⟨Int.mul_nonneg b1 h1, ?_⟩
 exact Int.le_trans (Int.mul_le_mul_of_nonneg_right b2 h1) (Int.mul_le_mul_of_nonneg_left h2 (by omega))
theorem prin_bd {s : Sch} {r : Ret} (h : OkS s) (hr : retB r = true) : 0 ≤ prinV s r ∧ prinV s r ≤ 1125899906842624 := by
 obtain ⟨_, _, _, hi, hw⟩ := retB_yes hr
 have := taxV_bd h hi; have := mny_yes hw
 unfold prinV; omega
theorem pen_prod {s : Sch} (h : OkS s) {p l : Int} (hp : 0 ≤ p ∧ p ≤ 1125899906842624) (hl : 0 ≤ l) :
  0 ≤ p * (s.lbp * min l s.most) ∧ p * (s.lbp * min l s.most) ≤ 675539944105574400000 := by
 have hb := rate_bd h hl
 refine ⟨Int.mul_nonneg hp.1 hb.1, ?_⟩
 exact Int.le_trans (Int.mul_le_mul_of_nonneg_right hp.2 hb.1) (Int.le_trans (Int.mul_le_mul_of_nonneg_left hb.2 (by omega)) (by omega))
theorem pen_bd {s : Sch} (h : OkS s) {p l : Int} (hp : 0 ≤ p ∧ p ≤ 1125899906842624) (hl : 0 ≤ l) : 0 ≤ penV s p l ∧ penV s p l ≤ p := by
 have h1 := pen_prod h hp hl
 have h2 := mny_yes h.2.2.2.2.2.2.2
 have h3 : 0 ≤ p * (s.lbp * min l s.most) / 10000 := Int.ediv_nonneg h1.1 (by omega)
 unfold penV
 split <;> omega
theorem lateI_nn (r : Ret) : 0 ≤ lateI r := by unfold lateI; omega
theorem bill_bd {s : Sch} {r : Ret} (h : OkS s) (hr : retB r = true) : (0 ≤ (billV s r).tax ∧ (billV s r).tax ≤ 1125899906842624) ∧ (0 ≤ (billV s r).prin ∧ (billV s r).prin ≤ 1125899906842624) ∧
  (0 ≤ (billV s r).pen ∧ (billV s r).pen ≤ (billV s r).prin) ∧ (0 ≤ (billV s r).exc ∧ (billV s r).exc ≤ 1125899906842624) ∧ ((billV s r).prin = 0 ∨ (billV s r).exc = 0) ∧ (billV s r).tax = (billV s r).prin + r.wh - (billV s r).exc := by
 obtain ⟨_, _, _, hi, hw⟩ := retB_yes hr
 have t := taxV_bd h hi; have w := mny_yes hw
 have p := prin_bd h hr
 refine ⟨t, p, pen_bd h p (lateI_nn r), ⟨?_, ?_⟩, ?_, ?_⟩ <;> simp only [billV, prinV] <;> omega
theorem late_none {r : Ret} (h : r.filed ≤ r.due) : lateI r = 0 := by unfold lateI lateD; rw [if_pos (by omega)]; rfl
noncomputable def changeS (s : Sch) (a b : Ret) : Bl × Int :=
 if okS s && retB a && retB b then (if a.per ≠ b.per ∨ b.filed < a.filed then (Bl.zero, 10) else ((billV s { b with due := a.due, filed := a.filed }).sub (billV s a), 0)) else (Bl.zero, 1)
theorem retB_moved {a b : Ret} (ha : retB a = true) (hb : retB b = true) : retB { b with due := a.due, filed := a.filed } = true := by
 obtain ⟨p1, d1, f1, _, _⟩ := retB_yes ha
 obtain ⟨p2, _, _, i2, w2⟩ := retB_yes hb
 simp only [retB, d1, f1, i2, w2, Bool.and_true, decide_eq_true_eq]
 exact p2
end
section
open Go.RowKit Go

end
end Go.Proofs.YtbjjgnaojoaoiaaGreat
