/- Words on memory that the walks of this seat use. -/
import Derived.WalkKit
import Derived.Below
import Derived.Deep.QuietTactic
import Derived.BigQuiet
import Derived.Lib.Hide
import Derived.Deep.Draws
import Derived.WalkSmall
import Derived.Handy
import Derived.Maps.AppendAt
import Derived.Deep.AppendLies
import Derived.Test.YtbjjgnaojoaoiaaGreatProg
namespace Go.Proofs.YtbjjgnaojoaoiaaGreat
open Go.RowKit
set_option linter.unusedSimpArgs false
set_option linter.unusedVariables false

/-- The slice value '.slice A n _' reads as the cells xs, s cells an element; it lies below block B. -/
def Rd (w : World) (B s : Nat) (A : Option Addr) (n : Nat) (xs : List Value) : Prop :=
  xs.length = n * s ∧ (0 < n → ∃ b off, A = some ⟨b, off, none⟩ ∧ b < B ∧ ∀ j, j < n * s → w.cell? ⟨b, off + j, none⟩ = xs[j]?)

section
variable {w w' : World} {B s n : Nat} {A : Option Addr} {xs : List Value}
theorem Rd.len (h : Rd w B s A n xs) : xs.length = n * s := h.1
theorem Rd.of_cells (h : Rd w B s A n xs) (hk : ∀ p : Addr, p.block < B → w'.cell? p = w.cell? p) : Rd w' B s A n xs :=
  ⟨h.1, fun hn => let ⟨b, off, e, hb, hc⟩ := h.2 hn; ⟨b, off, e, hb, fun j hj => (hk ⟨b, off + j, none⟩ hb).trans (hc j hj)⟩⟩
theorem Rd.below (h : Rd w B s A n xs) (hb : Below B w w') : Rd w' B s A n xs := h.of_cells fun _ hp => hb.cell hp
theorem Rd.wider {B' : Nat} (h : Rd w B s A n xs) (hB : B ≤ B') : Rd w B' s A n xs :=
  ⟨h.1, fun hn => let ⟨b, off, e, hb, hc⟩ := h.2 hn; ⟨b, off, e, Nat.lt_of_lt_of_le hb hB, hc⟩⟩
theorem Rd.fresh (w : World) (cs : Array Value) (t : TypeId) (n s : Nat) (h : cs.size = n * s) : Rd (w.alloc (.cells cs t)) (w.alloc (.cells cs t)).heap.size s (some ⟨w.heap.size, 0, none⟩) n cs.toList :=
  ⟨by simpa using h, fun _ => ⟨_, _, rfl, by simp, fun j _ => by rw [World.cell?_alloc_at _ _ _ _ rfl]; simp⟩⟩
theorem Rd.take {m : Nat} (h : Rd w B s A n xs) (hm : m ≤ n) : Rd w B s A m (xs.take (m * s)) := by
  have hle : m * s ≤ n * s := Nat.mul_le_mul_right _ hm
  refine ⟨by rw [List.length_take, h.1]; omega, fun h0 => ?_⟩
  obtain ⟨b, off, e, hb, hc⟩ := h.2 (by omega)
  refine ⟨b, off, e, hb, fun j hj => ?_⟩
  rw [hc j (by omega), List.getElem?_take, if_pos hj]
theorem Rd.of_own {base : Nat} {e : TypeId} {c : Nat} (h : w.ownsRow base e s (.slice A n c) n xs) : Rd w w.heap.size s A n xs := by
  refine ⟨h.1, fun hn => ?_⟩
  obtain ⟨g, cap, hv, _, hlt⟩ := h.form hn
  have hA : A = some ⟨g, 0, none⟩ := by injection hv
  subst hA
  refine ⟨g, 0, rfl, hlt, fun j hj => ?_⟩
  have hj' : j < xs.length := by rw [h.1]; exact hj
  have hc := h.cells (g := g) rfl j _ (List.getElem?_eq_getElem hj')
  rw [List.getElem?_eq_getElem hj', Nat.zero_add]
  have he : (⟨g, 0, none⟩ : Addr).add j = ⟨g, j, none⟩ := by unfold Addr.add; split <;> simp_all
  rw [← he]; exact hc
theorem own_form {base : Nat} {e : TypeId} {v : Value} (h : w.ownsRow base e s v n xs) : ∃ A c, v = .slice A n c ∧ n ≤ maxLen := by
  rcases h.2 with ⟨rfl, rfl⟩ | ⟨g, cap, cur, rfl, _, _, h1, h2, _⟩
  · exact ⟨none, 0, rfl, by simp⟩
  · exact ⟨_, cap, rfl, by omega⟩
theorem Rd.nil : Rd w B s A 0 [] := ⟨by simp, fun h => absurd h (by omega)⟩
end

@[go_sem] theorem size_drewN (w : World) (n : Nat) : (w.drewN n).heap.size = w.heap.size := rfl
theorem blk_lt {w : World} {g : Nat} {o : Obj} (h : w.heap[g]? = some o) : g < w.heap.size := by
  rcases Nat.lt_or_ge g w.heap.size with h1 | h1
  · exact h1
  · rw [Array.getElem?_eq_none h1] at h; cases h
theorem blk_alloc {w : World} {g : Nat} {o : Obj} (h : w.heap[g]? = some o) (o' : Obj) : (w.alloc o').heap[g]? = some o := (Below.heap_alloc w o' g (blk_lt h)).trans h
theorem blk_new (w : World) (o : Obj) {g : Nat} (h : g = w.heap.size) : (w.alloc o).heap[g]? = some o := by subst h; exact heap_alloc_new w o
theorem blk_set {w : World} {g : Nat} {cs : Array Value} {t : TypeId} {fr : Nat × Nat} (h : w.heap[g]? = some (.cells cs t fr)) (i : Nat) (u : Value) : (w.setCell ⟨g, i, none⟩ u).heap[g]? = some (.cells (cs.setIfInBounds i u) t fr) := by
  simp [World.setCell, Array.getElem?_modify, h]
theorem blk_far {w : World} {g : Nat} {o : Obj} (h : w.heap[g]? = some o) {p : Addr} (hp : g ≠ p.block) (u : Value) : (w.setCell p u).heap[g]? = some o := (Below.heap_setCell w p u g hp).trans h
theorem blk_below {w w' : World} {B g : Nat} {o : Obj} (h : w.heap[g]? = some o) (hb : Below B w w') (hg : g < B) : w'.heap[g]? = some o := (hb.block g hg).trans h
theorem blk_cell {w : World} {g : Nat} {cs : Array Value} {t : TypeId} {fr : Nat × Nat} (h : w.heap[g]? = some (.cells cs t fr)) (i : Nat) : w.cell? ⟨g, i, none⟩ = cs[i]? := by simp [World.cell?, h]
theorem blk_free {w : World} {g : Nat} {cs : Array Value} {t : TypeId} (h : w.heap[g]? = some (.cells cs t (0, 0))) (i : Nat) : w.frozen? ⟨g, i, none⟩ = false := by simp [World.frozen?, h]

/-- append onto a row of the call's own, from whatever reads as 'news' (nil, empty or not). -/
theorem run_app {P : Program} (w : World) (base : Nat) (t ty e : TypeId) (i : TypeInfo) (z : Value) (size bytes : Nat) (ht : P.underlying t = some (.slice e)) (hi : P.info? e = some i) (hz : i.zero = some z)
    (hsize : i.size = size) (hby : i.bytes = bytes) (hzs : z.cells.size = size) (hsz : 0 < size) (v : Value) (n : Nat) (xs : List Value) (hown : w.ownsRow base e size v n xs)
    (B : Nat) (A : Option Addr) (m c : Nat) (news : List Value) (hr : Rd w B size A m news) (h1 : ∀ u ∈ news, u.oneCell' = true)
    (h63 : n + m ≤ maxLen) (hbytes : (n + m) * bytes ≤ 140737488355328) (hbase : base ≤ w.heap.size) :
    ∃ v' w', (Builtin.append_ #[t, t] ty #[v, .slice A m c]).run P w = .ok v' w' ∧ w'.ownsRow base e size v' (n + m) (xs ++ news) ∧ w.grownBy w' v.ownBlock ∧ (v'.ownBlock = v.ownBlock ∨ v'.ownBlock = some w.heap.size) := by
  have nilcase : m = 0 → A = none → ∃ v' w', (Builtin.append_ #[t, t] ty #[v, .slice A m c]).run P w = .ok v' w' ∧ w'.ownsRow base e size v' (n + m) (xs ++ news) ∧ w.grownBy w' v.ownBlock ∧ (v'.ownBlock = v.ownBlock ∨ v'.ownBlock = some w.heap.size) := by
    rintro rfl rfl
    have hn : news = [] := List.eq_nil_of_length_eq_zero (by simpa using hr.1)
    subst hn
    refine ⟨v, w, ?_, by simpa using hown, World.grownBy.refl w _, .inl rfl⟩
    rcases hown.2 with ⟨rfl, rfl⟩ | ⟨g, cap, cur, rfl, _, _, hnc, _⟩
    · simp [Builtin.append_, run_underlying ht, sizeOf, typeInfo, hi, Builtin.lenOf, Builtin.firstCells]
    · simp [Builtin.append_, run_underlying ht, sizeOf, typeInfo, hi, Builtin.lenOf, Builtin.firstCells, hnc, storeCells]
  rcases A with _ | ad
  · rcases Nat.eq_zero_or_pos m with h0 | h0
    · exact nilcase h0 rfl
    · obtain ⟨b, off, h, _⟩ := hr.2 h0; cases h
  · have hcells : ∀ j u, news[j]? = some u → w.cell? (ad.add j) = some u := by
      intro j u hu
      have hj : j < m * size := by rw [← hr.1]; exact (List.getElem?_eq_some_iff.1 hu).1
      have h0 : 0 < m := by rcases Nat.eq_zero_or_pos m with h | h; · rw [h] at hj; simp at hj
                            · exact h
      obtain ⟨b, off, h, _, hc⟩ := hr.2 h0
      injection h with h; subst h
      have he : (⟨b, off, none⟩ : Addr).add j = ⟨b, off + j, none⟩ := by unfold Addr.add; split <;> simp_all
      rw [he, hc j hj]; exact hu
    obtain ⟨v', w', hrun, h2, h3, _, h5⟩ := run_append_own_at (P := P) w base t ty e i z size bytes ht hi hz hsize hby hzs hsz v n xs hown ad m c news hr.1 hcells h1 h63 hbytes hbase
    exact ⟨v', w', hrun, h2, h3, h5⟩

theorem wp_app {P : Program} {w : World} {o : Oper} {a : Act} {K : Act → World → Prop} {Q : Exit → Act → World → Prop} (s x : Operand) (t : TypeId) (ho : o.op = .call { callee := .builtin .append, args := #[s, x], argTypes := #[t, t] })
    (base : Nat) (e : TypeId) (i : TypeInfo) (z : Value) (size bytes : Nat) (ht : P.underlying t = some (.slice e)) (hi : P.info? e = some i) (hz : i.zero = some z)
    (hsize : i.size = size) (hby : i.bytes = bytes) (hzs : z.cells.size = size) (hsz : 0 < size) (v : Value) (n : Nat) (xs : List Value) (hs : a.eval s = v) (hown : w.ownsRow base e size v n xs)
    (B : Nat) (A : Option Addr) (m c : Nat) (news : List Value) (hx : a.eval x = .slice A m c) (hr : Rd w B size A m news) (h1 : ∀ u ∈ news, u.oneCell' = true)
    (h63 : n + m ≤ maxLen) (hbytes : (n + m) * bytes ≤ 140737488355328) (hbase : base ≤ w.heap.size)
    (h : ∀ v' w', w'.ownsRow base e size v' (n + m) (xs ++ news) → w.grownBy w' v.ownBlock → (v'.ownBlock = v.ownBlock ∨ v'.ownBlock = some w.heap.size) → K (a.put o.dst v') w') : o.wp P a w K Q := by
  obtain ⟨v', w', hrun, h2, h3, h4⟩ := run_app (P := P) w base t o.type e i z size bytes ht hi hz hsize hby hzs hsz v n xs hown B A m c news hr h1 h63 hbytes hbase
  unfold Oper.wp execOp
  simp only [ho, resolve, invoke, builtin, Sem.run_bind, Sem.run_pure, Result.andThen_ok, List.map_toArray, List.map_cons, List.map_nil, hs, hx, hrun]
  exact h v' w' h2 h3 h4

theorem wpList_app {P : Program} {w : World} {ops : Array Oper} {rest : List Oper} {o : Oper} {a : Act} {Q : Exit → Act → World → Prop} (hgd : o.guard = none) (s x : Operand) (t : TypeId) (ho : o.op = .call { callee := .builtin .append, args := #[s, x], argTypes := #[t, t] })
    (base : Nat) (e : TypeId) (i : TypeInfo) (z : Value) (size bytes : Nat) (ht : P.underlying t = some (.slice e)) (hi : P.info? e = some i) (hz : i.zero = some z)
    (hsize : i.size = size) (hby : i.bytes = bytes) (hzs : z.cells.size = size) (hsz : 0 < size) (v : Value) (n : Nat) (xs : List Value) (hs : a.eval s = v) (hown : w.ownsRow base e size v n xs)
    (B : Nat) (A : Option Addr) (m c : Nat) (news : List Value) (hx : a.eval x = .slice A m c) (hr : Rd w B size A m news) (h1 : ∀ u ∈ news, u.oneCell' = true)
    (h63 : n + m ≤ maxLen) (hbytes : (n + m) * bytes ≤ 140737488355328) (hbase : base ≤ w.heap.size)
    (h : ∀ v' w', w'.ownsRow base e size v' (n + m) (xs ++ news) → w.grownBy w' v.ownBlock → (v'.ownBlock = v.ownBlock ∨ v'.ownBlock = some w.heap.size) → wpList P ops Q rest (a.put o.dst v') w') : wpList P ops Q (o :: rest) a w :=
  wpList_plain hgd fun _ hK => wp_app s x t ho base e i z size bytes ht hi hz hsize hby hzs hsz v n xs hs hown B A m c news hx hr h1 h63 hbytes hbase fun v' w' h2 h3 h4 => hK _ _ (h v' w' h2 h3 h4)

/-- An amount. -/
def amt (z : Int) : Bool := decide (-4611686018427387904 ≤ z ∧ z ≤ 4611686018427387904)
def ints (zs : List Int) : List Value := zs.map (Value.int .i64)
theorem ints_len (zs : List Int) : (ints zs).length = zs.length := by simp [ints]
theorem ints_at (zs : List Int) (k : Nat) (h : k < zs.length) : (ints zs)[k]? = some (.int .i64 zs[k]) := by simp [ints, h]

end Go.Proofs.YtbjjgnaojoaoiaaGreat
namespace Go.Proofs.YtbjjgnaojoaoiaaGreat
/-- An amount, or that it is none. -/
def told (z : Int) : Int × Int := if amt z then (z, 0) else (0, 2)
def sumS (zs : List Int) : Int × Int := if zs.all amt then told zs.sum else (0, 1)
@[reducible] def pr (p : Int × Int) : Value := .tuple #[.int .i64 p.1, .int .i64 p.2]
end Go.Proofs.YtbjjgnaojoaoiaaGreat
/- the reference's wide numbers: plus, less, minus, by digits. -/
namespace Go.Proofs.YtbjjgnaojoaoiaaGreat
open Go.RowKit Go
set_option linter.unusedSimpArgs false
set_option linter.unusedVariables false

/-- The size that four digits of base 2^32 are. -/
def V (a0 a1 a2 a3 : Int) : Int := a0 + 4294967296 * (a1 + 4294967296 * (a2 + 4294967296 * a3))
@[reducible] def d4 (a0 a1 a2 a3 : Int) : Value := .agg #[.int .u64 a0, .int .u64 a1, .int .u64 a2, .int .u64 a3]

set_option maxHeartbeats 400000 in
set_option maxRecDepth 100000 in
theorem plus_any (a0 a1 a2 a3 b0 b1 b2 b3 : Int) (w : World) (ha0 : 0 ≤ a0 ∧ a0 ≤ 4294967295) (ha1 : 0 ≤ a1 ∧ a1 ≤ 4294967295) (ha2 : 0 ≤ a2 ∧ a2 ≤ 4294967295) (ha3 : 0 ≤ a3 ∧ a3 ≤ 4294967295)
    (hb0 : 0 ≤ b0 ∧ b0 ≤ 4294967295) (hb1 : 0 ≤ b1 ∧ b1 ≤ 4294967295) (hb2 : 0 ≤ b2 ∧ b2 ≤ 4294967295) (hb3 : 0 ≤ b3 ∧ b3 ≤ 4294967295) :
    Calls Tryz.prog 56 #[d4 a0 a1 a2 a3, d4 b0 b1 b2 b3] w fun e w' =>
      e = .returned (d4 ((a0 + b0) % 4294967296) ((a1 + b1 + (a0 + b0) / 4294967296) % 4294967296) ((a2 + b2 + (a1 + b1 + (a0 + b0) / 4294967296) / 4294967296) % 4294967296) ((a3 + b3 + (a2 + b2 + (a1 + b1 + (a0 + b0) / 4294967296) / 4294967296) / 4294967296) % 4294967296)) ∧ Below w.heap.size w w' := by
  go_enter Tryz.func56, Tryz.ntmps56
  go_wp2
  refine wp_loop_rounds 5 ?_
  rw [rounds_succ]; go_wp2; go_quiet (fail); go_wp2
  rw [rounds_succ]; go_wp2; go_quiet (fail); go_wp2
  rw [rounds_succ]; go_wp2; go_quiet (fail); go_wp2
  rw [rounds_succ]; go_wp2; go_quiet (fail); go_wp2
  rw [rounds_succ]; go_wp2
  refine bodyPost_ret (v := d4 _ _ _ _) (by simp [results, Tryz.results56, go_sem]) rfl ⟨rfl, (by repeat' (first | (with_reducible exact Below.refl _ _) | (with_reducible refine Below.alloc ?_ ?_ _) | (with_reducible refine below_drewN ?_ _) | (with_reducible refine Below.drew ?_) | (with_reducible refine Below.setCell ?_ ?_ _) | (with_reducible refine Below.trans ?_ (Below.mono HW0.out ?_)) | (with_reducible refine Below.trans ?_ (Below.mono HW1.out ?_)) | (with_reducible refine Below.trans ?_ (Below.mono HW2.out ?_)) | (with_reducible refine Below.trans ?_ (Below.mono HW3.out ?_)) | (with_reducible refine Below.trans ?_ (Below.mono HW4.out ?_)) | (with_reducible refine Below.trans ?_ (Below.mono HW5.out ?_)) | (with_reducible refine Below.trans ?_ (Below.mono HW6.out ?_)) | (with_reducible refine Below.trans ?_ (Below.mono HW7.out ?_)) | (with_reducible exact Nat.le_refl _) | omega | (simp only [World.size_alloc, World.size_setCell, World.size_drew, size_drewN]; omega) | (simp; done) | (simp; omega)))⟩

set_option maxHeartbeats 400000 in
set_option maxRecDepth 100000 in
theorem minus_any (a0 a1 a2 a3 b0 b1 b2 b3 : Int) (w : World) (ha0 : 0 ≤ a0 ∧ a0 ≤ 4294967295) (ha1 : 0 ≤ a1 ∧ a1 ≤ 4294967295) (ha2 : 0 ≤ a2 ∧ a2 ≤ 4294967295) (ha3 : 0 ≤ a3 ∧ a3 ≤ 4294967295)
    (hb0 : 0 ≤ b0 ∧ b0 ≤ 4294967295) (hb1 : 0 ≤ b1 ∧ b1 ≤ 4294967295) (hb2 : 0 ≤ b2 ∧ b2 ≤ 4294967295) (hb3 : 0 ≤ b3 ∧ b3 ≤ 4294967295) :
    Calls Tryz.prog 57 #[d4 a0 a1 a2 a3, d4 b0 b1 b2 b3] w fun e w' =>
      (∃ s0 s1 s2 s3, s0 = a0 + 4294967296 - b0 ∧ s1 = a1 + 4294967296 - b1 - (1 - s0 / 4294967296) ∧ s2 = a2 + 4294967296 - b2 - (1 - s1 / 4294967296) ∧ s3 = a3 + 4294967296 - b3 - (1 - s2 / 4294967296) ∧
        e = .returned (d4 (s0 % 4294967296) (s1 % 4294967296) (s2 % 4294967296) (s3 % 4294967296))) ∧ Below w.heap.size w w' := by
  go_enter Tryz.func57, Tryz.ntmps57
  go_wp2
  refine wp_loop_rounds 5 ?_
  rw [rounds_succ]; go_wp2; go_quiet (fail); go_wp2
  rw [rounds_succ]; go_wp2; go_quiet (fail); go_wp2
  rw [rounds_succ]; go_wp2; go_quiet (fail); go_wp2
  rw [rounds_succ]; go_wp2; go_quiet (fail); go_wp2
  rw [rounds_succ]; go_wp2
  refine bodyPost_ret (v := d4 _ _ _ _) (by simp [results, Tryz.results57, go_sem]) rfl ⟨⟨_, _, _, _, rfl, rfl, rfl, rfl, rfl⟩, (by repeat' (first | (with_reducible exact Below.refl _ _) | (with_reducible refine Below.alloc ?_ ?_ _) | (with_reducible refine below_drewN ?_ _) | (with_reducible refine Below.drew ?_) | (with_reducible refine Below.setCell ?_ ?_ _) | (with_reducible refine Below.trans ?_ (Below.mono HW0.out ?_)) | (with_reducible refine Below.trans ?_ (Below.mono HW1.out ?_)) | (with_reducible refine Below.trans ?_ (Below.mono HW2.out ?_)) | (with_reducible refine Below.trans ?_ (Below.mono HW3.out ?_)) | (with_reducible refine Below.trans ?_ (Below.mono HW4.out ?_)) | (with_reducible refine Below.trans ?_ (Below.mono HW5.out ?_)) | (with_reducible refine Below.trans ?_ (Below.mono HW6.out ?_)) | (with_reducible refine Below.trans ?_ (Below.mono HW7.out ?_)) | (with_reducible exact Nat.le_refl _) | omega | (simp only [World.size_alloc, World.size_setCell, World.size_drew, size_drewN]; omega) | (simp; done) | (simp; omega)))⟩

theorem ret_bool {a b : Bool} (h : a = b) : Ending.returned (.bool a) = .returned (.bool b) := by rw [h]
theorem ret_dec {p q : Prop} [Decidable p] [Decidable q] (h : p ↔ q) : Ending.returned (.bool (decide p)) = .returned (.bool (decide q)) := by simp [h]

set_option maxHeartbeats 400000 in
set_option maxRecDepth 100000 in
theorem less_any (a0 a1 a2 a3 b0 b1 b2 b3 : Int) (w : World) (ha0 : 0 ≤ a0 ∧ a0 ≤ 4294967295) (ha1 : 0 ≤ a1 ∧ a1 ≤ 4294967295) (ha2 : 0 ≤ a2 ∧ a2 ≤ 4294967295) (ha3 : 0 ≤ a3 ∧ a3 ≤ 4294967295)
    (hb0 : 0 ≤ b0 ∧ b0 ≤ 4294967295) (hb1 : 0 ≤ b1 ∧ b1 ≤ 4294967295) (hb2 : 0 ≤ b2 ∧ b2 ≤ 4294967295) (hb3 : 0 ≤ b3 ∧ b3 ≤ 4294967295) :
    Calls Tryz.prog 53 #[d4 a0 a1 a2 a3, d4 b0 b1 b2 b3] w fun e w' => e = .returned (.bool (decide (V a0 a1 a2 a3 < V b0 b1 b2 b3))) ∧ Below w.heap.size w w' := by
  go_enter Tryz.func53, Tryz.ntmps53
  go_wp2
  refine wp_loop_rounds 5 ?_
  rw [rounds_succ]; go_wp2; go_quiet (fail); go_wp2
  · have h3 : a3 ≠ b3 := by simpa using ‹(a3 != b3) = true›
    go_quiet (fail); go_wp2; go_ret
    exact ⟨ret_dec (by unfold V; omega), (by repeat' (first | (with_reducible exact Below.refl _ _) | (with_reducible refine Below.alloc ?_ ?_ _) | (with_reducible refine below_drewN ?_ _) | (with_reducible refine Below.drew ?_) | (with_reducible refine Below.setCell ?_ ?_ _) | (with_reducible refine Below.trans ?_ (Below.mono HW0.out ?_)) | (with_reducible refine Below.trans ?_ (Below.mono HW1.out ?_)) | (with_reducible refine Below.trans ?_ (Below.mono HW2.out ?_)) | (with_reducible refine Below.trans ?_ (Below.mono HW3.out ?_)) | (with_reducible refine Below.trans ?_ (Below.mono HW4.out ?_)) | (with_reducible refine Below.trans ?_ (Below.mono HW5.out ?_)) | (with_reducible refine Below.trans ?_ (Below.mono HW6.out ?_)) | (with_reducible refine Below.trans ?_ (Below.mono HW7.out ?_)) | (with_reducible exact Nat.le_refl _) | omega | (simp only [World.size_alloc, World.size_setCell, World.size_drew, size_drewN]; omega) | (simp; done) | (simp; omega)))⟩
  have H3 := Lib.hid (show a3 = b3 by simpa using ‹(a3 != b3) = false›)
  rw [rounds_succ]; go_wp2; go_quiet (fail); go_wp2
  · have h2 : a2 ≠ b2 := by simpa using ‹(a2 != b2) = true›
    go_quiet (fail); go_wp2; go_ret
    have h3 := H3.out
    exact ⟨ret_dec (by unfold V; omega), (by repeat' (first | (with_reducible exact Below.refl _ _) | (with_reducible refine Below.alloc ?_ ?_ _) | (with_reducible refine below_drewN ?_ _) | (with_reducible refine Below.drew ?_) | (with_reducible refine Below.setCell ?_ ?_ _) | (with_reducible refine Below.trans ?_ (Below.mono HW0.out ?_)) | (with_reducible refine Below.trans ?_ (Below.mono HW1.out ?_)) | (with_reducible refine Below.trans ?_ (Below.mono HW2.out ?_)) | (with_reducible refine Below.trans ?_ (Below.mono HW3.out ?_)) | (with_reducible refine Below.trans ?_ (Below.mono HW4.out ?_)) | (with_reducible refine Below.trans ?_ (Below.mono HW5.out ?_)) | (with_reducible refine Below.trans ?_ (Below.mono HW6.out ?_)) | (with_reducible refine Below.trans ?_ (Below.mono HW7.out ?_)) | (with_reducible exact Nat.le_refl _) | omega | (simp only [World.size_alloc, World.size_setCell, World.size_drew, size_drewN]; omega) | (simp; done) | (simp; omega)))⟩
  have H2 := Lib.hid (show a2 = b2 by simpa using ‹(a2 != b2) = false›)
  rw [rounds_succ]; go_wp2; go_quiet (fail); go_wp2
  · have h1 : a1 ≠ b1 := by simpa using ‹(a1 != b1) = true›
    go_quiet (fail); go_wp2; go_ret
    have h3 := H3.out
    have h2 := H2.out
    exact ⟨ret_dec (by unfold V; omega), (by repeat' (first | (with_reducible exact Below.refl _ _) | (with_reducible refine Below.alloc ?_ ?_ _) | (with_reducible refine below_drewN ?_ _) | (with_reducible refine Below.drew ?_) | (with_reducible refine Below.setCell ?_ ?_ _) | (with_reducible refine Below.trans ?_ (Below.mono HW0.out ?_)) | (with_reducible refine Below.trans ?_ (Below.mono HW1.out ?_)) | (with_reducible refine Below.trans ?_ (Below.mono HW2.out ?_)) | (with_reducible refine Below.trans ?_ (Below.mono HW3.out ?_)) | (with_reducible refine Below.trans ?_ (Below.mono HW4.out ?_)) | (with_reducible refine Below.trans ?_ (Below.mono HW5.out ?_)) | (with_reducible refine Below.trans ?_ (Below.mono HW6.out ?_)) | (with_reducible refine Below.trans ?_ (Below.mono HW7.out ?_)) | (with_reducible exact Nat.le_refl _) | omega | (simp only [World.size_alloc, World.size_setCell, World.size_drew, size_drewN]; omega) | (simp; done) | (simp; omega)))⟩
  have H1 := Lib.hid (show a1 = b1 by simpa using ‹(a1 != b1) = false›)
  rw [rounds_succ]; go_wp2; go_quiet (fail); go_wp2
  · have h0 : a0 ≠ b0 := by simpa using ‹(a0 != b0) = true›
    go_quiet (fail); go_wp2; go_ret
    have h3 := H3.out
    have h2 := H2.out
    have h1 := H1.out
    exact ⟨ret_dec (by unfold V; omega), (by repeat' (first | (with_reducible exact Below.refl _ _) | (with_reducible refine Below.alloc ?_ ?_ _) | (with_reducible refine below_drewN ?_ _) | (with_reducible refine Below.drew ?_) | (with_reducible refine Below.setCell ?_ ?_ _) | (with_reducible refine Below.trans ?_ (Below.mono HW0.out ?_)) | (with_reducible refine Below.trans ?_ (Below.mono HW1.out ?_)) | (with_reducible refine Below.trans ?_ (Below.mono HW2.out ?_)) | (with_reducible refine Below.trans ?_ (Below.mono HW3.out ?_)) | (with_reducible refine Below.trans ?_ (Below.mono HW4.out ?_)) | (with_reducible refine Below.trans ?_ (Below.mono HW5.out ?_)) | (with_reducible refine Below.trans ?_ (Below.mono HW6.out ?_)) | (with_reducible refine Below.trans ?_ (Below.mono HW7.out ?_)) | (with_reducible exact Nat.le_refl _) | omega | (simp only [World.size_alloc, World.size_setCell, World.size_drew, size_drewN]; omega) | (simp; done) | (simp; omega)))⟩
  have H0 := Lib.hid (show a0 = b0 by simpa using ‹(a0 != b0) = false›)
  rw [rounds_succ]; go_wp2; go_ret
  have h3 := H3.out
  have h2 := H2.out
  have h1 := H1.out
  have h0 := H0.out
  exact ⟨ret_bool (by symm; rw [decide_eq_false_iff_not]; unfold V; omega), (by repeat' (first | (with_reducible exact Below.refl _ _) | (with_reducible refine Below.alloc ?_ ?_ _) | (with_reducible refine below_drewN ?_ _) | (with_reducible refine Below.drew ?_) | (with_reducible refine Below.setCell ?_ ?_ _) | (with_reducible refine Below.trans ?_ (Below.mono HW0.out ?_)) | (with_reducible refine Below.trans ?_ (Below.mono HW1.out ?_)) | (with_reducible refine Below.trans ?_ (Below.mono HW2.out ?_)) | (with_reducible refine Below.trans ?_ (Below.mono HW3.out ?_)) | (with_reducible refine Below.trans ?_ (Below.mono HW4.out ?_)) | (with_reducible refine Below.trans ?_ (Below.mono HW5.out ?_)) | (with_reducible refine Below.trans ?_ (Below.mono HW6.out ?_)) | (with_reducible refine Below.trans ?_ (Below.mono HW7.out ?_)) | (with_reducible exact Nat.le_refl _) | omega | (simp only [World.size_alloc, World.size_setCell, World.size_drew, size_drewN]; omega) | (simp; done) | (simp; omega)))⟩
end Go.Proofs.YtbjjgnaojoaoiaaGreat
/- Sorting in place, in plain words: exchange, exchange of ranges, rotation, and the order by a key and by place. -/
namespace Go.Proofs.YtbjjgnaojoaoiaaGreat
set_option linter.unusedVariables false
set_option linter.unusedSimpArgs false

abbrev gt (d : List Int) (p : Nat) : Int := d.getD p 0
def swp (d : List Int) (i j : Nat) : List Int := (d.set i (gt d j)).set j (gt d i)
theorem gt_set (d : List Int) (i : Nat) (v : Int) (p : Nat) (hi : i < d.length) : gt (d.set i v) p = if p = i then v else gt d p := by
  unfold gt
  rw [List.getD_eq_getElem?_getD, List.getElem?_set, List.getD_eq_getElem?_getD]
  by_cases h : p = i
  · subst h; simp [hi]
  · rw [if_neg (by omega), if_neg h]
theorem swp_len (d : List Int) (i j : Nat) : (swp d i j).length = d.length := by simp [swp]
theorem gt_swp (d : List Int) (i j p : Nat) (hi : i < d.length) (hj : j < d.length) : gt (swp d i j) p = if p = j then gt d i else if p = i then gt d j else gt d p := by
  unfold swp
  rw [gt_set _ _ _ _ (by simpa using hj), gt_set _ _ _ _ hi]
theorem gt_eq (d : List Int) (i : Nat) (hi : i < d.length) : gt d i = d[i] := by simp [gt, hi]
theorem swp_perm (d : List Int) (i j : Nat) (hi : i < d.length) (hj : j < d.length) : (swp d i j).Perm d := by
  rw [List.perm_iff_count]
  intro x
  unfold swp
  rw [List.count_set (by simpa using hj), List.count_set hi, List.getElem_set]
  have e1 := gt_eq d i hi
  have e2 := gt_eq d j hj
  have c1 : (d[i] == x) = true → 1 ≤ d.count x := fun h => List.one_le_count_iff.2 (by rw [← beq_iff_eq.1 h]; exact List.getElem_mem hi)
  by_cases hij : i = j
  · subst hij
    simp only [if_true, e1]
    by_cases h1 : (d[i] == x) = true
    · have := c1 h1; simp [h1]; omega
    · simp [h1]
  · simp only [hij, if_false, e1, e2]
    by_cases h1 : (d[i] == x) = true <;> by_cases h2 : (d[j] == x) = true
    all_goals simp [h1, h2]
    · have := c1 h1; omega
    · have := c1 h1; omega
/-- Only places lo .. hi have turned, among themselves. -/
structure PIn (lo hi : Nat) (d d' : List Int) : Prop where
  len : d'.length = d.length
  out : ∀ p, (p < lo ∨ hi ≤ p) → gt d' p = gt d p
  mem : ∀ p, lo ≤ p → p < hi → ∃ q, lo ≤ q ∧ q < hi ∧ gt d' p = gt d q
  perm : d'.Perm d
theorem PIn.refl (lo hi : Nat) (d : List Int) : PIn lo hi d d := ⟨rfl, fun _ _ => rfl, fun p h1 h2 => ⟨p, h1, h2, rfl⟩, List.Perm.refl _⟩
theorem PIn.trans {lo hi : Nat} {a b c : List Int} (h1 : PIn lo hi a b) (h2 : PIn lo hi b c) : PIn lo hi a c :=
  ⟨h2.len.trans h1.len, fun p hp => (h2.out p hp).trans (h1.out p hp), fun p hp hq => by
    obtain ⟨q, q1, q2, e⟩ := h2.mem p hp hq
    obtain ⟨r, r1, r2, e'⟩ := h1.mem q q1 q2
    exact ⟨r, r1, r2, e.trans e'⟩, h2.perm.trans h1.perm⟩
theorem PIn.wide {lo hi lo' hi' : Nat} {a b : List Int} (h : PIn lo hi a b) (h1 : lo' ≤ lo) (h2 : hi ≤ hi') : PIn lo' hi' a b :=
  ⟨h.len, fun p hp => h.out p (by omega), fun p hp hq => by
    by_cases hin : lo ≤ p ∧ p < hi
    · obtain ⟨q, q1, q2, e⟩ := h.mem p hin.1 hin.2
      exact ⟨q, by omega, by omega, e⟩
    · exact ⟨p, hp, hq, h.out p (by omega)⟩, h.perm⟩
theorem PIn.swp {lo hi i j : Nat} {d : List Int} (hi1 : lo ≤ i) (hi2 : i < hi) (hj1 : lo ≤ j) (hj2 : j < hi) (hl : hi ≤ d.length) : PIn lo hi d (swp d i j) :=
  ⟨swp_len d i j, fun p hp => by rw [gt_swp _ _ _ _ (by omega) (by omega), if_neg (by omega), if_neg (by omega)], fun p h1 h2 => by
    rw [gt_swp _ _ _ _ (by omega) (by omega)]
    by_cases e1 : p = j
    · exact ⟨i, hi1, hi2, by rw [if_pos e1]⟩
    · by_cases e2 : p = i
      · exact ⟨j, hj1, hj2, by rw [if_neg e1, if_pos e2]⟩
      · exact ⟨p, h1, h2, by rw [if_neg e1, if_neg e2]⟩, swp_perm d i j (by omega) (by omega)⟩

/-- i of n exchanges of the range at a with that at b are done. -/
structure Swd (a b i : Nat) (d d' : List Int) : Prop where
  one : ∀ t, t < i → gt d' (a + t) = gt d (b + t)
  two : ∀ t, t < i → gt d' (b + t) = gt d (a + t)
  out : ∀ p, (p < a ∨ a + i ≤ p) → (p < b ∨ b + i ≤ p) → gt d' p = gt d p
  len : d'.length = d.length
  perm : d'.Perm d
theorem Swd.refl (a b : Nat) (d : List Int) : Swd a b 0 d d := ⟨fun t h => by omega, fun t h => by omega, fun _ _ _ => rfl, rfl, List.Perm.refl _⟩
theorem Swd.step {a b i : Nat} {d d' : List Int} (h : Swd a b i d d') (hab : a + i < b) (hl : b + i < d.length) : Swd a b (i + 1) d (swp d' (a + i) (b + i)) := by
  have hl' := h.len
  have g := fun p => gt_swp d' (a + i) (b + i) p (by omega) (by omega)
  refine ⟨fun t ht => ?_, fun t ht => ?_, fun p h1 h2 => ?_, (swp_len _ _ _).trans h.len, (swp_perm _ _ _ (by omega) (by omega)).trans h.perm⟩
  · rw [g]
    by_cases e : t = i
    · subst e; rw [if_neg (by omega), if_pos rfl]; exact h.out _ (by omega) (by omega)
    · rw [if_neg (by omega), if_neg (by omega)]; exact h.one t (by omega)
  · rw [g]
    by_cases e : t = i
    · subst e; rw [if_pos rfl]; exact h.out _ (by omega) (by omega)
    · rw [if_neg (by omega), if_neg (by omega)]; exact h.two t (by omega)
  · rw [g, if_neg (by omega), if_neg (by omega)]; exact h.out p (by omega) (by omega)

/-- The place that a rotation brings to p. -/
def rot (d : List Int) (a m b p : Nat) : Int := if p < a + (b - m) then gt d (p + (m - a)) else gt d (p - (b - m))
/-- A rotation under way: i places ahead of m and j behind it are still to be turned. -/
structure RotAt (a m b i j : Nat) (d d' : List Int) : Prop where
  i1 : 1 ≤ i
  j1 : 1 ≤ j
  ia : a + i ≤ m
  jb : m + j ≤ b
  done : ∀ p, a ≤ p → p < b → (p < m - i ∨ m + j ≤ p) → gt d' p = rot d a m b p
  back : ∀ q, m ≤ q → q < m + j → gt d' q = rot d a m b (q - i)
  fore : ∀ q, m - i ≤ q → q < m → gt d' q = rot d a m b (q + j)
  out : ∀ p, (p < a ∨ b ≤ p) → gt d' p = gt d p
  len : d'.length = d.length
  perm : d'.Perm d
theorem RotAt.start {a m b : Nat} {d : List Int} (h1 : a < m) (h2 : m < b) : RotAt a m b (m - a) (b - m) d d := by
  refine ⟨by omega, by omega, by omega, by omega, fun p h1 h2 h3 => by omega, fun q q1 q2 => ?_, fun q q1 q2 => ?_, fun _ _ => rfl, rfl, List.Perm.refl _⟩
  · unfold rot; rw [if_pos (by omega)]; congr 1; omega
  · unfold rot; rw [if_neg (by omega)]; congr 1; omega
theorem RotAt.fst {a m b i j : Nat} {d d1 d2 : List Int} (h : RotAt a m b i j d d1) (hij : j < i) (hs : Swd (m - i) m j d1 d2) : RotAt a m b (i - j) j d d2 := by
  have ⟨i1, j1, ia, jb, done, back, fore, out, len, perm⟩ := h
  refine ⟨by omega, by omega, by omega, jb, fun p p1 p2 p3 => ?_, fun q q1 q2 => ?_, fun q q1 q2 => ?_, fun p hp => ?_, hs.len.trans len, hs.perm.trans perm⟩
  · by_cases hp : m - i ≤ p ∧ p < m - i + j
    · have e := hs.one (p - (m - i)) (by omega)
      rw [show m - i + (p - (m - i)) = p by omega] at e
      rw [e, back _ (by omega) (by omega)]; congr 1; omega
    · rw [hs.out p (by omega) (by omega)]; exact done p p1 p2 (by omega)
  · have e := hs.two (q - m) (by omega)
    rw [show m + (q - m) = q by omega] at e
    rw [e, fore _ (by omega) (by omega)]; congr 1; omega
  · rw [hs.out q (by omega) (by omega)]; exact fore q (by omega) (by omega)
  · rw [hs.out p (by omega) (by omega)]; exact out p hp
theorem RotAt.snd {a m b i j : Nat} {d d1 d2 : List Int} (h : RotAt a m b i j d d1) (hij : i < j) (hs : Swd (m - i) (m + j - i) i d1 d2) : RotAt a m b i (j - i) d d2 := by
  have ⟨i1, j1, ia, jb, done, back, fore, out, len, perm⟩ := h
  refine ⟨by omega, by omega, by omega, by omega, fun p p1 p2 p3 => ?_, fun q q1 q2 => ?_, fun q q1 q2 => ?_, fun p hp => ?_, hs.len.trans len, hs.perm.trans perm⟩
  · by_cases hp : m + j - i ≤ p ∧ p < m + j
    · have e := hs.two (p - (m + j - i)) (by omega)
      rw [show m + j - i + (p - (m + j - i)) = p by omega] at e
      rw [e, fore _ (by omega) (by omega)]; congr 1; omega
    · rw [hs.out p (by omega) (by omega)]; exact done p p1 p2 (by omega)
  · rw [hs.out q (by omega) (by omega)]; exact back q (by omega) (by omega)
  · have e := hs.one (q - (m - i)) (by omega)
    rw [show m - i + (q - (m - i)) = q by omega] at e
    rw [e, back _ (by omega) (by omega)]; congr 1; omega
  · rw [hs.out p (by omega) (by omega)]; exact out p hp
/-- A rotation. -/
structure Rotd (a m b : Nat) (d d' : List Int) : Prop where
  is : ∀ p, a ≤ p → p < b → gt d' p = rot d a m b p
  out : ∀ p, (p < a ∨ b ≤ p) → gt d' p = gt d p
  len : d'.length = d.length
  perm : d'.Perm d
theorem RotAt.last {a m b i : Nat} {d d1 d2 : List Int} (h : RotAt a m b i i d d1) (hs : Swd (m - i) m i d1 d2) : Rotd a m b d d2 := by
  have ⟨i1, j1, ia, jb, done, back, fore, out, len, perm⟩ := h
  refine ⟨fun p p1 p2 => ?_, fun p hp => ?_, hs.len.trans len, hs.perm.trans perm⟩
  · by_cases hp : m - i ≤ p ∧ p < m
    · have e := hs.one (p - (m - i)) (by omega)
      rw [show m - i + (p - (m - i)) = p by omega] at e
      rw [e, back _ (by omega) (by omega)]; congr 1; omega
    · by_cases hp2 : m ≤ p ∧ p < m + i
      · have e := hs.two (p - m) (by omega)
        rw [show m + (p - m) = p by omega] at e
        rw [e, fore _ (by omega) (by omega)]; congr 1; omega
      · rw [hs.out p (by omega) (by omega)]; exact done p p1 p2 (by omega)
  · rw [hs.out p (by omega) (by omega)]; exact out p hp
theorem Rotd.pin {a m b : Nat} {d d' : List Int} (h : Rotd a m b d d') (h1 : a ≤ m) (h2 : m ≤ b) : PIn a b d d' :=
  ⟨h.len, h.out, fun p p1 p2 => by
    rw [h.is p p1 p2]; unfold rot
    by_cases e : p < a + (b - m)
    · exact ⟨p + (m - a), by omega, by omega, if_pos e⟩
    · exact ⟨p - (b - m), by omega, by omega, if_neg e⟩, h.perm⟩

/-- The order: greater keys ahead; of one key the lesser number. -/
def Rk (f : Int → Int) (x y : Int) : Prop := f y < f x ∨ (f x = f y ∧ x < y)
theorem Rk.trans {f : Int → Int} {x y z : Int} (h1 : Rk f x y) (h2 : Rk f y z) : Rk f x z := by unfold Rk at *; omega
def Srt (f : Int → Int) (a b : Nat) (d : List Int) : Prop := ∀ p q, a ≤ p → p < q → q < b → Rk f (gt d p) (gt d q)
/-- Whatever stands at a .. m is less than whatever stands at m .. b. -/
def Crs (a m b : Nat) (d : List Int) : Prop := ∀ p q, a ≤ p → p < m → m ≤ q → q < b → gt d p < gt d q
theorem Srt.sub {f : Int → Int} {a b a' b' : Nat} {d : List Int} (h : Srt f a b d) (h1 : a ≤ a') (h2 : b' ≤ b) : Srt f a' b' d := fun p q p1 p2 p3 => h p q (by omega) p2 (by omega)
theorem Srt.same {f : Int → Int} {a b : Nat} {d d' : List Int} (h : Srt f a b d) (he : ∀ p, a ≤ p → p < b → gt d' p = gt d p) : Srt f a b d' := fun p q p1 p2 p3 => by
  rw [he p p1 (by omega), he q (by omega) p3]; exact h p q p1 p2 p3
theorem Srt.one {f : Int → Int} {a b : Nat} {d : List Int} (h : b ≤ a + 1) : Srt f a b d := fun p q p1 p2 p3 => by omega
end Go.Proofs.YtbjjgnaojoaoiaaGreat
/- Merging in place, and insertion, in plain words. -/
namespace Go.Proofs.YtbjjgnaojoaoiaaGreat
set_option linter.unusedVariables false
set_option linter.unusedSimpArgs false

/-- A search by halves: nothing ahead of s is, whatever is at r or behind is. -/
def Bse (lo hi : Nat) (C : Nat → Prop) (s r : Nat) : Prop := lo ≤ s ∧ s ≤ r ∧ r ≤ hi ∧ (s = lo ∨ ¬ C (s - 1)) ∧ (r = hi ∨ C r)
theorem Bse.start {lo hi : Nat} {C : Nat → Prop} (h : lo ≤ hi) : Bse lo hi C lo hi := ⟨Nat.le_refl _, h, Nat.le_refl _, .inl rfl, .inl rfl⟩
theorem Bse.yes {lo hi : Nat} {C : Nat → Prop} {s r : Nat} (h : Bse lo hi C s r) (hlt : s < r) (hc : C ((s + r) / 2)) : Bse lo hi C s ((s + r) / 2) :=
  ⟨h.1, by omega, by have := h.2.2.1; omega, h.2.2.2.1, .inr hc⟩
theorem Bse.no {lo hi : Nat} {C : Nat → Prop} {s r : Nat} (h : Bse lo hi C s r) (hlt : s < r) (hc : ¬ C ((s + r) / 2)) : Bse lo hi C ((s + r) / 2 + 1) r :=
  ⟨by have := h.1; omega, by omega, h.2.2.1, .inr hc, h.2.2.2.2⟩

/-- What stands behind the turning of start .. e about m. -/
structure Halves (f : Int → Int) (a start mid e b : Nat) (d : List Int) : Prop where
  s1 : Srt f a start d
  s2 : Srt f start mid d
  c1 : Crs a start mid d
  s3 : Srt f mid e d
  s4 : Srt f e b d
  c2 : Crs mid e b d
  x : ∀ p q, a ≤ p → p < mid → mid ≤ q → q < b → Rk f (gt d p) (gt d q)
theorem halves {f : Int → Int} {a m b start mid e : Nat} {d d' : List Int} (hs : Srt f a m d) (ht : Srt f m b d) (hc : Crs a m b d) (h1 : a ≤ start) (h2 : start ≤ m) (h3 : m ≤ e) (h4 : e ≤ b) (h5 : start + e = mid + m)
    (hl : start = a ∨ e = b ∨ ¬ f (gt d (start - 1)) < f (gt d e)) (hh : start = m ∨ e = m ∨ f (gt d start) < f (gt d (e - 1)))
    (hd : ∀ p, start ≤ p → p < e → gt d' p = rot d start m e p) (ho : ∀ p, (p < start ∨ e ≤ p) → gt d' p = gt d p) : Halves f a start mid e b d' := by
  have g1 : ∀ p, p < start → gt d' p = gt d p := fun p h => ho p (.inl h)
  have g2 : ∀ p, start ≤ p → p < mid → gt d' p = gt d (p + (m - start)) := fun p p1 p2 => by rw [hd p p1 (by omega)]; unfold rot; rw [if_pos (by omega)]
  have g3 : ∀ p, mid ≤ p → p < e → gt d' p = gt d (p - (e - m)) := fun p p1 p2 => by rw [hd p (by omega) p2]; unfold rot; rw [if_neg (by omega)]
  have g4 : ∀ p, e ≤ p → gt d' p = gt d p := fun p h => ho p (.inr h)
  have X1 : ∀ i j, a ≤ i → i < start → e ≤ j → j < b → Rk f (gt d i) (gt d j) := fun i j i1 i2 j1 j2 => by
    have hlast : Rk f (gt d (start - 1)) (gt d e) := by
      have hx := hc (start - 1) e (by omega) (by omega) (by omega) (by omega)
      rcases hl with h | h | h
      · omega
      · omega
      · unfold Rk; omega
    have l1 : i = start - 1 ∨ Rk f (gt d i) (gt d (start - 1)) := by
      by_cases h : i = start - 1
      · exact .inl h
      · exact .inr (hs i (start - 1) i1 (by omega) (by omega))
    have l2 : j = e ∨ Rk f (gt d e) (gt d j) := by
      by_cases h : j = e
      · exact .inl h
      · exact .inr (ht e j h3 (by omega) j2)
    rcases l1 with rfl | l1 <;> rcases l2 with rfl | l2
    · exact hlast
    · exact hlast.trans l2
    · exact l1.trans hlast
    · exact (l1.trans hlast).trans l2
  have X2 : ∀ j i, m ≤ j → j < e → start ≤ i → i < m → Rk f (gt d j) (gt d i) := fun j i j1 j2 i1 i2 => by
    have hfst : Rk f (gt d (e - 1)) (gt d start) := by
      rcases hh with h | h | h
      · omega
      · omega
      · exact .inl h
    have l1 : j = e - 1 ∨ Rk f (gt d j) (gt d (e - 1)) := by
      by_cases h : j = e - 1
      · exact .inl h
      · exact .inr (ht j (e - 1) j1 (by omega) (by omega))
    have l2 : i = start ∨ Rk f (gt d start) (gt d i) := by
      by_cases h : i = start
      · exact .inl h
      · exact .inr (hs start i h1 (by omega) i2)
    rcases l1 with rfl | l1 <;> rcases l2 with rfl | l2
    · exact hfst
    · exact hfst.trans l2
    · exact l1.trans hfst
    · exact (l1.trans hfst).trans l2
  refine ⟨fun p q p1 p2 p3 => ?_, fun p q p1 p2 p3 => ?_, fun p q p1 p2 p3 p4 => ?_, fun p q p1 p2 p3 => ?_, fun p q p1 p2 p3 => ?_, fun p q p1 p2 p3 p4 => ?_, fun p q p1 p2 p3 p4 => ?_⟩
  · rw [g1 p (by omega), g1 q (by omega)]; exact hs p q p1 p2 (by omega)
  · rw [g2 p (by omega) (by omega), g2 q (by omega) (by omega)]; exact ht _ _ (by omega) (by omega) (by omega)
  · rw [g1 p (by omega), g2 q (by omega) (by omega)]; exact hc _ _ (by omega) (by omega) (by omega) (by omega)
  · rw [g3 p (by omega) (by omega), g3 q (by omega) (by omega)]; exact hs _ _ (by omega) (by omega) (by omega)
  · rw [g4 p (by omega), g4 q (by omega)]; exact ht _ _ (by omega) (by omega) (by omega)
  · rw [g3 p (by omega) (by omega), g4 q (by omega)]; exact hc _ _ (by omega) (by omega) (by omega) (by omega)
  · by_cases hp : p < start <;> by_cases hq : q < e
    · rw [g1 p hp, g3 q p3 hq]; exact hs _ _ (by omega) (by omega) (by omega)
    · rw [g1 p hp, g4 q (by omega)]; exact X1 _ _ (by omega) (by omega) (by omega) (by omega)
    · rw [g2 p (by omega) (by omega), g3 q p3 hq]; exact X2 _ _ (by omega) (by omega) (by omega) (by omega)
    · rw [g2 p (by omega) (by omega), g4 q (by omega)]; exact ht _ _ (by omega) (by omega) (by omega)
theorem Crs.pin {a m b : Nat} {d d' : List Int} (h : Crs a m b d) (h1 : PIn a m d d') : Crs a m b d' := fun p q p1 p2 p3 p4 => by
  obtain ⟨r, r1, r2, e⟩ := h1.mem p p1 p2
  rw [e, h1.out q (by omega)]; exact h r q r1 r2 p3 p4
theorem halves_done {f : Int → Int} {a mid b : Nat} {d d2 d3 : List Int} (hm : a ≤ mid) (hb : mid ≤ b) (hx : ∀ p q, a ≤ p → p < mid → mid ≤ q → q < b → Rk f (gt d p) (gt d q)) (h1 : PIn a mid d d2) (s1 : Srt f a mid d2) (h2 : PIn mid b d2 d3) (s2 : Srt f mid b d3) :
    Srt f a b d3 := fun p q p1 p2 p3 => by
  by_cases hq : q < mid
  · rw [h2.out p (by omega), h2.out q (by omega)]; exact s1 p q p1 p2 hq
  · by_cases hp : mid ≤ p
    · exact s2 p q hp p2 p3
    · obtain ⟨r, r1, r2, e⟩ := h1.mem p p1 (by omega)
      obtain ⟨t, t1, t2, e2⟩ := h2.mem q (by omega) p3
      rw [h2.out p (by omega), e, e2, h1.out t (by omega)]
      exact hx r t r1 r2 t1 t2

/-- The first one on its way up: at k, of a .. -/
structure Up (a k : Nat) (d d' : List Int) : Prop where
  ahead : ∀ p, a ≤ p → p < k → gt d' p = gt d (p + 1)
  here : gt d' k = gt d a
  out : ∀ p, (p < a ∨ k < p) → gt d' p = gt d p
  len : d'.length = d.length
  perm : d'.Perm d
theorem Up.start (a : Nat) (d : List Int) : Up a a d d := ⟨fun p h1 h2 => by omega, rfl, fun _ _ => rfl, rfl, List.Perm.refl _⟩
theorem Up.step {a k : Nat} {d d' : List Int} (h : Up a k d d') (hak : a ≤ k) (hl : k + 1 < d.length) : Up a (k + 1) d (swp d' k (k + 1)) := by
  have hl' := h.len
  have g := fun p => gt_swp d' k (k + 1) p (by omega) (by omega)
  refine ⟨fun p p1 p2 => ?_, ?_, fun p hp => ?_, (swp_len _ _ _).trans h.len, (swp_perm _ _ _ (by omega) (by omega)).trans h.perm⟩
  · rw [g, if_neg (by omega)]
    by_cases e : p = k
    · subst e; rw [if_pos rfl]; exact h.out _ (by omega)
    · rw [if_neg e]; exact h.ahead p p1 (by omega)
  · rw [g, if_pos rfl]; exact h.here
  · rw [g, if_neg (by omega), if_neg (by omega)]; exact h.out p (by omega)
theorem Up.pin {a k : Nat} {d d' : List Int} (h : Up a k d d') (hak : a ≤ k) {b : Nat} (hb : k < b) : PIn a b d d' :=
  ⟨h.len, fun p hp => h.out p (by omega), fun p p1 p2 => by
    by_cases e1 : p < k
    · exact ⟨p + 1, by omega, by omega, h.ahead p p1 e1⟩
    · by_cases e2 : p = k
      · subst e2; exact ⟨a, by omega, by omega, h.here⟩
      · exact ⟨p, p1, p2, h.out p (by omega)⟩, h.perm⟩
theorem Up.sorted {f : Int → Int} {a b i : Nat} {d d' : List Int} (ht : Srt f (a + 1) b d) (hc : Crs a (a + 1) b d) (hi : Bse (a + 1) b (fun h => ¬ f (gt d a) < f (gt d h)) i i) (h : Up a (i - 1) d d') : Srt f a b d' := by
  obtain ⟨b1, _, b3, b4, b5⟩ := hi
  have L : ∀ p, a + 1 ≤ p → p < i → Rk f (gt d p) (gt d a) := fun p p1 p2 => by
    have hl : Rk f (gt d (i - 1)) (gt d a) := by
      rcases b4 with h | h
      · omega
      · exact .inl (by omega)
    by_cases e : p = i - 1
    · subst e; exact hl
    · exact (ht p (i - 1) p1 (by omega) (by omega)).trans hl
  have H : ∀ p, i ≤ p → p < b → Rk f (gt d a) (gt d p) := fun p p1 p2 => by
    have hl : Rk f (gt d a) (gt d i) := by
      have hx := hc a i (by omega) (by omega) b1 (by omega)
      rcases b5 with h | h
      · omega
      · unfold Rk; omega
    by_cases e : p = i
    · subst e; exact hl
    · exact hl.trans (ht i p b1 (by omega) p2)
  intro p q p1 p2 p3
  by_cases hp : p < i - 1 <;> by_cases hq : q < i - 1
  · rw [h.ahead p p1 hp, h.ahead q (by omega) hq]; exact ht _ _ (by omega) (by omega) (by omega)
  · rw [h.ahead p p1 hp]
    by_cases e : q = i - 1
    · subst e; rw [h.here]; exact L _ (by omega) (by omega)
    · rw [h.out q (by omega)]; exact ht _ _ (by omega) (by omega) (by omega)
  · omega
  · by_cases e : p = i - 1
    · subst e; rw [h.here, h.out q (by omega)]; exact H _ (by omega) (by omega)
    · rw [h.out p (by omega), h.out q (by omega)]; exact ht _ _ (by omega) (by omega) (by omega)

/-- The last one on its way down: at k, from m. -/
structure Down (m k : Nat) (d d' : List Int) : Prop where
  behind : ∀ p, k < p → p ≤ m → gt d' p = gt d (p - 1)
  here : gt d' k = gt d m
  out : ∀ p, (p < k ∨ m < p) → gt d' p = gt d p
  len : d'.length = d.length
  perm : d'.Perm d
theorem Down.start (m : Nat) (d : List Int) : Down m m d d := ⟨fun p h1 h2 => by omega, rfl, fun _ _ => rfl, rfl, List.Perm.refl _⟩
theorem Down.step {m k : Nat} {d d' : List Int} (h : Down m (k + 1) d d') (hk : k + 1 ≤ m) (hl : m < d.length) : Down m k d (swp d' (k + 1) k) := by
  have hl' := h.len
  have g := fun p => gt_swp d' (k + 1) k p (by omega) (by omega)
  refine ⟨fun p p1 p2 => ?_, ?_, fun p hp => ?_, (swp_len _ _ _).trans h.len, (swp_perm _ _ _ (by omega) (by omega)).trans h.perm⟩
  · rw [g, if_neg (by omega)]
    by_cases e : p = k + 1
    · subst e; rw [if_pos rfl]; exact h.out _ (by omega)
    · rw [if_neg e]; exact h.behind p (by omega) p2
  · rw [g, if_pos rfl]; exact h.here
  · rw [g, if_neg (by omega), if_neg (by omega)]; exact h.out p (by omega)
theorem Down.pin {m k : Nat} {d d' : List Int} (h : Down m k d d') (hk : k ≤ m) {a b : Nat} (ha : a ≤ k) (hb : m < b) : PIn a b d d' :=
  ⟨h.len, fun p hp => h.out p (by omega), fun p p1 p2 => by
    by_cases e1 : k < p ∧ p ≤ m
    · exact ⟨p - 1, by omega, by omega, h.behind p e1.1 e1.2⟩
    · by_cases e2 : p = k
      · subst e2; exact ⟨m, by omega, by omega, h.here⟩
      · exact ⟨p, p1, p2, h.out p (by omega)⟩, h.perm⟩
theorem Down.sorted {f : Int → Int} {a m i : Nat} {d d' : List Int} (hs : Srt f a m d) (hc : Crs a m (m + 1) d) (hi : Bse a m (fun h => f (gt d h) < f (gt d m)) i i) (h : Down m i d d') : Srt f a (m + 1) d' := by
  obtain ⟨b1, _, b3, b4, b5⟩ := hi
  have L : ∀ p, a ≤ p → p < i → Rk f (gt d p) (gt d m) := fun p p1 p2 => by
    have hl : Rk f (gt d (i - 1)) (gt d m) := by
      have hx := hc (i - 1) m (by omega) (by omega) (by omega) (by omega)
      rcases b4 with h | h
      · omega
      · unfold Rk; omega
    by_cases e : p = i - 1
    · subst e; exact hl
    · exact (hs p (i - 1) p1 (by omega) (by omega)).trans hl
  have H : ∀ p, i ≤ p → p < m → Rk f (gt d m) (gt d p) := fun p p1 p2 => by
    have hl : Rk f (gt d m) (gt d i) := by
      rcases b5 with h | h
      · omega
      · exact .inl h
    by_cases e : p = i
    · subst e; exact hl
    · exact hl.trans (hs i p b1 (by omega) p2)
  intro p q p1 p2 p3
  by_cases hp : p < i
  · rw [h.out p (by omega)]
    by_cases hq : q < i
    · rw [h.out q (by omega)]; exact hs _ _ (by omega) (by omega) (by omega)
    · by_cases e : q = i
      · subst e; rw [h.here]; exact L _ (by omega) (by omega)
      · rw [h.behind q (by omega) (by omega)]; exact hs _ _ (by omega) (by omega) (by omega)
  · by_cases e : p = i
    · subst e; rw [h.here, h.behind q (by omega) (by omega)]; exact H _ (by omega) (by omega)
    · rw [h.behind p (by omega) (by omega), h.behind q (by omega) (by omega)]; exact hs _ _ (by omega) (by omega) (by omega)

/-- Insertion under way: all of a .. i but the one at j are sorted, it stands ahead of those behind it; it is the greatest of all. -/
structure Ins (f : Int → Int) (a i j : Nat) (d : List Int) : Prop where
  rest : ∀ p q, a ≤ p → p < q → q ≤ i → p ≠ j → q ≠ j → Rk f (gt d p) (gt d q)
  behind : ∀ q, j < q → q ≤ i → Rk f (gt d j) (gt d q)
  most : ∀ p, a ≤ p → p ≤ i → p ≠ j → gt d p < gt d j
theorem Ins.start {f : Int → Int} {a i : Nat} {d : List Int} (h : Srt f a i d) (hm : ∀ p, a ≤ p → p < i → gt d p < gt d i) : Ins f a i i d :=
  ⟨fun p q p1 p2 p3 p4 p5 => h p q p1 p2 (by omega), fun q h1 h2 => by omega, fun p p1 p2 p3 => hm p p1 (by omega)⟩
theorem Ins.step {f : Int → Int} {a i j : Nat} {d : List Int} (h : Ins f a i (j + 1) d) (haj : a ≤ j) (hji : j + 1 ≤ i) (hl : i < d.length) (hlt : f (gt d j) < f (gt d (j + 1))) : Ins f a i j (swp d (j + 1) j) := by
  have g := fun p => gt_swp d (j + 1) j p (by omega) (by omega)
  have gj : gt (swp d (j + 1) j) j = gt d (j + 1) := by rw [g, if_pos rfl]
  have gj1 : gt (swp d (j + 1) j) (j + 1) = gt d j := by rw [g, if_neg (by omega), if_pos rfl]
  have go : ∀ p, p ≠ j → p ≠ j + 1 → gt (swp d (j + 1) j) p = gt d p := fun p h1 h2 => by rw [g, if_neg h1, if_neg h2]
  refine ⟨fun p q p1 p2 p3 p4 p5 => ?_, fun q q1 q2 => ?_, fun p p1 p2 p3 => ?_⟩
  · by_cases e1 : p = j + 1
    · subst e1; rw [gj1, go q (by omega) (by omega)]; exact h.rest j q haj (by omega) p3 (by omega) (by omega)
    · rw [go p p4 e1]
      by_cases e2 : q = j + 1
      · subst e2; rw [gj1]; exact h.rest p j p1 (by omega) (by omega) (by omega) (by omega)
      · rw [go q p5 e2]; exact h.rest p q p1 p2 p3 e1 e2
  · rw [gj]
    by_cases e : q = j + 1
    · subst e; rw [gj1]; exact .inl hlt
    · rw [go q (by omega) e]; exact h.behind q (by omega) q2
  · rw [gj]
    by_cases e : p = j + 1
    · subst e; rw [gj1]; exact h.most j haj (by omega) (by omega)
    · rw [go p p3 e]; exact h.most p p1 p2 e
theorem Ins.stop {f : Int → Int} {a i j : Nat} {d : List Int} (h : Ins f a i j d) (haj : a ≤ j) (hji : j ≤ i) (hs : j = a ∨ ¬ f (gt d (j - 1)) < f (gt d j)) : Srt f a (i + 1) d := by
  intro p q p1 p2 p3
  by_cases e1 : p = j
  · subst e1; exact h.behind q p2 (by omega)
  · by_cases e2 : q = j
    · subst e2
      have hl : Rk f (gt d (q - 1)) (gt d q) := by
        have := h.most (q - 1) (by omega) (by omega) (by omega)
        rcases hs with h | h
        · omega
        · unfold Rk; omega
      by_cases e3 : p = q - 1
      · subst e3; exact hl
      · exact (h.rest p (q - 1) p1 (by omega) (by omega) e1 (by omega)).trans hl
    · exact h.rest p q p1 p2 (by omega) e1 e2
/-- Each place of a .. b holds a number of a .. b. -/
def Own (a b : Nat) (d : List Int) : Prop := ∀ p, a ≤ p → p < b → (a : Int) ≤ gt d p ∧ gt d p < b
theorem Own.pin {a b : Nat} {d d' : List Int} (h : Own a b d) (hp : PIn a b d d') : Own a b d' := fun p p1 p2 => by
  obtain ⟨q, q1, q2, e⟩ := hp.mem p p1 p2
  rw [e]; exact h q q1 q2
theorem Own.crs {a m b : Nat} {d : List Int} (h1 : Own a m d) (h2 : Own m b d) : Crs a m b d := fun p q p1 p2 q1 q2 => by
  have := h1 p p1 p2; have := h2 q q1 q2; omega
theorem Own.join {a m b : Nat} {d : List Int} (h1 : Own a m d) (h2 : Own m b d) (ha : a ≤ m) (hb : m ≤ b) : Own a b d := fun p p1 p2 => by
  by_cases e : p < m
  · have := h1 p p1 e; omega
  · have := h2 p (by omega) p2; omega
theorem Own.same {a b : Nat} {d d' : List Int} (h : Own a b d) (he : ∀ p, a ≤ p → p < b → gt d' p = gt d p) : Own a b d' := fun p p1 p2 => by rw [he p p1 p2]; exact h p p1 p2
end Go.Proofs.YtbjjgnaojoaoiaaGreat
