/- A heap of runs in memory: Less, Swap, the methods; the order. -/
import Derived.Test.YtfcemlcocdhmfaaXD
import Derived.Test.YtfcemlcocdhmfaaXC
import Derived.Test.YtfcemlcocdhmfaaXA
/- Runs on a heap: how they lie; Len, Less. -/
namespace Go.Proofs.Ytfcemlcocdhmfaa
open Go.RowKit Go
set_option linter.unusedVariables false
set_option linter.unusedSimpArgs false

/-- A run: what is left of a list, and which one it is. -/
structure Rn where
  lv : Value
  els : List El
  pl : Nat
def rnCs (hs : List Rn) : List Value := hs.flatMap fun r => [r.lv, .int .i64 r.pl]
theorem rnCs_len (hs : List Rn) : (rnCs hs).length = hs.length * 2 := by
  unfold rnCs
  induction hs with
  | nil => rfl
  | cons q qs ih => rw [List.flatMap_cons, List.length_append, ih]; simp; omega
theorem rnCs_app (a b : List Rn) : rnCs (a ++ b) = rnCs a ++ rnCs b := by simp [rnCs]
theorem rnCs_at (hs : List Rn) (k : Nat) (h : k < hs.length) : (rnCs hs)[k * 2]? = some hs[k].lv ∧ (rnCs hs)[k * 2 + 1]? = some (.int .i64 hs[k].pl) := by
  induction hs generalizing k with
  | nil => simp at h
  | cons b bs ih =>
    have e : rnCs (b :: bs) = b.lv :: .int .i64 b.pl :: rnCs bs := by simp [rnCs]
    cases k with
    | zero => rw [e]; exact ⟨rfl, rfl⟩
    | succ k =>
      have h1 := ih k (by simpa using h)
      rw [e, show (k + 1) * 2 = k * 2 + 1 + 1 by omega]
      exact ⟨by simpa using h1.1, by simpa using h1.2⟩
/-- A run's first record. -/
def Rn.hd (r : Rn) : Rc := (r.els.head?.map El.r).getD ⟨[], 0, false, []⟩
def lessI (a b : Rn) : Int := orI (ord2 a.hd b.hd) (Lib.compareInt a.pl b.pl)
def LessR (a b : Rn) : Prop := lessI a b < 0
/-- The run lies in memory. -/
def RnAt (w : World) (r : Rn) : Prop := RowB w r.lv r.els ∧ r.els ≠ [] ∧ r.els.length ≤ 1099511627776 ∧ r.pl ≤ 1000000
theorem RnAt.up {w w' : World} {r : Rn} (h : RnAt w r) (hb : Below w.heap.size w w') : RnAt w' r := ⟨h.1.up hb, h.2⟩
/-- The first record of a run: its cells. -/
theorem RnAt.first {w : World} {r : Rn} (h : RnAt w r) : ∃ (A : Option Addr) (n c b off : Nat) (q : El), r.lv = .slice A n c ∧ 0 < n ∧ A = some ⟨b, off, none⟩ ∧ b < w.heap.size ∧ r.hd = q.r ∧ IsRc w w.heap.size (.agg #[q.kv, .int .i64 q.r.seq, .bool q.r.del, q.vv]) q.r ∧
    w.cell? ⟨b, off, none⟩ = some q.kv ∧ w.cell? ⟨b, off + 1, none⟩ = some (.int .i64 q.r.seq) ∧ w.cell? ⟨b, off + 2, none⟩ = some (.bool q.r.del) ∧ w.cell? ⟨b, off + 3, none⟩ = some q.vv := by
  obtain ⟨h1, h2, h3, h4⟩ := h
  obtain ⟨lv, els, pl⟩ := r
  obtain ⟨q, qs, rfl⟩ : ∃ q qs, els = q :: qs := by cases els with | nil => exact absurd rfl h2 | cons q qs => exact ⟨q, qs, rfl⟩
  dsimp only at h1 ⊢
  obtain ⟨A, c, rfl⟩ := h1.form
  obtain ⟨b, off, rfl, hb, c0, c1, c2, c3⟩ := h1.at_ (k := 0) (by simp)
  have hrec := h1.rec (k := 0) (by simp)
  simp only [Nat.zero_mul, Nat.add_zero, List.getElem_cons_zero] at c0 c1 c2 c3 hrec
  exact ⟨_, _, c, b, off, q, rfl, by simp, rfl, hb, rfl, hrec, c0, c1, c2, c3⟩
theorem len_any (v : Value) (A : Option Addr) (n c : Nat) (hv : v = .slice A n c) (w : World) : Calls Try.prog 22 #[v] w fun e w' => e = .returned (.int .i64 n) ∧ w = w' := by
  subst hv
  go_enter Try.func22, Try.ntmps22
  go_wp2_with fail
  go_ret
  exact ⟨rfl, rfl⟩
theorem alloc_c {W : World} {p : Addr} {v : Value} (hs : W.cell? p = some v) (o : Obj) : (W.alloc o).cell? p = some v := (World.cell?_alloc_lt _ _ _ (World.block_lt_of_cell? _ _ hs)).trans hs
theorem keep12 {w w' : World} {p : Nat → Addr} {v : Nat → Value} {n : Nat} (h : ∀ i, i < n → w.cell? (p i) = some (v i)) (hb : Below w.heap.size w w') : ∀ i, i < n → w'.cell? (p i) = some (v i) :=
  fun i hi => (hb.cell (World.block_lt_of_cell? _ _ (h i hi))).trans (h i hi)
set_option maxHeartbeats 3200000 in
set_option maxRecDepth 100000 in
theorem less_any (g n c i j : Nat) (a b : Rn) (w : World) (hi : i < n) (hj : j < n) (ha : RnAt w a) (hb : RnAt w b)
    (a0 : w.cell? ⟨g, i * 2, none⟩ = some a.lv) (a1 : w.cell? ⟨g, i * 2 + 1, none⟩ = some (.int .i64 a.pl)) (b0 : w.cell? ⟨g, j * 2, none⟩ = some b.lv) (b1 : w.cell? ⟨g, j * 2 + 1, none⟩ = some (.int .i64 b.pl)) (hn : n ≤ 1000000) :
    Calls Try.prog 65 #[.slice (some ⟨g, 0, none⟩) n c, .int .i64 i, .int .i64 j] w fun e w' => e = .returned (.bool (decide (lessI a b < 0))) ∧ Below w.heap.size w w' := by
  obtain ⟨A1, n1, c1, x1, o1, q1, e1, m1, rfl, z1, h1, I1, k0, k1, k2, k3⟩ := ha.first
  obtain ⟨A2, n2, c2, x2, o2, q2, e2, m2, rfl, z2, h2, I2, l0, l1, l2, l3⟩ := hb.first
  have HL : Hid (lessI a b = orI (ord2 q1.r q2.r) (Lib.compareInt a.pl b.pl)) := by show _ = _; unfold lessI; rw [h1, h2]
  rw [e1] at a0; rw [e2] at b0
  have zg := World.block_lt_of_cell? _ _ a0
  have HI1 := Lib.hid I1; have HI2 := Lib.hid I2
  obtain ⟨pa, hpa⟩ : ∃ p : Int, (a.pl : Int) = p := ⟨_, rfl⟩
  obtain ⟨pb, hpb⟩ : ∃ p : Int, (b.pl : Int) = p := ⟨_, rfl⟩
  rw [hpa] at a1 HL; rw [hpb] at b1 HL
  have HO := Lib.hid (fun wx h1 h2 => order_m q1.r q2.r (.agg #[q1.kv, .int .i64 q1.r.seq, .bool q1.r.del, q1.vv]) (.agg #[q2.kv, .int .i64 q2.r.seq, .bool q2.r.del, q2.vv]) wx h1 h2)
  obtain ⟨o, ho⟩ : ∃ o, ord2 q1.r q2.r = o := ⟨_, rfl⟩
  rw [ho] at HO HL
  have j1 : (0 : Int) ≤ (i : Int) := by omega
  have j2 : (i : Int) < (n : Int) := by omega
  have j3 : (0 : Int) ≤ (j : Int) := by omega
  have j4 : (j : Int) < (n : Int) := by omega
  have m1' : (0 : Int) < (n1 : Int) := by omega
  have m2' : (0 : Int) < (n2 : Int) := by omega
  clear ha hb e1 e2 h1 h2 I1 I2 ho hpa hpb
  go_enter Try.func65, Try.ntmps65
  go_wp2_with fail
  go_region_held3 (fun w' => w'.cell? ⟨g, i * 2, none⟩ = some (.slice (some ⟨x1, o1, none⟩) n1 c1) ∧ w'.cell? ⟨g, i * 2 + 1, none⟩ = some (.int .i64 pa) ∧ w'.cell? ⟨g, j * 2, none⟩ = some (.slice (some ⟨x2, o2, none⟩) n2 c2) ∧ w'.cell? ⟨g, j * 2 + 1, none⟩ = some (.int .i64 pb) ∧ w'.cell? ⟨x1, o1, none⟩ = some q1.kv ∧ w'.cell? ⟨x1, o1 + 1, none⟩ = some (.int .i64 q1.r.seq) ∧ w'.cell? ⟨x1, o1 + 2, none⟩ = some (.bool q1.r.del) ∧ w'.cell? ⟨x1, o1 + 3, none⟩ = some q1.vv ∧ w'.cell? ⟨x2, o2, none⟩ = some q2.kv ∧ w'.cell? ⟨x2, o2 + 1, none⟩ = some (.int .i64 q2.r.seq) ∧ w'.cell? ⟨x2, o2 + 2, none⟩ = some (.bool q2.r.del) ∧ w'.cell? ⟨x2, o2 + 3, none⟩ = some q2.vv)
    ((first | (with_reducible exact ⟨a0, a1, b0, b1, k0, k1, k2, k3, l0, l1, l2, l3⟩) | exact ⟨a0, a1, b0, b1, k0, k1, k2, k3, l0, l1, l2, l3⟩ | exact ⟨(hcB _ zg).trans a0, (hcB _ zg).trans a1, (hcB _ zg).trans b0, (hcB _ zg).trans b1, (hcB _ z1).trans k0, (hcB _ z1).trans k1, (hcB _ z1).trans k2, (hcB _ z1).trans k3, (hcB _ z2).trans l0, (hcB _ z2).trans l1, (hcB _ z2).trans l2, (hcB _ z2).trans l3⟩ | exact ⟨alloc_c ((hcB _ zg).trans a0) _, alloc_c ((hcB _ zg).trans a1) _, alloc_c ((hcB _ zg).trans b0) _, alloc_c ((hcB _ zg).trans b1) _, alloc_c ((hcB _ z1).trans k0) _, alloc_c ((hcB _ z1).trans k1) _, alloc_c ((hcB _ z1).trans k2) _, alloc_c ((hcB _ z1).trans k3) _, alloc_c ((hcB _ z2).trans l0) _, alloc_c ((hcB _ z2).trans l1) _, alloc_c ((hcB _ z2).trans l2) _, alloc_c ((hcB _ z2).trans l3) _⟩))
    ((first
      | (go_at_call 23; refine (HO.out w.drew HI1.out HI2.out).mono ?_; rintro e w2 ⟨rfl, hw2⟩; have HW2 : Hid (Below w.heap.size w w2) := Lib.hid ((Below.refl _ _).drew.trans hw2); have hcB := fun (p : Addr) (hp : p.block < w.heap.size) => HW2.out.cell hp; clear hw2)
      | (go_at_call 42; refine (Try.cmp_Compare_int pa pb _).mono ?_; rintro e w' ⟨rfl, hE⟩; obtain rfl := hE.symm)
      | (go_at_call 40; refine (or_blk w2.heap.size 3 o (Lib.compareInt pa pb) _ (blk_new w2 (.cells #[.int .i64 o, .int .i64 (Lib.compareInt pa pb)] 3) rfl)).mono ?_; rintro e w' ⟨rfl, hE⟩; obtain rfl := hE.symm)))
  all_goals go_wp2_with fail
  all_goals go_ret
  all_goals exact ⟨ret_bool (by rw [HL.out]), HW2.out.alloc HW2.out.size _⟩
end Go.Proofs.Ytfcemlcocdhmfaa
/- Runs on a heap: how they lie; Swap. -/
namespace Go.Proofs.Ytfcemlcocdhmfaa
open Go.RowKit Go
set_option linter.unusedVariables false
set_option linter.unusedSimpArgs false

/-- The cells of a heap's block. -/
structure HAt (w : World) (g c : Nat) (hs : List Rn) : Prop where
  ex : ∃ cur : Array Value, w.heap[g]? = some (.cells cur 47 (0, 0)) ∧ cur.size = c * 2 ∧ ∀ k (hk : k < hs.length), cur[k * 2]? = some hs[k].lv ∧ cur[k * 2 + 1]? = some (.int .i64 hs[k].pl)
  le : hs.length ≤ c
  mx : c ≤ maxLen
def swapL (hs : List Rn) (i j : Nat) (a b : Rn) : List Rn := (hs.set i b).set j a
theorem swapL_len (hs : List Rn) (i j : Nat) (a b : Rn) : (swapL hs i j a b).length = hs.length := by simp [swapL]
theorem HAt.cell {w : World} {g c : Nat} {hs : List Rn} (h : HAt w g c hs) {k : Nat} (hk : k < hs.length) : w.cell? ⟨g, k * 2, none⟩ = some hs[k].lv ∧ w.cell? ⟨g, k * 2 + 1, none⟩ = some (.int .i64 hs[k].pl) := by
  obtain ⟨cur, h1, h2, h3⟩ := h.ex
  exact ⟨(blk_cell h1 _).trans (h3 k hk).1, (blk_cell h1 _).trans (h3 k hk).2⟩
theorem HAt.below {w w' : World} {g c : Nat} {hs : List Rn} (h : HAt w g c hs) (hb : Below w.heap.size w w') : HAt w' g c hs := by
  obtain ⟨⟨cur, h1, h2, h3⟩, h4, h5⟩ := h
  exact ⟨⟨cur, blk_below h1 hb (blk_lt h1), h2, h3⟩, h4, h5⟩
theorem HAt.free {w : World} {g c : Nat} {hs : List Rn} (h : HAt w g c hs) (i : Nat) : w.frozen? ⟨g, i, none⟩ = false := by
  obtain ⟨cur, h1, _⟩ := h.ex; exact blk_free h1 i
theorem HAt.lt {w : World} {g c : Nat} {hs : List Rn} (h : HAt w g c hs) : g < w.heap.size := by
  obtain ⟨cur, h1, _⟩ := h.ex; exact blk_lt h1
theorem HAt.swap {w : World} {g c i j : Nat} {hs : List Rn} (h : HAt w g c hs) (hi : i < hs.length) (hj : j < hs.length) (hij : i ≠ j) {a b : Rn} (ha : hs[i] = a) (hb : hs[j] = b) :
    HAt ((((w.setCell ⟨g, i * 2, none⟩ b.lv).setCell ⟨g, i * 2 + 1, none⟩ (.int .i64 b.pl)).setCell ⟨g, j * 2, none⟩ a.lv).setCell ⟨g, j * 2 + 1, none⟩ (.int .i64 a.pl)) g c (swapL hs i j a b) := by
  obtain ⟨⟨cur, h1, h2, h3⟩, h4, h5⟩ := h
  refine ⟨⟨_, blk_set (blk_set (blk_set (blk_set h1 (i * 2) _) (i * 2 + 1) _) (j * 2) _) (j * 2 + 1) _, by simp [h2], fun k hk => ?_⟩, by rw [swapL_len]; exact h4, h5⟩
  have hk' : k < hs.length := by rw [swapL_len] at hk; exact hk
  have e := h3 k hk'
  simp only [Array.getElem?_setIfInBounds, Array.size_setIfInBounds, h2]
  by_cases h6 : k = j
  · subst h6
    have e1 : (swapL hs i k a b)[k]'hk = a := by simp [swapL]
    rw [e1]
    refine ⟨?_, ?_⟩
    · rw [if_neg (by omega), if_pos rfl, if_pos (by omega)]
    · rw [if_pos rfl, if_pos (by omega)]
  · by_cases h7 : k = i
    · subst h7
      have e1 : (swapL hs k j a b)[k]'hk = b := by simp [swapL, List.getElem_set, Ne.symm h6]
      rw [e1]
      refine ⟨?_, ?_⟩
      · rw [if_neg (by omega), if_neg (by omega), if_neg (by omega), if_pos rfl, if_pos (by omega)]
      · rw [if_neg (by omega), if_neg (by omega), if_pos rfl, if_pos (by omega)]
    · have e1 : (swapL hs i j a b)[k]'hk = hs[k] := by simp [swapL, List.getElem_set, Ne.symm h6, Ne.symm h7]
      rw [e1]
      refine ⟨?_, ?_⟩
      · rw [if_neg (by omega), if_neg (by omega), if_neg (by omega), if_neg (by omega)]; exact e.1
      · rw [if_neg (by omega), if_neg (by omega), if_neg (by omega), if_neg (by omega)]; exact e.2
theorem HAt.drew {w : World} {g c : Nat} {hs : List Rn} (h : HAt w g c hs) : HAt w.drew g c hs := ⟨h.ex, h.le, h.mx⟩
theorem grown_drew {w w' : World} {r : Option Nat} (h : w.grownBy w' r) : w.grownBy w'.drew r := ⟨h.os, h.tape, h.output, h.size, h.block⟩
theorem grown_set4 {w : World} {g : Nat} (p0 p1 p2 p3 : Nat) (u0 u1 u2 u3 : Value) : w.grownBy ((((w.setCell ⟨g, p0, none⟩ u0).setCell ⟨g, p1, none⟩ u1).setCell ⟨g, p2, none⟩ u2).setCell ⟨g, p3, none⟩ u3) (some g) :=
  ⟨rfl, rfl, rfl, by simp [World.setCell], fun k _ hne => by
    have h : ∀ (w : World) (q : Nat) (u : Value), (w.setCell ⟨g, q, none⟩ u).heap[k]? = w.heap[k]? := fun w q u => Below.heap_setCell w ⟨g, q, none⟩ u k (fun e => hne (by rw [e]))
    rw [h, h, h, h]⟩
set_option maxHeartbeats 1600000 in
theorem swap_any (g n c m i j : Nat) (hs : List Rn) (a b : Rn) (w : World) (h : HAt w g m hs) (hi : i < hs.length) (hj : j < hs.length) (hin : i < n) (hjn : j < n) (hij : i ≠ j) (ha : hs[i] = a) (hb : hs[j] = b)
    (fa : ∃ A k c, a.lv = .slice A k c) (fb : ∃ A k c, b.lv = .slice A k c) (hn : n ≤ 1000000) :
    Calls Try.prog 68 #[.slice (some ⟨g, 0, none⟩) n c, .int .i64 i, .int .i64 j] w fun e w' => (∃ x, e = .returned x) ∧ HAt w' g m (swapL hs i j a b) ∧ w.grownBy w' (some g) := by
  obtain ⟨A1, n1, m1, e1⟩ := fa
  obtain ⟨A2, n2, m2, e2⟩ := fb
  obtain ⟨c0, c1⟩ := h.cell hi
  obtain ⟨d0, d1⟩ := h.cell hj
  rw [ha] at c0 c1; rw [hb] at d0 d1
  rw [e1] at c0; rw [e2] at d0
  have HS := Lib.hid (h.swap hi hj hij ha hb)
  rw [e1, e2] at HS
  have hf := fun k => h.free k
  have HG := Lib.hid (grown_set4 (w := w) (g := g) (i * 2) (i * 2 + 1) (j * 2) (j * 2 + 1) (.slice A2 n2 m2) (.int .i64 b.pl) (.slice A1 n1 m1) (.int .i64 a.pl))
  have j1 : (0 : Int) ≤ (i : Int) := by omega
  have j2 : (i : Int) < (n : Int) := by omega
  have j3 : (0 : Int) ≤ (j : Int) := by omega
  have j4 : (j : Int) < (n : Int) := by omega
  clear h ha hb e1 e2
  go_enter Try.func68, Try.ntmps68
  go_wp2_with fail
  go_region_with (fail)
  all_goals go_wp2_with fail
  all_goals go_end0
  all_goals exact ⟨⟨_, rfl⟩, HS.out.drew, grown_drew HG.out⟩
end Go.Proofs.Ytfcemlcocdhmfaa
/- container/heap: the methods behind the interface. -/
namespace Go.Proofs.Ytfcemlcocdhmfaa
open Go.RowKit Go
set_option linter.unusedVariables false
set_option linter.unusedSimpArgs false

theorem method_push (gh : Nat) (w : World) : (method 195 42 (.pointer (some ⟨gh, 0, none⟩)) "Push").run Try.prog w = .ok (67, .pointer (some ⟨gh, 0, none⟩)) w := by kernel_rfl
theorem method_pop (gh : Nat) (w : World) : (method 195 42 (.pointer (some ⟨gh, 0, none⟩)) "Pop").run Try.prog w = .ok (66, .pointer (some ⟨gh, 0, none⟩)) w := by kernel_rfl
theorem row_less : (Try.prog.info? 42).bind (fun i => (i.methods.find? (·.name == "Less")).map (fun m => (m.path.toList, m.func))) = some ([], some (65, false)) := by kernel_rfl
theorem row_swap : (Try.prog.info? 42).bind (fun i => (i.methods.find? (·.name == "Swap")).map (fun m => (m.path.toList, m.func))) = some ([], some (68, false)) := by kernel_rfl
theorem row_len : (Try.prog.info? 42).bind (fun i => (i.methods.find? (·.name == "Len")).map (fun m => (m.path.toList, m.func))) = some ([], some (22, false)) := by kernel_rfl
theorem nilchk (P : Program) (w : World) (a : Addr) (t : TypeId) (x y : String) : (Builtin.ssaWrapNilChk_ #[t] t #[.pointer (some a), strVal x, strVal y]).run P w = .ok (.pointer (some a)) w := rfl
theorem method_val {name : String} {f : FuncId} (hr : (Try.prog.info? 42).bind (fun i => (i.methods.find? (·.name == name)).map (fun m => (m.path.toList, m.func))) = some ([], some (f, false)))
    (gh fuel : Nat) (v : Value) (w : World) (h : (loadVar 44 ⟨gh, 0, none⟩).run Try.prog w = .ok v w) : (method (fuel + 1) 42 (.pointer (some ⟨gh, 0, none⟩)) name).run Try.prog w = .ok (f, v) w := by
  cases hi : Try.prog.info? 42 with
  | none => rw [hi] at hr; cases hr
  | some i =>
    rw [hi] at hr
    simp only [Option.bind_some] at hr
    cases hm : i.methods.find? (·.name == name) with
    | none => rw [hm] at hr; cases hr
    | some m =>
      rw [hm] at hr
      simp only [Option.map_some, Option.some.injEq, Prod.mk.injEq] at hr
      obtain ⟨h1, h2⟩ := hr
      have hp : m.path = #[] := by apply Array.ext'; simpa using h1
      simp [go_sem] at h
      simp [method, typeInfo, hi, hm, hp, h2, follow, receiverAt, Place.get, asAddr, Try.underlying42, go_sem, nilchk, h]
theorem load_runs {w : World} {gh : Nat} {A : Option Addr} {n c : Nat} (h : w.cell? ⟨gh, 0, none⟩ = some (.slice A n c)) : (loadVar 44 ⟨gh, 0, none⟩).run Try.prog w = .ok (.slice A n c) w := by
  simp [go_sem, Try.isAgg44, h]
theorem method_less (gh fuel : Nat) {A : Option Addr} {n c : Nat} {w : World} (h : w.cell? ⟨gh, 0, none⟩ = some (.slice A n c)) : (method (fuel + 1) 42 (.pointer (some ⟨gh, 0, none⟩)) "Less").run Try.prog w = .ok (65, .slice A n c) w := method_val row_less gh fuel _ w (load_runs h)
theorem method_swap (gh fuel : Nat) {A : Option Addr} {n c : Nat} {w : World} (h : w.cell? ⟨gh, 0, none⟩ = some (.slice A n c)) : (method (fuel + 1) 42 (.pointer (some ⟨gh, 0, none⟩)) "Swap").run Try.prog w = .ok (68, .slice A n c) w := method_val row_swap gh fuel _ w (load_runs h)
theorem method_len (gh fuel : Nat) {A : Option Addr} {n c : Nat} {w : World} (h : w.cell? ⟨gh, 0, none⟩ = some (.slice A n c)) : (method (fuel + 1) 42 (.pointer (some ⟨gh, 0, none⟩)) "Len").run Try.prog w = .ok (22, .slice A n c) w := method_val row_len gh fuel _ w (load_runs h)
end Go.Proofs.Ytfcemlcocdhmfaa
/- Runs that lie below a block. -/
namespace Go.Proofs.Ytfcemlcocdhmfaa
open Go.RowKit Go
set_option linter.unusedVariables false
set_option linter.unusedSimpArgs false

/-- The run lies below block B. -/
def RnB (w : World) (B : Nat) (r : Rn) : Prop := (∃ A c, r.lv = .slice A r.els.length c ∧ r.els.length ≤ c ∧ Rd w B 4 A r.els.length (elCells r.els) ∧ ∀ q ∈ r.els, Bs w B q.kv q.r.key ∧ Bs w B q.vv q.r.val) ∧ r.els ≠ [] ∧ r.els.length ≤ 1099511627776 ∧ r.pl ≤ 1000000
theorem RnB.at_ {w : World} {B : Nat} {r : Rn} (h : RnB w B r) (hB : B ≤ w.heap.size) : RnAt w r := by
  obtain ⟨⟨A, c, h1, h2, h3, h4⟩, h5⟩ := h
  exact ⟨⟨A, c, h1, h2, h3.wider hB, fun q hq => ⟨(h4 q hq).1.wider hB, (h4 q hq).2.wider hB⟩⟩, h5⟩
theorem RnB.form {w : World} {B : Nat} {r : Rn} (h : RnB w B r) : ∃ A k c, r.lv = .slice A k c := let ⟨⟨A, c, e, _⟩, _⟩ := h; ⟨A, _, c, e⟩
theorem RnB.keep {w w' : World} {B : Nat} {r : Rn} (h : RnB w B r) (hk : ∀ p : Addr, p.block < B → w'.cell? p = w.cell? p) : RnB w' B r := by
  obtain ⟨⟨A, c, h1, h2, h3, h4⟩, h5⟩ := h
  exact ⟨⟨A, c, h1, h2, h3.of_cells hk, fun q hq => ⟨(h4 q hq).1.of_cells hk, (h4 q hq).2.of_cells hk⟩⟩, h5⟩
theorem grown_cell {w w' : World} {g B : Nat} (h : w.grownBy w' (some g)) (hB : B ≤ g) (hw : B ≤ w.heap.size) (p : Addr) (hp : p.block < B) : w'.cell? p = w.cell? p :=
  World.cell?_of_block (h.block p.block (by omega) (by intro e; injection e with e; omega))
end Go.Proofs.Ytfcemlcocdhmfaa
/- The order of records and of runs, in plain words: a total order; what is not behind stays so. -/
namespace Go.Proofs.Ytfcemlcocdhmfaa
set_option linter.unusedVariables false
set_option linter.unusedSimpArgs false

theorem cb_swap : ∀ a b : List UInt8, Lib.compareBytes b a = - Lib.compareBytes a b
  | [], [] => rfl
  | [], _ :: _ => rfl
  | _ :: _, [] => rfl
  | x :: a, y :: b => by
    unfold Lib.compareBytes
    have h := cb_swap a b
    simp only [UInt8.lt_iff_toNat_lt, gt_iff_lt]
    by_cases h1 : x.toNat < y.toNat
    · have h2 : ¬ y.toNat < x.toNat := by omega
      simp [h1, h2]
    · by_cases h2 : y.toNat < x.toNat
      · simp [h1, h2]
      · simp [h1, h2, h]
theorem cb_trans : ∀ a b c : List UInt8, Lib.compareBytes a b < 0 → Lib.compareBytes b c < 0 → Lib.compareBytes a c < 0
  | [], [], c, h, _ => by simp [Lib.compareBytes] at h
  | [], _ :: _, [], _, h => by simp [Lib.compareBytes] at h
  | [], _ :: _, _ :: _, _, _ => by simp [Lib.compareBytes]
  | _ :: _, [], c, h, _ => by simp [Lib.compareBytes] at h
  | _ :: _, _ :: _, [], _, h => by simp [Lib.compareBytes] at h
  | x :: a, y :: b, z :: c, h1, h2 => by
    have ih := cb_trans a b c
    unfold Lib.compareBytes at h1 h2 ⊢
    simp only [UInt8.lt_iff_toNat_lt, gt_iff_lt] at h1 h2 ⊢
    by_cases a1 : x.toNat < y.toNat
    · by_cases b1 : y.toNat < z.toNat
      · rw [if_pos (by omega)]; decide
      · rw [if_neg b1] at h2
        by_cases b2 : z.toNat < y.toNat
        · rw [if_pos b2] at h2; simp at h2
        · rw [if_pos (by omega)]; decide
    · rw [if_neg a1] at h1
      by_cases a2 : y.toNat < x.toNat
      · rw [if_pos a2] at h1; simp at h1
      · rw [if_neg a2] at h1
        by_cases b1 : y.toNat < z.toNat
        · rw [if_pos (by omega)]; decide
        · rw [if_neg b1] at h2
          by_cases b2 : z.toNat < y.toNat
          · rw [if_pos b2] at h2; simp at h2
          · rw [if_neg b2] at h2
            rw [if_neg (by omega), if_neg (by omega)]
            exact ih h1 h2
theorem ci_lt (x y : Int) : Lib.compareInt x y < 0 ↔ x < y := by
  unfold Lib.compareInt; by_cases h : x < y <;> by_cases h2 : x > y <;> simp [h, h2]
theorem ci_gt (x y : Int) : 0 < Lib.compareInt x y ↔ y < x := by
  unfold Lib.compareInt; by_cases h : x < y <;> by_cases h2 : x > y <;> simp [h, h2] <;> omega
theorem ci_eq (x y : Int) : Lib.compareInt x y = 0 ↔ x = y := by
  unfold Lib.compareInt; by_cases h : x < y <;> by_cases h2 : x > y <;> simp [h, h2] <;> omega
theorem ord_lt (a b : Rc) : ord2 a b < 0 ↔ Lib.compareBytes a.key b.key < 0 ∨ a.key = b.key ∧ b.seq < a.seq := by
  unfold ord2 ordS orI
  by_cases h : Lib.compareBytes a.key b.key = 0
  · rw [if_pos h, ci_lt]; have := compare_eq h; simp [this, h, compare_refl]
  · rw [if_neg h]
    constructor
    · exact .inl
    · rintro (h2 | ⟨h2, _⟩)
      · exact h2
      · rw [h2, compare_refl] at h; exact absurd rfl h
theorem ord_gt (a b : Rc) : 0 < ord2 a b ↔ 0 < Lib.compareBytes a.key b.key ∨ a.key = b.key ∧ a.seq < b.seq := by
  unfold ord2 ordS orI
  by_cases h : Lib.compareBytes a.key b.key = 0
  · rw [if_pos h, ci_gt]; have := compare_eq h; simp [this, h, compare_refl]
  · rw [if_neg h]
    constructor
    · exact .inl
    · rintro (h2 | ⟨h2, _⟩)
      · exact h2
      · rw [h2, compare_refl] at h; exact absurd rfl h
theorem ord_eq (a b : Rc) : ord2 a b = 0 ↔ a.key = b.key ∧ a.seq = b.seq := by
  unfold ord2 ordS orI
  by_cases h : Lib.compareBytes a.key b.key = 0
  · rw [if_pos h, ci_eq]; have := compare_eq h; simp [this]; exact eq_comm
  · rw [if_neg h]
    constructor
    · intro h2; exact absurd h2 h
    · rintro ⟨h2, _⟩; rw [h2, compare_refl] at h; exact absurd rfl h
theorem toOrd : TO ord2 where
  refl a := (ord_eq a a).2 ⟨rfl, rfl⟩
  flip a b := by
    rw [ord_lt, ord_gt, cb_swap a.key b.key]
    constructor
    · rintro (h | ⟨h, h2⟩)
      · exact .inl (by omega)
      · exact .inr ⟨h.symm, h2⟩
    · rintro (h | ⟨h, h2⟩)
      · exact .inl (by omega)
      · exact .inr ⟨h.symm, h2⟩
  trans a b c := by
    rw [ord_lt, ord_lt, ord_lt]
    rintro (h | ⟨h, h2⟩) (k | ⟨k, k2⟩)
    · exact .inl (cb_trans _ _ _ h k)
    · rw [← k]; exact .inl h
    · rw [h]; exact .inl k
    · exact .inr ⟨h.trans k, by omega⟩
  left a b c h := by
    obtain ⟨h1, h2⟩ := (ord_eq a b).1 h
    rw [ord_lt, ord_lt, h1, h2]
theorem less_iff (a b : Rn) : LessR a b ↔ ord2 a.hd b.hd < 0 ∨ ord2 a.hd b.hd = 0 ∧ a.pl < b.pl := by
  unfold LessR lessI orI
  by_cases h : ord2 a.hd b.hd = 0
  · rw [if_pos h, ci_lt]; simp only [h, true_and, Int.ofNat_lt]; constructor
    · exact .inr
    · rintro (h2 | h2)
      · omega
      · exact h2
  · rw [if_neg h]; constructor
    · exact .inl
    · rintro (h2 | ⟨h2, _⟩)
      · exact h2
      · exact absurd h2 h
theorem loLess : LO LessR where
  asymm a b := by
    rw [less_iff, less_iff]
    have f1 := toOrd.flip a.hd b.hd; have f2 := toOrd.flip b.hd a.hd
    rintro (h | ⟨h, h2⟩) (k | ⟨k, k2⟩) <;> omega
  ntrans a b c := by
    rw [less_iff, less_iff, less_iff]
    intro h k hc
    have f1 := toOrd.flip a.hd b.hd; have f2 := toOrd.flip b.hd a.hd; have f3 := toOrd.flip b.hd c.hd; have f4 := toOrd.flip c.hd b.hd
    have e1 : ord2 b.hd a.hd ≤ 0 := by
      have : ¬ ord2 a.hd b.hd < 0 := fun e => h (.inl e)
      omega
    have e2 : ord2 c.hd b.hd ≤ 0 := by
      have : ¬ ord2 b.hd c.hd < 0 := fun e => k (.inl e)
      omega
    have e3 := toOrd.le_trans e2 e1
    have f5 := toOrd.flip a.hd c.hd; have f6 := toOrd.flip c.hd a.hd
    rcases hc with hc | ⟨hc, hp⟩
    · omega
    · have e4 : ord2 c.hd b.hd = 0 := by
        rcases Int.lt_or_eq_of_le e2 with e | e
        · have := toOrd.lt_le e e1
          omega
        · exact e
      have e5 : ord2 b.hd a.hd = 0 := by
        have := toOrd.symm hc
        have := toOrd.symm e4
        exact toOrd.eq_trans this ‹ord2 c.hd a.hd = 0›
      have e6 := toOrd.symm e4; have e7 := toOrd.symm e5
      have : ¬ a.pl < b.pl := fun e => h (.inr ⟨e7, e⟩)
      have : ¬ b.pl < c.pl := fun e => k (.inr ⟨e6, e⟩)
      omega
theorem not_less (a b : Rn) (h : ¬ LessR a b) : ord2 b.hd a.hd < 0 ∨ ord2 b.hd a.hd = 0 ∧ b.pl ≤ a.pl := by
  rw [less_iff] at h
  have f1 := toOrd.flip a.hd b.hd; have f2 := toOrd.flip b.hd a.hd
  have h1 : ¬ ord2 a.hd b.hd < 0 := fun e => h (.inl e)
  by_cases e : ord2 a.hd b.hd = 0
  · exact .inr ⟨toOrd.symm e, by have : ¬ a.pl < b.pl := fun e' => h (.inr ⟨e, e'⟩); omega⟩
  · left; omega
end Go.Proofs.Ytfcemlcocdhmfaa
