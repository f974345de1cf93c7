/- Runs on a heap: how they lie; Len, Less. -/
import Derived.Test.YtfcemlcocdhmfaaA5
import Derived.Test.YtfcemlcocdhmfaaA6
import Derived.Test.YtfcemlcocdhmfaaMQ
import Derived.Test.YtfcemlcocdhmfaaMH
namespace Go.Proofs.Ytfcemlcocdhmfaa
open Go.RowKit Go
set_option linter.unusedVariables false
set_option linter.unusedSimpArgs false

/-- A run: what is left of a list, and which one it is. -/
structure Rn where
  lv : Value
  els : List El
  pl : Nat
def rnCs (hs : List Rn) : List Value := hs.flatMap fun r => [r.lv, .int .i64 r.pl]
theorem rnCs_len (hs : List Rn) : (rnCs hs).length = hs.length * 2 := by
  unfold rnCs
  induction hs with
  | nil => rfl
  | cons q qs ih => rw [List.flatMap_cons, List.length_append, ih]; simp; omega
theorem rnCs_app (a b : List Rn) : rnCs (a ++ b) = rnCs a ++ rnCs b := by simp [rnCs]
theorem rnCs_at (hs : List Rn) (k : Nat) (h : k < hs.length) : (rnCs hs)[k * 2]? = some hs[k].lv ∧ (rnCs hs)[k * 2 + 1]? = some (.int .i64 hs[k].pl) := by
  induction hs generalizing k with
  | nil => simp at h
  | cons b bs ih =>
    have e : rnCs (b :: bs) = b.lv :: .int .i64 b.pl :: rnCs bs := by simp [rnCs]
    cases k with
    | zero => rw [e]; exact ⟨rfl, rfl⟩
    | succ k =>
      have h1 := ih k (by simpa using h)
      rw [e, show (k + 1) * 2 = k * 2 + 1 + 1 by omega]
      exact ⟨by simpa using h1.1, by simpa using h1.2⟩
/-- A run's first record. -/
def Rn.hd (r : Rn) : Rc := (r.els.head?.map El.r).getD ⟨[], 0, false, []⟩
def lessI (a b : Rn) : Int := orI (ord2 a.hd b.hd) (Lib.compareInt a.pl b.pl)
def LessR (a b : Rn) : Prop := lessI a b < 0
/-- The run lies in memory. -/
def RnAt (w : World) (r : Rn) : Prop := RowB w r.lv r.els ∧ r.els ≠ [] ∧ r.els.length ≤ 1099511627776 ∧ r.pl ≤ 1000000
theorem RnAt.up {w w' : World} {r : Rn} (h : RnAt w r) (hb : Below w.heap.size w w') : RnAt w' r := ⟨h.1.up hb, h.2⟩
/-- The first record of a run: its cells. -/
theorem RnAt.first {w : World} {r : Rn} (h : RnAt w r) : ∃ (A : Option Addr) (n c b off : Nat) (q : El), r.lv = .slice A n c ∧ 0 < n ∧ A = some ⟨b, off, none⟩ ∧ b < w.heap.size ∧ r.hd = q.r ∧ IsRc w w.heap.size (.agg #[q.kv, .int .i64 q.r.seq, .bool q.r.del, q.vv]) q.r ∧
    w.cell? ⟨b, off, none⟩ = some q.kv ∧ w.cell? ⟨b, off + 1, none⟩ = some (.int .i64 q.r.seq) ∧ w.cell? ⟨b, off + 2, none⟩ = some (.bool q.r.del) ∧ w.cell? ⟨b, off + 3, none⟩ = some q.vv := by
  obtain ⟨h1, h2, h3, h4⟩ := h
  obtain ⟨lv, els, pl⟩ := r
  obtain ⟨q, qs, rfl⟩ : ∃ q qs, els = q :: qs := by cases els with | nil => exact absurd rfl h2 | cons q qs => exact ⟨q, qs, rfl⟩
  dsimp only at h1 ⊢
  obtain ⟨A, c, rfl⟩ := h1.form
  obtain ⟨b, off, rfl, hb, c0, c1, c2, c3⟩ := h1.at_ (k := 0) (by simp)
  have hrec := h1.rec (k := 0) (by simp)
  simp only [Nat.zero_mul, Nat.add_zero, List.getElem_cons_zero] at c0 c1 c2 c3 hrec
  exact ⟨_, _, c, b, off, q, rfl, by simp, rfl, hb, rfl, hrec, c0, c1, c2, c3⟩
theorem len_any (v : Value) (A : Option Addr) (n c : Nat) (hv : v = .slice A n c) (w : World) : Calls Try.prog 22 #[v] w fun e w' => e = .returned (.int .i64 n) ∧ w = w' := by
  subst hv
  go_enter Try.func22, Try.ntmps22
  go_wp2_with fail
  go_ret
  exact ⟨rfl, rfl⟩
theorem alloc_c {W : World} {p : Addr} {v : Value} (hs : W.cell? p = some v) (o : Obj) : (W.alloc o).cell? p = some v := (World.cell?_alloc_lt _ _ _ (World.block_lt_of_cell? _ _ hs)).trans hs
theorem keep12 {w w' : World} {p : Nat → Addr} {v : Nat → Value} {n : Nat} (h : ∀ i, i < n → w.cell? (p i) = some (v i)) (hb : Below w.heap.size w w') : ∀ i, i < n → w'.cell? (p i) = some (v i) :=
  fun i hi => (hb.cell (World.block_lt_of_cell? _ _ (h i hi))).trans (h i hi)
set_option maxHeartbeats 3200000 in
set_option maxRecDepth 100000 in
theorem less_any (g n c i j : Nat) (a b : Rn) (w : World) (hi : i < n) (hj : j < n) (ha : RnAt w a) (hb : RnAt w b)
    (a0 : w.cell? ⟨g, i * 2, none⟩ = some a.lv) (a1 : w.cell? ⟨g, i * 2 + 1, none⟩ = some (.int .i64 a.pl)) (b0 : w.cell? ⟨g, j * 2, none⟩ = some b.lv) (b1 : w.cell? ⟨g, j * 2 + 1, none⟩ = some (.int .i64 b.pl)) (hn : n ≤ 1000000) :
    Calls Try.prog 65 #[.slice (some ⟨g, 0, none⟩) n c, .int .i64 i, .int .i64 j] w fun e w' => e = .returned (.bool (decide (lessI a b < 0))) ∧ Below w.heap.size w w' := by
  obtain ⟨A1, n1, c1, x1, o1, q1, e1, m1, rfl, z1, h1, I1, k0, k1, k2, k3⟩ := ha.first
  obtain ⟨A2, n2, c2, x2, o2, q2, e2, m2, rfl, z2, h2, I2, l0, l1, l2, l3⟩ := hb.first
  have HL : Hid (lessI a b = orI (ord2 q1.r q2.r) (Lib.compareInt a.pl b.pl)) := by show _ = _; unfold lessI; rw [h1, h2]
  rw [e1] at a0; rw [e2] at b0
  have zg := World.block_lt_of_cell? _ _ a0
  have HI1 := Lib.hid I1; have HI2 := Lib.hid I2
  obtain ⟨pa, hpa⟩ : ∃ p : Int, (a.pl : Int) = p := ⟨_, rfl⟩
  obtain ⟨pb, hpb⟩ : ∃ p : Int, (b.pl : Int) = p := ⟨_, rfl⟩
  rw [hpa] at a1 HL; rw [hpb] at b1 HL
  have HO := Lib.hid (fun wx h1 h2 => order_m q1.r q2.r (.agg #[q1.kv, .int .i64 q1.r.seq, .bool q1.r.del, q1.vv]) (.agg #[q2.kv, .int .i64 q2.r.seq, .bool q2.r.del, q2.vv]) wx h1 h2)
  obtain ⟨o, ho⟩ : ∃ o, ord2 q1.r q2.r = o := ⟨_, rfl⟩
  rw [ho] at HO HL
  have j1 : (0 : Int) ≤ (i : Int) := by omega
  have j2 : (i : Int) < (n : Int) := by omega
  have j3 : (0 : Int) ≤ (j : Int) := by omega
  have j4 : (j : Int) < (n : Int) := by omega
  have m1' : (0 : Int) < (n1 : Int) := by omega
  have m2' : (0 : Int) < (n2 : Int) := by omega
  clear ha hb e1 e2 h1 h2 I1 I2 ho hpa hpb
  go_enter Try.func65, Try.ntmps65
  go_wp2_with fail
  go_region_held3 (fun w' => w'.cell? ⟨g, i * 2, none⟩ = some (.slice (some ⟨x1, o1, none⟩) n1 c1) ∧ w'.cell? ⟨g, i * 2 + 1, none⟩ = some (.int .i64 pa) ∧ w'.cell? ⟨g, j * 2, none⟩ = some (.slice (some ⟨x2, o2, none⟩) n2 c2) ∧ w'.cell? ⟨g, j * 2 + 1, none⟩ = some (.int .i64 pb) ∧ w'.cell? ⟨x1, o1, none⟩ = some q1.kv ∧ w'.cell? ⟨x1, o1 + 1, none⟩ = some (.int .i64 q1.r.seq) ∧ w'.cell? ⟨x1, o1 + 2, none⟩ = some (.bool q1.r.del) ∧ w'.cell? ⟨x1, o1 + 3, none⟩ = some q1.vv ∧ w'.cell? ⟨x2, o2, none⟩ = some q2.kv ∧ w'.cell? ⟨x2, o2 + 1, none⟩ = some (.int .i64 q2.r.seq) ∧ w'.cell? ⟨x2, o2 + 2, none⟩ = some (.bool q2.r.del) ∧ w'.cell? ⟨x2, o2 + 3, none⟩ = some q2.vv)
    ((first | (with_reducible exact ⟨a0, a1, b0, b1, k0, k1, k2, k3, l0, l1, l2, l3⟩) | exact ⟨a0, a1, b0, b1, k0, k1, k2, k3, l0, l1, l2, l3⟩ | exact ⟨(hcB _ zg).trans a0, (hcB _ zg).trans a1, (hcB _ zg).trans b0, (hcB _ zg).trans b1, (hcB _ z1).trans k0, (hcB _ z1).trans k1, (hcB _ z1).trans k2, (hcB _ z1).trans k3, (hcB _ z2).trans l0, (hcB _ z2).trans l1, (hcB _ z2).trans l2, (hcB _ z2).trans l3⟩ | exact ⟨alloc_c ((hcB _ zg).trans a0) _, alloc_c ((hcB _ zg).trans a1) _, alloc_c ((hcB _ zg).trans b0) _, alloc_c ((hcB _ zg).trans b1) _, alloc_c ((hcB _ z1).trans k0) _, alloc_c ((hcB _ z1).trans k1) _, alloc_c ((hcB _ z1).trans k2) _, alloc_c ((hcB _ z1).trans k3) _, alloc_c ((hcB _ z2).trans l0) _, alloc_c ((hcB _ z2).trans l1) _, alloc_c ((hcB _ z2).trans l2) _, alloc_c ((hcB _ z2).trans l3) _⟩))
    ((first
      | (go_at_call 23; refine (HO.out w.drew HI1.out HI2.out).mono ?_; rintro e w2 ⟨rfl, hw2⟩; have HW2 : Hid (Below w.heap.size w w2) := Lib.hid ((Below.refl _ _).drew.trans hw2); have hcB := fun (p : Addr) (hp : p.block < w.heap.size) => HW2.out.cell hp; clear hw2)
      | (go_at_call 42; refine (Try.cmp_Compare_int pa pb _).mono ?_; rintro e w' ⟨rfl, hE⟩; obtain rfl := hE.symm)
      | (go_at_call 40; refine (or_blk w2.heap.size 3 o (Lib.compareInt pa pb) _ (blk_new w2 (.cells #[.int .i64 o, .int .i64 (Lib.compareInt pa pb)] 3) rfl)).mono ?_; rintro e w' ⟨rfl, hE⟩; obtain rfl := hE.symm)))
  all_goals go_wp2_with fail
  all_goals go_ret
  all_goals exact ⟨ret_bool (by rw [HL.out]), HW2.out.alloc HW2.out.size _⟩
end Go.Proofs.Ytfcemlcocdhmfaa
