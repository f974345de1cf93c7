/- The skip list in memory; behind: the way down. -/
import Derived.Test.YtpgbinijocbfmaaJ
import Derived.Outline
import Derived.Deep.LoopGhost
import Derived.Deep.MidRow
import Derived.Deep.DeepCutAuto
namespace Go.Proofs.Ytpgbinijocbfmaa
open Go.RowKit Go
set_option linter.unusedVariables false
set_option linter.unusedSimpArgs false

/-- A slice of bytes that reads as l, whose block is of U (and of bytes alone). -/
def BsU (w : World) (U : Nat → Prop) (v : Value) (l : List UInt8) : Prop :=
  ∃ A c, v = .slice A l.length c ∧ (0 < l.length → ∃ b off, A = some ⟨b, off, none⟩ ∧ U b ∧ (∃ cs, w.heap[b]? = some (.cells cs 5 (0, 0))) ∧ ∀ j, j < l.length → w.cell? ⟨b, off + j, none⟩ = (u8s l)[j]?)
theorem BsU.bs {w : World} {U : Nat → Prop} {v : Value} {l : List UInt8} (h : BsU w U v l) {B : Nat} (hB : ∀ b, U b → b < B) : Bs w B v l := by
  obtain ⟨A, c, e, h⟩ := h
  refine ⟨A, c, e, by simp [u8s_len], fun h0 => ?_⟩
  obtain ⟨b, off, e2, hb, _, hc⟩ := h h0
  exact ⟨b, off, e2, hB b hb, fun j hj => hc j (by omega)⟩
theorem BsU.keepT {w w' : World} {U : Nat → Prop} {v : Value} {l : List UInt8} (h : BsU w U v l) (hk : ∀ b cs, U b → w.heap[b]? = some (.cells cs 5 (0, 0)) → w'.heap[b]? = w.heap[b]?) : BsU w' U v l := by
  obtain ⟨A, c, e, h⟩ := h
  refine ⟨A, c, e, fun h0 => ?_⟩
  obtain ⟨b, off, e2, hb, ⟨cs, ht⟩, hc⟩ := h h0
  have hh := hk b cs hb ht
  exact ⟨b, off, e2, hb, ⟨cs, hh.trans ht⟩, fun j hj => (World.cell?_of_block (a := ⟨b, off + j, none⟩) hh).trans (hc j hj)⟩
theorem BsU.keep {w w' : World} {U : Nat → Prop} {v : Value} {l : List UInt8} (h : BsU w U v l) (hk : ∀ b, U b → w'.heap[b]? = w.heap[b]?) : BsU w' U v l :=
  h.keepT fun b _ hb _ => hk b hb
theorem BsU.wider {w : World} {U V : Nat → Prop} {v : Value} {l : List UInt8} (h : BsU w U v l) (hk : ∀ b, U b → V b) : BsU w V v l := by
  obtain ⟨A, c, e, h⟩ := h
  refine ⟨A, c, e, fun h0 => ?_⟩
  obtain ⟨b, off, e2, hb, ht, hc⟩ := h h0
  exact ⟨b, off, e2, hk b hb, ht, hc⟩

def sizeS (rs : List Rc) : Nat := (rs.map fun r => r.key.length + r.val.length + 16).sum

def NodeIs (w : World) (U : Nat → Prop) (n : Nd) : Prop :=
  w.heap[n.g]? = some (.cells #[n.kv, .int .i64 n.r.seq, .bool n.r.del, n.vv, .slice (some ⟨n.nb, 0, none⟩) n.h n.h] 52 (0, 0)) ∧ BsU w U n.kv n.r.key ∧ BsU w U n.vv n.r.val ∧ 1 ≤ n.h ∧ n.h ≤ 12
def RowIs (w : World) (n : Nd) (F : Nat → Value) : Prop := w.heap[n.nb]? = some (.cells (rowF F n.h) 56 (0, 0))
def HeadIs (w : World) (L : Nd) (high many size : Nat) : Prop :=
  w.heap[L.g]? = some (.cells #[.slice none 0 0, .int .i64 0, .bool false, .slice none 0 0, .slice (some ⟨L.nb, 0, none⟩) 12 12, .int .i64 high, .int .i64 many, .int .i64 size] 54 (0, 0))

/-- The list in memory, its blocks all of U. -/
structure Sk (w : World) (U : Nat → Prop) (L : Nd) (ns : List Nd) (high : Nat) : Prop where
  lt : ∀ b, U b → b < w.heap.size
  inU : ∀ n ∈ L :: ns, U n.g ∧ U n.nb
  nodup : ((L :: ns).map Nd.nb).Nodup
  head : HeadIs w L high ns.length (sizeS (ns.map Nd.r))
  hh : L.h = 12
  node : ∀ n ∈ ns, NodeIs w U n
  rows : ∀ P n S, L :: ns = P ++ n :: S → RowIs w n (fun l => hd l S)
  sorted : Sorted (ns.map Nd.r)

theorem Sk.keep {w w' : World} {U : Nat → Prop} {L : Nd} {ns : List Nd} {high : Nat} (h : Sk w U L ns high) (hs : w.heap.size ≤ w'.heap.size) (hk : ∀ b, U b → w'.heap[b]? = w.heap[b]?) : Sk w' U L ns high where
  lt b hb := Nat.lt_of_lt_of_le (h.lt b hb) hs
  inU := h.inU
  nodup := h.nodup
  head := (hk _ (h.inU L (by simp)).1).trans h.head
  hh := h.hh
  node n hn := by
    obtain ⟨h1, h2, h3, h4⟩ := h.node n hn
    exact ⟨(hk _ (h.inU n (by simp [hn])).1).trans h1, h2.keep hk, h3.keep hk, h4⟩
  rows P n S e := (hk _ (h.inU n (by rw [e]; simp)).2).trans (h.rows P n S e)
  sorted := h.sorted
theorem Sk.below {w w' : World} {U : Nat → Prop} {L : Nd} {ns : List Nd} {high : Nat} (h : Sk w U L ns high) (hb : Below w.heap.size w w') : Sk w' U L ns high :=
  h.keep hb.size fun b hU => hb.block b (h.lt b hU)

theorem cells8 {w : World} {v0 v1 v2 v3 v4 v5 v6 v7 : Value} {t g : Nat} (h : w.heap[g]? = some (.cells #[v0, v1, v2, v3, v4, v5, v6, v7] t (0, 0))) :
    w.cell? ⟨g, 0, none⟩ = some v0 ∧ w.cell? ⟨g, 1, none⟩ = some v1 ∧ w.cell? ⟨g, 2, none⟩ = some v2 ∧ w.cell? ⟨g, 3, none⟩ = some v3 ∧ w.cell? ⟨g, 4, none⟩ = some v4 ∧ w.cell? ⟨g, 5, none⟩ = some v5 ∧ w.cell? ⟨g, 6, none⟩ = some v6 ∧ w.cell? ⟨g, 7, none⟩ = some v7 ∧ ∀ i, w.frozen? ⟨g, i, none⟩ = false := by
  simp [World.cell?, World.frozen?, h]
/-- The cell that leads to a node's row, and the row's cells. -/
theorem Sk.lead {w : World} {U : Nat → Prop} {L : Nd} {ns : List Nd} {high : Nat} (h : Sk w U L ns high) {P S : List Nd} {n : Nd} (e : L :: ns = P ++ n :: S) :
    w.cell? ⟨n.g, 4, none⟩ = some (.slice (some ⟨n.nb, 0, none⟩) n.h n.h) ∧ ∀ l, l < n.h → w.cell? ⟨n.nb, l, none⟩ = some (hd l S) := by
  refine ⟨?_, fun l hl => ?_⟩
  · rcases P with _ | ⟨p, P⟩
    · simp at e
      obtain ⟨rfl, rfl⟩ := e
      have := (cells8 h.head).2.2.2.2.1
      rw [this, h.hh]
    · simp at e
      have hn : n ∈ ns := by rw [e.2]; simp
      exact (cells5 (h.node n hn).1).2.2.2.2.1
  · rw [blk_cell (h.rows P n S e), rowF_get _ hl]

theorem setCells_form {g : Nat} {t : TypeId} : ∀ (vs : List Value) (o : Nat) (w : World) (cs : Array Value), w.heap[g]? = some (.cells cs t (0, 0)) → ∃ cs' : Array Value, (w.setCells g o vs).heap[g]? = some (.cells cs' t (0, 0)) ∧ cs'.size = cs.size
  | [], _, _, cs, h => ⟨cs, h, rfl⟩
  | v :: vs, o, w, cs, h => by
    obtain ⟨cs', h1, h2⟩ := setCells_form vs (o + 1) _ _ (blk_set h o v)
    exact ⟨cs', h1, by simpa using h2⟩
/-- A whole block stored anew. -/
theorem heap_setCells_row {g : Nat} {t : TypeId} {w : World} {cs : Array Value} (h : w.heap[g]? = some (.cells cs t (0, 0))) (ds : Array Value) (hs : cs.size = ds.size) : (w.setCells g 0 ds.toList).heap[g]? = some (.cells ds t (0, 0)) := by
  obtain ⟨cs', h1, h2⟩ := setCells_form ds.toList 0 w cs h
  have : cs' = ds := by
    apply Array.ext
    · omega
    · intro i hi1 hi2
      have h3 := World.cell?_setCells_in g ds.toList 0 w (fun j hj => by rw [blk_cell h, Array.getElem?_eq_getElem (by simp at hj; omega)]; rfl) i (by simpa using hi2)
      rw [blk_cell h1, Array.getElem?_eq_getElem (by omega)] at h3
      simpa using h3
  rw [h1, this]
theorem below_setCells' {B g : Nat} {a : World} (hg : B ≤ g) : ∀ (vs : List Value) (o : Nat) (w : World), Below B a w → Below B a (w.setCells g o vs)
  | [], _, _, h => h
  | v :: vs, o, w, h => below_setCells' hg vs (o + 1) _ (h.setCell hg v)

/-- The way down in memory, so far. -/
def outF (L : Nd) (A : List Nd) (k : Nat) : Nat → Value := fun j => if k ≤ j then ptr (lastOn j L A).g else .pointer none
theorem outF_start (L : Nd) (A : List Nd) : rowF (outF L A 12) 12 = rowF (fun _ => .pointer none) 12 :=
  rowF_congr _ _ _ fun l hl => by unfold outF; rw [if_neg (by omega)]
theorem outF_end (L : Nd) (A : List Nd) : rowF (outF L A 0) 12 = rowF (fun l => ptr (lastOn l L A).g) 12 :=
  rowF_congr _ _ _ fun l hl => by unfold outF; rw [if_pos (by omega)]
theorem outF_set (L : Nd) (A : List Nd) (j : Nat) : (rowF (outF L A (j + 1)) 12).setIfInBounds j (ptr (lastOn j L A).g) = rowF (outF L A j) 12 :=
  by
    refine rowF_set _ _ _ _ _ ?_ ?_
    · intro l hl hne
      unfold outF
      by_cases h : j + 1 ≤ l
      · rw [if_pos h, if_pos (by omega)]
      · rw [if_neg h, if_neg (by omega)]
    · intro _; unfold outF; rw [if_pos (Nat.le_refl _)]

/-- What holds at the way down's outer loop: levels from k on are done. -/
def Down (U : Nat → Prop) (L : Nd) (A B : List Nd) (high : Nat) (w : World) (k : Nat) (wr : World) : Prop :=
  wr.heap[w.heap.size + 1]? = some (.cells (rowF (outF L A k) 12) 57 (0, 0)) ∧ wr.heap[w.heap.size]? = some (.cells (rowF (fun _ => .pointer none) 12) 57 (0, 0)) ∧ Below w.heap.size w wr ∧ Sk wr U L (A ++ B) high
theorem Down.start {U : Nat → Prop} {L : Nd} {A B : List Nd} {high : Nat} {w : World} (h : Sk w U L (A ++ B) high) :
    Down U L A B high w 12 ((w.alloc (.cells (rowF (fun _ => .pointer none) 12) 57)).alloc (.cells (rowF (fun _ => .pointer none) 12) 57)) := by
  refine ⟨by rw [outF_start]; exact heap_alloc2_new w _ _, heap_alloc2_old w _ _, ?_, ?_⟩
  · exact ((Below.refl _ _).alloc (Nat.le_refl _) _).alloc (by simp) _
  · exact h.below (((Below.refl _ _).alloc (Nat.le_refl _) _).alloc (by simp) _)
theorem Down.below {U : Nat → Prop} {L : Nd} {A B : List Nd} {high k : Nat} {w wr w' : World} (h : Down U L A B high w k wr) (hb : Below wr.heap.size wr w') : Down U L A B high w k w' :=
  ⟨blk_below h.1 hb (blk_lt h.1), blk_below h.2.1 hb (blk_lt h.2.1), h.2.2.1.trans (hb.mono h.2.2.1.size), h.2.2.2.below hb⟩
theorem Down.step {U : Nat → Prop} {L : Nd} {A B : List Nd} {high j : Nat} {w wr : World} (h : Down U L A B high w (j + 1) wr) (hl : ∀ b, U b → b < w.heap.size) :
    Down U L A B high w j (wr.setCell ⟨w.heap.size + 1, j, none⟩ (ptr (lastOn j L A).g)) := by
  refine ⟨by rw [← outF_set]; exact blk_set h.1 _ _, blk_far h.2.1 (by show w.heap.size ≠ w.heap.size + 1; omega) _, h.2.2.1.setCell (by show w.heap.size ≤ w.heap.size + 1; omega) _, ?_⟩
  refine h.2.2.2.keep (by simp [World.setCell]) fun b hb => Below.heap_setCell _ _ _ _ ?_
  have := hl b hb
  show b ≠ w.heap.size + 1
  omega

/-- The first one on a level is nil, or a node. -/
theorem hd_cases (l : Nat) (X : List Nd) : (hd l X = .pointer none ∧ ∀ x ∈ X, ¬ l < x.h) ∨ ∃ P x S, X = P ++ x :: S ∧ (∀ p ∈ P, ¬ l < p.h) ∧ l < x.h ∧ hd l X = ptr x.g := by
  rcases find_level l X with h | ⟨P, x, S, rfl, h1, h2⟩
  · refine .inl ⟨?_, h⟩
    have := hd_skip (l := l) (X := X) [] h
    rw [List.append_nil] at this
    exact this
  · exact .inr ⟨P, x, S, rfl, h1, h2, by rw [hd_skip _ h1, hd_at _ h2]⟩

set_option maxHeartbeats 1600000 in
set_option maxRecDepth 100000 in
theorem behind_any (U : Nat → Prop) (L : Nd) (A B : List Nd) (high : Nat) (key : List UInt8) (seq : Int) (u : Value) (w : World) (h : Sk w U L (A ++ B) high) (hu : Bs w w.heap.size u key)
    (hA : ∀ a ∈ A, ordS a.r key seq < 0) (hB : ∀ b ∈ B, ¬ ordS b.r key seq < 0) :
    Calls Try.prog 24 #[ptr L.g, u, .int .i64 seq] w fun e w' => e = .returned (.agg (rowF (fun l => ptr (lastOn l L A).g) 12)) ∧ Below w.heap.size w w' := by
  have H0 := Lib.hid (Down.start h)
  have HL := Lib.hid h.lt
  have HLh := Lib.hid h.hh
  obtain ⟨y0, y1, y2, y3, y4, y5, y6, y7, y8⟩ := cells8 h.head
  have HA := Lib.hid hA
  have HB := Lib.hid hB
  clear hA hB
  unfold ptr
  go_enter Try.func24, Try.ntmps24
  go_wp2_with fail
  clear y0 y1 y2 y3 y4 y5 y6 y7 y8 h
  go_loopg [8, 9] 12 (fun k va vl wr => ∃ (lv : Int) (P S : List Nd) (a : Nd), k ≤ 12 ∧ lv = k - 1 ∧ vl = .int .i64 lv ∧ k ≤ a.h ∧ va = .pointer (some ⟨a.g, 0, none⟩) ∧ L :: A = P ++ a :: S ∧ Down U L A B high w k wr)
  case atStart => exact ⟨11, [], A, L, by omega, by omega, rfl, by have := HLh.out; omega, rfl, rfl, H0.out⟩
  case round =>
    obtain ⟨lv, P, S, a, hk, hlv, rfl, hka, rfl, hLA, hD⟩ := hrel
    have HLA := Lib.hid hLA; clear hLA
    rcases gk with _ | j
    · obtain rfl : lv = -1 := by omega
      clear hlv
      have b1 := Lib.hid hD.1
      have b2 := Lib.hid hD.2.1
      have HD := Lib.hid hD; clear hD
      have hsz : (Try.prog.info? 57).map (·.size) = some (rowF (outF L A 0) 12).size := by rw [rowF_size]; kernel_rfl
      have HS := Lib.hid hsz; clear hsz
      go_upto_region 11 with fail
      go_step
      refine wpList_load_row rfl 57 (.tmp 7) rfl (w.heap.size + 1) (by rfl) 57 (rowF (outF L A 0) 12) (0, 0) _ b1.out Try.underlying57 rfl HS.out ?_
      refine wpList_store_mid rfl 57 (.tmp 6) (.tmp 45) rfl w.heap.size 0 (rowF (outF L A 0) 12) (by rfl) (by rfl) (fun j hj => ?c1) HS.out ?c2 ?_
      case c1 =>
        rw [rowF_size] at hj
        exact ⟨by rw [blk_cell b2.out, Nat.zero_add, rowF_get _ hj]; rfl, blk_free b2.out _⟩
      case c2 =>
        apply Array.all_eq_true_iff_forall_mem.2
        intro v hv
        unfold rowF at hv
        obtain ⟨l, _, rfl⟩ := List.mem_map.1 (by simpa using hv : v ∈ (List.range 12).map (outF L A 0))
        unfold outF ptr; split <;> rfl
      have b3 := heap_setCells_row b2.out (rowF (outF L A 0) 12) (by rw [rowF_size, rowF_size])
      have b4 := below_setCells' (Nat.le_refl _) (rowF (outF L A 0) 12).toList 0 wr HD.out.2.2.1
      generalize wr.setCells w.heap.size 0 (rowF (outF L A 0) 12).toList = wz at *
      have B3 := Lib.hid b3; clear b3
      have B4 := Lib.hid b4; clear b4
      go_wp2_with fail
      refine bodyPost_ret (results_cell_row rfl _ _ w.heap.size 57 (rowF (outF L A 0) 12) (0, 0) _ (by rfl) B3.out Try.underlying57 rfl HS.out) rfl ?_
      exact ⟨by rw [outF_end]; rfl, B4.out⟩
    · obtain rfl : lv = (j : Int) := by omega
      clear hlv
      obtain ⟨l1, l2⟩ := hD.2.2.2.lead (show L :: (A ++ B) = P ++ a :: (S ++ B) by rw [← List.cons_append, HLA.out]; simp)
      have l3 := l2 j (by omega)
      have HD := Lib.hid hD; clear hD l2
      have i1 : (0 : Int) ≤ (j : Int) := by omega
      have i2 : (j : Int) < (a.h : Int) := by omega
      have i3 : j < a.h := by omega
      have i4 : (j : Int) < 12 := by omega
      have i5 : j < 12 := by omega
      go_wp2_with fail
      clear l1 l3
      obtain ⟨wo, hwo⟩ : ∃ wo : World, wo = wr := ⟨_, rfl⟩
      subst hwo
      go_loopg [8, 10] S.length (fun k va vn wr' => ∃ (P S : List Nd) (a : Nd), k = S.length ∧ j < a.h ∧ va = .pointer (some ⟨a.g, 0, none⟩) ∧ vn = hd j (S ++ B) ∧ L :: A = P ++ a :: S ∧ Down U L A B high w (j + 1) wr')
      case atStart => exact ⟨P, S, a, rfl, i3, rfl, rfl, HLA.out, HD.out⟩
      case round =>
        clear HLA HD
        obtain ⟨P', S', a', hgk, hja, rfl, rfl, hLA, hD⟩ := hrel
        have HLA := Lib.hid hLA; clear hLA
        have HD := Lib.hid hD; clear hD
        have HG := Lib.hid hgk; clear hgk
        clear i2 i3
        have i2 : (j : Int) < (a'.h : Int) := by omega
        have case1 := hd_cases j S'
        rcases case1 with ⟨e1, n1⟩ | ⟨X, b, Y, e1, n1, n2, e2⟩
        · have e3 : hd j (S' ++ B) = hd j B := hd_skip _ n1
          rw [e3]
          have EL := Lib.hid (lastOn_split HLA.out hja n1)
          clear e1 e3 n1
          rcases hd_cases j B with ⟨e4, n4⟩ | ⟨X, b, Y, e4, n4, n5, e6⟩
          · rw [e4]; clear e4 n4
            obtain ⟨z1, z2⟩ : wr.cell? ⟨w.heap.size + 1, j, none⟩ = some (.pointer none) ∧ wr.frozen? ⟨w.heap.size + 1, j, none⟩ = false := ⟨by rw [blk_cell HD.out.1, rowF_get _ i5]; unfold outF; rw [if_neg (by omega)], blk_free HD.out.1 _⟩
            go_wp2_with fail
            go_roundg j
            case measure => omega
            case rel => exact ⟨(j : Int) - 1, P', S', a', by omega, by omega, rfl, by omega, rfl, HLA.out, by have := HD.out.step HL.out; rw [EL.out] at this; exact this⟩
          · rw [e6]
            have hb : b ∈ B := by rw [e4]; simp
            have ho := HB.out b hb
            obtain ⟨o, eo⟩ : ∃ o, ordS b.r key seq = o := ⟨_, rfl⟩
            rw [eo] at ho
            have EO := Lib.hid eo
            clear e4 n4 n5 e6 eo
            have nb := HD.out.2.2.2.node b (by simp [hb])
            have NB := Lib.hid nb; clear nb
            unfold ptr
            go_wp2_with fail
            refine (order_any b.g _ b.kv _ b.vv _ u b.r key seq 0 _ NB.out.1 (NB.out.2.1.bs HD.out.2.2.2.lt) ((hu.below HD.out.2.2.1).wider HD.out.2.2.1.size)).mono ?_
            rintro e w1 ⟨rfl, hw1⟩
            rw [EO.out]
            have HD1 := Lib.hid (HD.out.below hw1); clear hw1
            obtain ⟨z1, z2⟩ : w1.cell? ⟨w.heap.size + 1, j, none⟩ = some (.pointer none) ∧ w1.frozen? ⟨w.heap.size + 1, j, none⟩ = false := ⟨by rw [blk_cell HD1.out.1, rowF_get _ i5]; unfold outF; rw [if_neg (by omega)], blk_free HD1.out.1 _⟩
            go_wp2_with fail
            go_roundg j
            case measure => omega
            case rel => exact ⟨(j : Int) - 1, P', S', a', by omega, by omega, rfl, by omega, rfl, HLA.out, by have := HD1.out.step HL.out; rw [EL.out] at this; exact this⟩
        · have e3 : hd j (S' ++ B) = ptr b.g := by rw [e1, List.append_assoc, hd_skip _ n1]; exact hd_at _ n2
          rw [e3]
          have hb : b ∈ A ++ B := by
            have hm : b ∈ L :: A := by rw [HLA.out, e1]; simp
            rcases P' with _ | ⟨p, P'⟩
            · have := HLA.out; simp at this; rw [this.2, e1]; simp
            · have := HLA.out; simp at this; rw [this.2, e1]; simp
          have hba : b ∈ A := by
            rcases P' with _ | ⟨p, P'⟩
            · have := HLA.out; simp at this; rw [this.2, e1]; simp
            · have := HLA.out; simp at this; rw [this.2, e1]; simp
          have ho := HA.out b hba
          obtain ⟨o, eo⟩ : ∃ o, ordS b.r key seq = o := ⟨_, rfl⟩
          rw [eo] at ho
          have EO := Lib.hid eo
          have NB := Lib.hid (HD.out.2.2.2.node b hb)
          have E1 := Lib.hid e1
          clear e1 n1 e2 e3 eo hb hba
          unfold ptr
          go_wp2_with fail
          refine (order_any b.g _ b.kv _ b.vv _ u b.r key seq 0 _ NB.out.1 (NB.out.2.1.bs HD.out.2.2.2.lt) ((hu.below HD.out.2.2.1).wider HD.out.2.2.1.size)).mono ?_
          rintro e w1 ⟨rfl, hw1⟩
          rw [EO.out]
          have HD1 := Lib.hid (HD.out.below hw1); clear hw1
          have hsp : L :: A = (P' ++ a' :: X) ++ b :: Y := by rw [HLA.out, E1.out]; simp
          obtain ⟨l1, l2⟩ := HD1.out.2.2.2.lead (show L :: (A ++ B) = (P' ++ a' :: X) ++ b :: (Y ++ B) by rw [← List.cons_append, hsp]; simp)
          have l3 := l2 j n2
          have HSP := Lib.hid hsp; clear hsp l2
          have i3 : (j : Int) < (b.h : Int) := by omega
          go_wp2_with fail
          go_roundg Y.length
          case measure => rw [HG.out, E1.out]; simp; omega
          case rel => exact ⟨P' ++ a' :: X, Y, b, rfl, n2, rfl, rfl, HSP.out, HD1.out⟩
end Go.Proofs.Ytpgbinijocbfmaa
