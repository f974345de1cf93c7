/- A row of records that is made: how it lies, and stays. -/
import Derived.Test.YtfcemlcocdhmfaaXG
namespace Go.Proofs.Ytfcemlcocdhmfaa
open Go.RowKit Go
set_option linter.unusedVariables false
set_option linter.unusedSimpArgs false

theorem RowB.bs {w : World} {v : Value} {qs : List El} (h : RowB w v qs) : ∀ q ∈ qs, Bs w w.heap.size q.kv q.r.key ∧ Bs w w.heap.size q.vv q.r.val := let ⟨_, _, _, _, _, hq⟩ := h; hq
def LenR (q : El) : Prop := q.r.key.length ≤ 1099511627776 ∧ q.r.val.length ≤ 1099511627776
/-- A row of records of the call's own. -/
structure OutAt (w : World) (B : Nat) (v : Value) (qs : List El) : Prop where
  own : w.ownsRow B 40 4 v qs.length (elCells qs)
  el : ∀ q ∈ qs, Mine B w q.kv q.r.key ∧ Mine B w q.vv q.r.val
theorem OutAt.nil (w : World) (B : Nat) : OutAt w B (.slice none 0 0) [] := ⟨World.ownsRow_nil _ _ _ _, fun q hq => by simp at hq⟩
theorem OutAt.keepT {w w' : World} {B : Nat} {v : Value} {qs : List El} (h : OutAt w B v qs) (hs : w.heap.size ≤ w'.heap.size)
    (hk : ∀ (b : Nat) (cs : Array Value) (t : Nat), t = 40 ∨ t = 5 → w.heap[b]? = some (Obj.cells cs t (0, 0)) → w'.heap[b]? = w.heap[b]?) : OutAt w' B v qs := by
  refine ⟨?_, fun q hq => ⟨((h.el q hq).1).moveT hs fun b cs hb => hk b cs _ (.inr rfl) hb, ((h.el q hq).2).moveT hs fun b cs hb => hk b cs _ (.inr rfl) hb⟩⟩
  obtain ⟨h1, h2⟩ := h.own
  refine ⟨h1, ?_⟩
  rcases h2 with h2 | ⟨g, cap, cur, e, hb, hg, r⟩
  · exact .inl h2
  · exact .inr ⟨g, cap, cur, e, hb, (hk g cur _ (.inl rfl) hg).trans hg, r⟩
theorem OutAt.below {w w' : World} {B : Nat} {v : Value} {qs : List El} (h : OutAt w B v qs) (hb : Below w.heap.size w w') : OutAt w' B v qs :=
  h.keepT hb.size fun b cs t _ hc => hb.block b (blk_lt hc)
theorem OutAt.drew {w : World} {B : Nat} {v : Value} {qs : List El} (h : OutAt w B v qs) : OutAt w.drew B v qs := h.keepT (Nat.le_refl _) fun _ _ _ _ _ => rfl
theorem Mine.bs {w : World} {B : Nat} {v : Value} {l : List UInt8} (h : Mine B w v l) : Bs w w.heap.size v l := h.1.bs fun b hb => hb.2
theorem OutAt.row {w : World} {B : Nat} {v : Value} {qs : List El} (h : OutAt w B v qs) : RowB w v qs := by
  have hu := RowU.of_own h.own
  obtain ⟨A, c, rfl⟩ := hu.form
  obtain ⟨h1, h2⟩ := hu.rd (B := w.heap.size) fun b hb => hb.2
  exact ⟨A, c, rfl, h2, h1, fun q hq => ⟨(h.el q hq).1.bs, (h.el q hq).2.bs⟩⟩
theorem OutAt.gr2 {w w' : World} {B gh g c : Nat} {v hv : Value} {qs : List El} {hs : List Rn} (h : OutAt w B v qs) (hg : Gr2 w w' gh g) (h1 : Hdr w gh hv) (h2 : HAt w g c hs) : OutAt w' B v qs := by
  obtain ⟨⟨cur, h3, _⟩, _⟩ := h2
  refine h.keepT hg.size fun b cs t ht hc => hg.block b (blk_lt hc) (fun e => ?_) (fun e => ?_)
  · subst e
    rw [h1.cell] at hc
    injection hc with hc; injection hc with _ hc
    rcases ht with ht | ht <;> rw [ht] at hc <;> exact absurd hc (by decide)
  · subst e
    rw [h3] at hc
    injection hc with hc; injection hc with _ hc
    rcases ht with ht | ht <;> rw [ht] at hc <;> exact absurd hc (by decide)
theorem HS.hdr {w : World} {B gh g c cap : Nat} {hs tl : List Rn} (h : HS w B gh g c cap hs tl) : Hdr w gh (.slice (some ⟨g, 0, none⟩) (hs.length + tl.length) cap) := ⟨h.hb⟩
theorem HS.of_blocks {w w' : World} {B gh g c cap : Nat} {hs tl : List Rn} (h : HS w B gh g c cap hs tl) (h1 : w'.heap[gh]? = w.heap[gh]?) (h2 : w'.heap[g]? = w.heap[g]?) (hk : ∀ p : Addr, p.block < B → w'.cell? p = w.cell? p) : HS w' B gh g c cap hs tl := by
  obtain ⟨⟨cur, a1, a2, a3⟩, a4, a5⟩ := h.at_
  exact ⟨h1.trans h.hb, ⟨⟨cur, h2.trans a1, a2, a3⟩, a4, a5⟩, h.ne, h.gB, h.hB, fun r hr => (h.rn r hr).keep hk, h.nm⟩
/-- A heap's first run is another one. -/
theorem HAt.set0 {w : World} {g c : Nat} {lv lv' : Value} {els els' : List El} {pl : Nat} {rs : List Rn} (h : HAt w g c (⟨lv, els, pl⟩ :: rs)) : HAt (w.setCell ⟨g, 0, none⟩ lv') g c (⟨lv', els', pl⟩ :: rs) := by
  obtain ⟨⟨cur, h1, h2, h3⟩, h4, h5⟩ := h
  have hc : 0 < c := by simp at h4; omega
  refine ⟨⟨_, blk_set h1 0 _, by simp [h2], fun k hk => ?_⟩, by simpa using h4, h5⟩
  cases k with
  | zero =>
    have e := h3 0 (by simp)
    simp only [Nat.zero_mul, Nat.zero_add, List.getElem_cons_zero] at e ⊢
    refine ⟨by simp [h2, hc], ?_⟩
    rw [Array.getElem?_setIfInBounds_ne (by omega)]; exact e.2
  | succ k =>
    have e := h3 (k + 1) (by simpa using hk)
    refine ⟨?_, ?_⟩
    · rw [Array.getElem?_setIfInBounds_ne (by omega)]; simpa using e.1
    · rw [Array.getElem?_setIfInBounds_ne (by omega)]; simpa using e.2
theorem RnB.drop {w : World} {B b off n c pl : Nat} {q : El} {es : List El} (h : RnB w B ⟨.slice (some ⟨b, off, none⟩) n c, q :: es, pl⟩) (h0 : es ≠ []) : RnB w B ⟨.slice (some ⟨b, off + 4, none⟩) es.length (c - 1), es, pl⟩ := by
  obtain ⟨⟨A, c', e, h2, h3, h4⟩, _, h6, h7⟩ := h
  injection e with e1 e2 e3
  subst e1 e3
  have hc : c ≠ 1 := by
    have : 0 < es.length := List.length_pos_iff.2 h0
    simp at h2; omega
  have hr := h3.drop (k := 1) (c := c) (by simp) h2
  rw [if_neg hc, elCells_drop] at hr
  refine ⟨⟨some ⟨b, off + 4, none⟩, c - 1, rfl, by simp at h2 ⊢; omega, ?_, fun z hz => h4 z (List.mem_cons_of_mem _ hz)⟩, h0, by simp at h6 ⊢; omega, h7⟩
  simp only [Option.map_some, Nat.one_mul, List.length_cons, Nat.add_sub_cancel, List.drop_succ_cons, List.drop_zero] at hr
  rw [show (⟨b, off, none⟩ : Addr).add 4 = ⟨b, off + 4, none⟩ from rfl] at hr
  exact hr
/-- One record more. -/
theorem OutAt.app {w w' : World} {B : Nat} {v v' : Value} {qs : List El} {q : El} (h : OutAt w B v qs) (hk : Mine B w q.kv q.r.key ∧ Mine B w q.vv q.r.val) (ho : w'.ownsRow B 40 4 v' (qs.length + 1) (elCells qs ++ q.cells)) (hg : w.grownBy w' v.ownBlock) : OutAt w' B v' (qs ++ [q]) := by
  have hkb : ∀ (b : Nat) (cs : Array Value), w.heap[b]? = some (Obj.cells cs 5 (0, 0)) → w'.heap[b]? = w.heap[b]? := fun b cs hb => by
    refine hg.block b (blk_lt hb) fun e => ?_
    obtain ⟨_, cs', h'⟩ := own_block_type h.own e.symm
    exact ne_of_type hb h' (by decide) rfl
  refine ⟨by rw [elCells_app, List.length_append]; simpa [elCells] using ho, fun z hz => ?_⟩
  rcases List.mem_append.1 hz with hz | hz
  · exact ⟨((h.el z hz).1).moveT hg.size hkb, ((h.el z hz).2).moveT hg.size hkb⟩
  · rw [List.mem_singleton.1 hz]; exact ⟨hk.1.moveT hg.size hkb, hk.2.moveT hg.size hkb⟩
/-- What an append to the row leaves of a heap. -/
theorem HS.app {w w' : World} {B gh g c cap n : Nat} {hs tl : List Rn} {v : Value} {xs : List Value} (h : HS w B gh g c cap hs tl) (ho : w.ownsRow B 40 4 v n xs) (hg : w.grownBy w' v.ownBlock) : HS w' B gh g c cap hs tl := by
  obtain ⟨⟨cur, a1, a2, a3⟩, a4, a5⟩ := h.at_
  have hB : B ≤ w.heap.size := by have := h.lt; have := h.gB; omega
  refine h.of_blocks (hg.block gh h.hlt fun e => ?_) (hg.block g h.lt fun e => ?_) fun p hp => ?_
  · obtain ⟨_, cs', h'⟩ := own_block_type ho e.symm
    exact ne_of_type h.hb h' (by decide) rfl
  · obtain ⟨_, cs', h'⟩ := own_block_type ho e.symm
    exact ne_of_type a1 h' (by decide) rfl
  · refine World.cell?_of_block (hg.block p.block (by omega) fun e => ?_)
    have := (own_block_type ho e.symm).1; omega
theorem own_app_below {w0 w w' : World} {B n : Nat} {v : Value} {xs : List Value} (hb : Below B w0 w) (hB : B ≤ w.heap.size) (ho : w.ownsRow B 40 4 v n xs) (hg : w.grownBy w' v.ownBlock) : Below B w0 w' :=
  hb.grown hg hB fun k e => (own_block_type ho e).1
end Go.Proofs.Ytfcemlcocdhmfaa
