/- Rows of pairs that are made; the closure of At. -/
import Derived.Test.YtfcemlcocdhmfaaXI
import Derived.Test.YtfcemlcocdhmfaaXC
import Derived.Test.YtfcemlcocdhmfaaXH
import Derived.Test.YtfcemlcocdhmfaaXD
/- Rows of pairs that are made: how they lie, and stay; an append of one pair. -/
namespace Go.Proofs.Ytfcemlcocdhmfaa
open Go.RowKit Go
set_option linter.unusedVariables false
set_option linter.unusedSimpArgs false

theorem pair_info : (Try.prog.info? 58).map (fun i => (i.zero, i.size, i.bytes)) = some (some (.agg #[.slice none 0 0, .slice none 0 0]), 2, 48) := by kernel_rfl
theorem pair_parts : ∃ i0, Try.prog.info? 58 = some i0 ∧ ∃ z, i0.zero = some z ∧ z.cells.size = 2 ∧ i0.size = 2 ∧ i0.bytes = 48 := by
  obtain ⟨i0, hi, hz0, hz1, hz2⟩ := info_parts pair_info
  exact ⟨i0, hi, _, hz0, rfl, hz1, hz2⟩
/-- A row of pairs of the call's own. -/
structure OutP (w : World) (B : Nat) (v : Value) (ps : List Pr) : Prop where
  own : w.ownsRow B 58 2 v ps.length (prCells ps)
  el : ∀ q ∈ ps, Mine B w q.kv q.p.1 ∧ Mine B w q.vv q.p.2
theorem OutP.nil (w : World) (B : Nat) : OutP w B (.slice none 0 0) [] := ⟨World.ownsRow_nil _ _ _ _, fun q hq => by simp at hq⟩
theorem OutP.keepT {w w' : World} {B : Nat} {v : Value} {ps : List Pr} (h : OutP w B v ps) (hs : w.heap.size ≤ w'.heap.size)
    (hk : ∀ (b : Nat) (cs : Array Value) (t : Nat), t = 58 ∨ t = 5 → w.heap[b]? = some (Obj.cells cs t (0, 0)) → w'.heap[b]? = w.heap[b]?) : OutP w' B v ps := by
  refine ⟨?_, fun q hq => ⟨((h.el q hq).1).moveT hs fun b cs hb => hk b cs _ (.inr rfl) hb, ((h.el q hq).2).moveT hs fun b cs hb => hk b cs _ (.inr rfl) hb⟩⟩
  obtain ⟨h1, h2⟩ := h.own
  refine ⟨h1, ?_⟩
  rcases h2 with h2 | ⟨g, cap, cur, e, hb, hg, r⟩
  · exact .inl h2
  · exact .inr ⟨g, cap, cur, e, hb, (hk g cur _ (.inl rfl) hg).trans hg, r⟩
theorem OutP.below {w w' : World} {B : Nat} {v : Value} {ps : List Pr} (h : OutP w B v ps) (hb : Below w.heap.size w w') : OutP w' B v ps :=
  h.keepT hb.size fun b cs t _ hc => hb.block b (blk_lt hc)
theorem OutP.form {w : World} {B : Nat} {v : Value} {ps : List Pr} (h : OutP w B v ps) : ∃ A c, v = .slice A ps.length c := by
  obtain ⟨A, c, e, _⟩ := own_form h.own; exact ⟨A, c, e⟩
theorem OutP.row {w : World} {B : Nat} {v : Value} {ps : List Pr} (h : OutP w B v ps) : RowP w v ps := by
  obtain ⟨A, c, rfl⟩ := h.form
  exact ⟨A, c, rfl, Rd.of_own h.own, fun q hq => ⟨(h.el q hq).1.bs, (h.el q hq).2.bs⟩⟩
/-- A box of a pair list is set anew. -/
theorem OutP.set {w : World} {B go : Nat} {v u : Value} {ps : List Pr} {cs : Array Value} {t : Nat} (h : OutP w B v ps) (hc : w.heap[go]? = some (.cells cs t (0, 0))) (h1 : t ≠ 58) (h2 : t ≠ 5) (i : Nat) : OutP (w.setCell ⟨go, i, none⟩ u) B v ps :=
  h.keepT (by simp [World.setCell]) fun b cs' t' ht hb => Below.heap_setCell _ _ _ _ (by
    rcases ht with ht | ht
    · exact fun e => ne_of_type hc hb (by rw [ht]; exact h1) e.symm
    · exact fun e => ne_of_type hc hb (by rw [ht]; exact h2) e.symm)
/-- A block of another type stays, when the row grows. -/
theorem grown_keep {w w' : World} {B n s go : Nat} {e : TypeId} {v : Value} {xs : List Value} {cs : Array Value} {t : Nat} (ho : w.ownsRow B e s v n xs) (hg : w.grownBy w' v.ownBlock) (hc : w.heap[go]? = some (.cells cs t (0, 0))) (h1 : t ≠ e) : w'.heap[go]? = some (.cells cs t (0, 0)) := by
  refine (hg.block go (blk_lt hc) fun e' => ?_).trans hc
  obtain ⟨_, cs', h'⟩ := own_block_type ho e'.symm
  exact ne_of_type hc h' h1 rfl
theorem pair_one {A A' : Option Addr} {n n' c c' : Nat} : ∀ u ∈ (#[.slice A n c, .slice A' n' c'] : Array Value).toList, u.oneCell' = true := by
  intro u hu; simp at hu; rcases hu with rfl | rfl <;> rfl
/-- One pair more, laid first in a block of its own. -/
theorem app_pr {ops : Array Oper} {rest : List Oper} {o : Oper} {a : Act} {Q : Exit → Act → World → Prop} (hgd : o.guard = none) (s x : Operand)
    (ho : o.op = .call { callee := .builtin .append, args := #[s, x], argTypes := #[32, 32] })
    (w : World) (B : Nat) (v : Value) (ps : List Pr) (A : Option Addr) (c : Nat) (A' : Option Addr) (c' : Nat) (k l : List UInt8) (hs : a.eval s = v) (hx : a.eval x = .slice (some ⟨w.heap.size, 0, none⟩) 1 1)
    (hO : OutP w B v ps) (hm : Mine B w (.slice A k.length c) k ∧ Mine B w (.slice A' l.length c') l) (hb : B ≤ w.heap.size) (hl : ps.length ≤ 2000000000)
    (h : ∀ v' w', OutP w' B v' (ps ++ [⟨.slice A k.length c, .slice A' l.length c', (k, l)⟩]) → (w.alloc (.cells #[.slice A k.length c, .slice A' l.length c'] 58)).ownsRow B 58 2 v ps.length (prCells ps) → (w.alloc (.cells #[.slice A k.length c, .slice A' l.length c'] 58)).grownBy w' v.ownBlock → wpList Try.prog ops Q rest (a.put o.dst v') w') :
    wpList Try.prog ops Q (o :: rest) a (w.alloc (.cells #[.slice A k.length c, .slice A' l.length c'] 58)) := by
  obtain ⟨i0, hi, z, hz0, hz, hz1, hz2⟩ := pair_parts
  have hbw' : B ≤ (w.alloc (.cells #[.slice A k.length c, .slice A' l.length c'] 58)).heap.size := Nat.le_trans hb (by simp)
  have ho' : (w.alloc (.cells #[.slice A k.length c, .slice A' l.length c'] 58)).ownsRow B 58 2 v ps.length (prCells ps) := World.ownsRow.alloc hO.own _
  have hO' := hO.below (bnewH w (.cells #[.slice A k.length c, .slice A' l.length c'] 58))
  have hm' : Mine B (w.alloc (.cells #[.slice A k.length c, .slice A' l.length c'] 58)) (.slice A k.length c) k ∧ Mine B (w.alloc (.cells #[.slice A k.length c, .slice A' l.length c'] 58)) (.slice A' l.length c') l :=
    ⟨hm.1.moveT (by simp) (fun b cs hb => Below.heap_alloc _ _ _ (blk_lt hb)), hm.2.moveT (by simp) (fun b cs hb => Below.heap_alloc _ _ _ (blk_lt hb))⟩
  refine wpList_app hgd s x _ ho B 58 i0 z 2 48 Try.underlying32 hi hz0 hz1 hz2 hz (by omega) v ps.length (prCells ps) hs ho' _ _ 1 1 _ hx (Rd.fresh w #[.slice A k.length c, .slice A' l.length c'] 58 1 2 rfl) pair_one (by unfold maxLen; omega) (by omega) hbw' ?_
  intro v4 w4 hO4 hg _
  have hkb : ∀ (b : Nat) (cs : Array Value), (w.alloc (.cells #[.slice A k.length c, .slice A' l.length c'] 58)).heap[b]? = some (Obj.cells cs 5 (0, 0)) → w4.heap[b]? = (w.alloc (.cells #[.slice A k.length c, .slice A' l.length c'] 58)).heap[b]? := fun b cs hb =>
    (grown_keep ho' hg hb (by decide)).trans hb.symm
  refine h v4 w4 ⟨?_, fun z hz => ?_⟩ ho' hg
  · rw [prCells_app, List.length_append]
    simpa [prCells, Pr.cells] using hO4
  · rcases List.mem_append.1 hz with hz | hz
    · exact ⟨((hO'.el z hz).1).moveT hg.size hkb, ((hO'.el z hz).2).moveT hg.size hkb⟩
    · rw [List.mem_singleton.1 hz]; exact ⟨hm'.1.moveT hg.size hkb, hm'.2.moveT hg.size hkb⟩
/-- Where the first record stands that is not behind a moment. -/
theorem firstAt_cases (seq : Int) : ∀ (rs : List Rc) (k : Nat), (firstAt seq k rs = -1 ∧ atG seq rs = []) ∨ ∃ j r, rs[j]? = some r ∧ firstAt seq k rs = ((k + j : Nat) : Int) ∧ atG seq rs = if r.del then [] else [(r.key, r.val)]
  | [], k => .inl ⟨rfl, rfl⟩
  | r :: rs, k => by
    by_cases h : r.seq ≤ seq
    · exact .inr ⟨0, r, rfl, by rw [firstAt, if_pos h]; rfl, by rw [atG, if_pos h]⟩
    · rcases firstAt_cases seq rs (k + 1) with ⟨h1, h2⟩ | ⟨j, x, h1, h2, h3⟩
      · exact .inl ⟨by rw [firstAt, if_neg h]; exact h1, by rw [atG, if_neg h]; exact h2⟩
      · exact .inr ⟨j + 1, x, by simpa using h1, by rw [firstAt, if_neg h, h2]; congr 1; omega, by rw [atG, if_neg h]; exact h3⟩
end Go.Proofs.Ytfcemlcocdhmfaa
/- The closure of At. -/
namespace Go.Proofs.Ytfcemlcocdhmfaa
open Go.RowKit Go
set_option linter.unusedVariables false
set_option linter.unusedSimpArgs false

/-- What the closure leaves: the box holds a row with what is there of the group. -/
def At1 (w : World) (B gs go : Nat) (seq : Int) (ps : List Pr) (g : List El) (w' : World) : Prop :=
  ∃ v' ps', w'.heap[go]? = some (.cells #[v'] 32 (0, 0)) ∧ OutP w' B v' (ps ++ ps') ∧ ps'.map Pr.p = atG seq (g.map El.r) ∧ w'.heap[gs]? = some (.cells #[.int .i64 seq] 3 (0, 0)) ∧ Below B w w' ∧ ps'.length ≤ 1
theorem atG_len (seq : Int) : ∀ (g : List Rc), (atG seq g).length ≤ 1
  | [] => by simp [atG]
  | r :: g => by
    rw [atG]; split
    · split <;> simp
    · exact atG_len seq g
set_option maxHeartbeats 1600000 in
theorem at1_walk (B gs go : Nat) (seq : Int) (u v : Value) (g : List El) (ps : List Pr) (w : World) (hu : RowB w u g) (hn : g.length ≤ 1099511627776) (hl : ∀ q ∈ g, LenR q)
    (hs : w.heap[gs]? = some (.cells #[.int .i64 seq] 3 (0, 0))) (ho : w.heap[go]? = some (.cells #[v] 32 (0, 0))) (hO : OutP w B v ps) (hB : B ≤ go) (hB' : B ≤ gs) (hps : ps.length ≤ 1000000000) :
    Calls Try.prog 32 #[u, .pointer (some ⟨gs, 0, none⟩), .pointer (some ⟨go, 0, none⟩)] w fun e w' => (∃ x, e = .returned x) ∧ At1 w B gs go seq ps g w' := by
  obtain ⟨A, c, rfl⟩ := hu.form
  have HU := Lib.hid hu; have HL := Lib.hid hl; have HSQ := Lib.hid hs; have HGO := Lib.hid ho; have HO := Lib.hid hO
  have hBw : B ≤ w.heap.size := by have := blk_lt ho; omega
  have hsc : w.cell? ⟨gs, 0, none⟩ = some (.int .i64 seq) := blk_cell hs 0
  have hin := indexFunc_any (.slice A g.length c) g gs seq w hu hn hsc
  obtain ⟨N, hN⟩ : ∃ N, g.length = N := ⟨_, rfl⟩
  have HN := Lib.hid hN
  rw [hN] at hin hn HU ⊢
  clear hu hl hs ho hO hN hsc
  rcases firstAt_cases seq (g.map El.r) 0 with ⟨h1, h2⟩ | ⟨j, r, h1, h2, h3⟩
  · rw [h1] at hin
    have HIN := Lib.hid hin; have H2 := Lib.hid h2
    clear hin h1 h2
    go_enter Try.func32, Try.ntmps32
    go_wp2_with fail
    refine HIN.out.mono ?_; rintro e w1 ⟨rfl, hw1⟩
    have HW := Lib.hid hw1; clear hw1 HIN
    go_wp2_with fail
    go_end0
    exact ⟨⟨_, rfl⟩, v, [], blk_below HGO.out HW.out (blk_lt HGO.out), by rw [List.append_nil]; exact HO.out.below HW.out, H2.out.symm, blk_below HSQ.out HW.out (blk_lt HSQ.out), HW.out.mono hBw, by simp⟩
  · rw [h2, Nat.zero_add] at hin
    have HIN := Lib.hid hin; have H3 := Lib.hid h3
    have hj : j < g.length := by
      have := (List.getElem?_eq_some_iff.1 h1).1
      simpa using this
    have hr : g[j].r = r := by
      have := (List.getElem?_eq_some_iff.1 h1).2
      simpa using this
    have hjN : j < N := by rw [← HN.out]; exact hj
    clear hin h1 h2 h3
    have j0 : (0 : Int) ≤ (j : Int) := by omega
    have j1 : (j : Int) < (N : Int) := by omega
    have HLQ := Lib.hid (HL.out _ (List.getElem_mem hj))
    go_enter Try.func32, Try.ntmps32
    go_wp2_with fail
    refine HIN.out.mono ?_; rintro e w1 ⟨rfl, hw1⟩
    have hu1 := HU.out.up hw1
    obtain ⟨b, off, Ak, ck, Av, cv, rr, rfl, hb, he, r0, r1, r2, r3, bk, bv⟩ := hu1.pick hj
    have hrr : rr = r := by rw [← hr, he]
    subst hrr
    have hlk : rr.key.length ≤ 1099511627776 := by have := HLQ.out.1; rw [he] at this; exact this
    have hlv : rr.val.length ≤ 1099511627776 := by have := HLQ.out.2; rw [he] at this; exact this
    have HCP := Lib.hid (copied_any (.slice Ak rr.key.length ck) (.slice Av rr.val.length cv) rr w1 bk bv hlk hlv)
    have HW := Lib.hid hw1
    have HO1 := Lib.hid (HO.out.below hw1)
    have go1 := blk_below HGO.out hw1 (blk_lt HGO.out)
    have HS1 := Lib.hid (blk_below HSQ.out hw1 (blk_lt HSQ.out))
    have H3' := H3
    clear hw1 hu1 bk bv hlk hlv he hr HIN HLQ H3
    cases hd : rr.del with
    | true =>
      rw [hd] at r2
      have HGO1 := Lib.hid go1; clear go1
      have HE : Hid (atG seq (g.map El.r) = []) := Lib.hid (by rw [H3'.out, hd]; rfl)
      clear hd H3'
      go_wp2_with fail
      go_end0
      exact ⟨⟨_, rfl⟩, v, [], HGO1.out, by rw [List.append_nil]; exact HO1.out, HE.out.symm, HS1.out, HW.out.mono hBw, by simp⟩
    | false =>
      rw [hd] at r2 HCP
      have HE : Hid (atG seq (g.map El.r) = [(rr.key, rr.val)]) := Lib.hid (by rw [H3'.out, hd]; rfl)
      have HDD := Lib.hid hd
      clear hd H3'
      have HGO1 := Lib.hid go1; clear go1
      go_wp2_with fail
      refine HCP.out.mono ?_
      rintro e w3 ⟨A3, c3, A4, c4, rfl, hm1, hm2, hw3⟩
      have HO3 := Lib.hid (HO1.out.below hw3)
      have go3 := blk_below HGO1.out hw3 (blk_lt HGO1.out)
      have HS3 := Lib.hid (blk_below HS1.out hw3 (blk_lt HS1.out))
      have HB3 : Hid (Below B w w3) := Lib.hid ((HW.out.mono hBw).trans (hw3.mono (Nat.le_trans hBw HW.out.size)))
      have hB1 : B ≤ w1.heap.size := Nat.le_trans hBw HW.out.size
      have HM : Hid (Mine B w3 (.slice A3 rr.key.length c3) rr.key ∧ Mine B w3 (.slice A4 rr.val.length c4) rr.val) := Lib.hid ⟨hm1.move hB1 (Nat.le_refl _) (fun b hb => rfl), hm2.move hB1 (Nat.le_refl _) (fun b hb => rfl)⟩
      clear hm1 hm2 hw3 HCP HO1 HGO1 HS1 HW
      have hg0 : w3.cell? ⟨go, 0, none⟩ = some v := blk_cell go3 0
      have hgl : go < w3.heap.size := blk_lt go3
      have HG3 := Lib.hid go3
      have hbe := bnewH w3 (.cells #[.slice A3 rr.key.length c3, .int .i64 rr.seq, .bool false, .slice A4 rr.val.length c4] 40)
      have HO4 := Lib.hid (HO3.out.below hbe)
      have HM4 : Hid (Mine B (w3.alloc (.cells #[.slice A3 rr.key.length c3, .int .i64 rr.seq, .bool false, .slice A4 rr.val.length c4] 40)) (.slice A3 rr.key.length c3) rr.key ∧ Mine B (w3.alloc (.cells #[.slice A3 rr.key.length c3, .int .i64 rr.seq, .bool false, .slice A4 rr.val.length c4] 40)) (.slice A4 rr.val.length c4) rr.val) :=
        Lib.hid ⟨HM.out.1.moveT hbe.size (fun b cs hb => hbe.block b (blk_lt hb)), HM.out.2.moveT hbe.size (fun b cs hb => hbe.block b (blk_lt hb))⟩
      have hB3 : B ≤ w3.heap.size := HB3.out.size |> Nat.le_trans hBw
      have HB4 := Lib.hid (HB3.out.trans (hbe.mono hB3))
      have hg4 := blk_below HG3.out hbe hgl
      have HS4 := Lib.hid (blk_below HS3.out hbe (blk_lt HS3.out))
      have HG4 := Lib.hid hg4
      obtain ⟨Ao, co, rfl⟩ := HO3.out.form
      clear go3 r0 r1 r2 r3 hbe hg4
      go_wp2_with (at_builtin; go_loud (refine app_pr rfl (.tmp 24) (.tmp 30) rfl (w3.alloc (.cells #[.slice A3 rr.key.length c3, .int .i64 rr.seq, .bool false, .slice A4 rr.val.length c4] 40)) B _ ps A3 c3 A4 c4 rr.key rr.val rfl (by simp; rfl) HO4.out HM4.out (by simp; omega) (by omega) ?_); intro v5 w5 hO5 hown hgr
                   have hbe := bnewH (w3.alloc (.cells #[.slice A3 rr.key.length c3, .int .i64 rr.seq, .bool false, .slice A4 rr.val.length c4] 40)) (.cells #[.slice A3 rr.key.length c3, .slice A4 rr.val.length c4] 58)
                   have hb5 := (HB4.out.trans (hbe.mono (Nat.le_trans hBw HB4.out.size))).grown hgr (Nat.le_trans (Nat.le_trans hBw HB4.out.size) hbe.size) (fun k e => (own_block_type hown e).1)
                   have hg5 := grown_keep hown hgr (blk_below HG4.out hbe (blk_lt HG4.out)) (by decide)
                   have hs5 := grown_keep hown hgr (blk_below HS4.out hbe (blk_lt HS4.out)) (by decide)
                   obtain ⟨A5, c5, rfl⟩ := hO5.form
                   have HO5 := Lib.hid hO5; have HB5 := Lib.hid hb5; have HG5 := Lib.hid hg5; have HS5 := Lib.hid hs5
                   have hf5 : w5.frozen? ⟨go, 0, none⟩ = false := blk_free hg5 0
                   have hc5 := blk_cell hg5 0
                   clear hO5 hown hgr hbe hb5 hg5 hs5)
      go_end0
      refine ⟨⟨_, rfl⟩, _, [⟨.slice A3 rr.key.length c3, .slice A4 rr.val.length c4, (rr.key, rr.val)⟩], (blk_set HG5.out 0 _).trans rfl, ?_, HE.out.symm, blk_far HS5.out (fun e => ne_of_type HS5.out HG5.out (by decide) e) _, HB5.out.setCell (by exact hB) _, by simp⟩
      have := HO5.out.set (u := .slice A5 (ps.length + 1) c5) HG5.out (by decide) (by decide) 0
      simpa using this
end Go.Proofs.Ytfcemlcocdhmfaa
