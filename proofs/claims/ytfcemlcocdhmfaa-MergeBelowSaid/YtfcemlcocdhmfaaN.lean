/- Clone, copied, Copy: bytes and records in memory of their own. -/
import Derived.Test.YtfcemlcocdhmfaaK
import Derived.Lib.SliceRun
namespace Go.Proofs.Ytfcemlcocdhmfaa
open Go.RowKit Go
set_option linter.unusedVariables false
set_option linter.unusedSimpArgs false

theorem u8_info : (Try.prog.info? 5).map (fun i => (i.zero, i.size, i.bytes)) = some (some (.int .u8 0), 1, 1) := by kernel_rfl
/-- Blocks that are new. -/
def New (B : Nat) (w' : World) (b : Nat) : Prop := B ≤ b ∧ b < w'.heap.size
/-- The value is a slice of bytes that reads as l, in memory of its own. -/
def Mine (B : Nat) (w' : World) (v : Value) (l : List UInt8) : Prop := BsU w' (New B w') v l ∧ (l ≠ [] → w'.ownsRow B 5 1 v l.length (u8s l))
theorem BsU.of_own {w : World} {base : Nat} {v : Value} {l : List UInt8} (h : w.ownsRow base 5 1 v l.length (u8s l)) : BsU w (fun b => base ≤ b ∧ b < w.heap.size) v l := by
  obtain ⟨A, c, rfl, _⟩ := own_form h
  refine ⟨A, c, rfl, fun h0 => ?_⟩
  have ht : ∃ g cur, A = some ⟨g, 0, none⟩ ∧ w.heap[g]? = some (.cells cur 5 (0, 0)) := by
    rcases h.2 with ⟨_, e⟩ | ⟨g, cap, cur, e, _, e2, _⟩
    · omega
    · exact ⟨g, cur, by injection e, e2⟩
  obtain ⟨g, cap, hv, hg, hlt⟩ := h.form h0
  have hA : A = some ⟨g, 0, none⟩ := by injection hv
  subst hA
  obtain ⟨g', cur, eg, ht⟩ := ht
  have : g = g' := by injection eg with eg; injection eg
  subst this
  refine ⟨g, 0, rfl, ⟨hg, hlt⟩, ⟨cur, ht⟩, fun j hj => ?_⟩
  have hj' : j < (u8s l).length := by rw [u8s_len]; exact hj
  have hc := h.cells (g := g) rfl j _ (List.getElem?_eq_getElem hj')
  rw [List.getElem?_eq_getElem hj', Nat.zero_add]
  have he : (⟨g, 0, none⟩ : Addr).add j = ⟨g, j, none⟩ := by unfold Addr.add; split <;> simp_all
  rw [← he]; exact hc
theorem u8s_one (l : List UInt8) : ∀ u ∈ u8s l, u.oneCell' = true := by
  intro u hu
  obtain ⟨b, _, rfl⟩ := List.mem_map.1 hu
  rfl
theorem maxLen_le : (1099511627776 : Nat) ≤ maxLen := by unfold maxLen; omega

theorem ne_of_type {w : World} {g g' : Nat} {cs cs' : Array Value} {t t' : TypeId} {fr fr' : Nat × Nat} (h : w.heap[g]? = some (.cells cs t fr)) (h' : w.heap[g']? = some (.cells cs' t' fr')) (hne : t ≠ t') : g ≠ g' := by
  rintro rfl
  rw [h] at h'
  injection h' with h'
  injection h' with _ ht
  exact hne ht

set_option maxHeartbeats 800000 in
theorem clone_any (v : Value) (l : List UInt8) (w : World) (h : Bs w w.heap.size v l) (hl : l.length ≤ 1099511627776) :
    Calls Try.prog 43 #[v] w fun e w' => ∃ A c, e = .returned (.slice A l.length c) ∧ Mine w.heap.size w' (.slice A l.length c) l ∧ Below w.heap.size w w' := by
  obtain ⟨i0, hi, hz0, hz1, hz2⟩ := info_parts u8_info
  obtain ⟨A, c, rfl, hr⟩ := h
  have hm := maxLen_le
  rcases A with _ | a
  · have h0 : l.length = 0 := by
      rcases Nat.eq_zero_or_pos l.length with h | h
      · exact h
      · obtain ⟨b, off, e, _⟩ := hr.2 h; cases e
    have hl0 : l = [] := List.eq_nil_of_length_eq_zero h0
    subst hl0
    have e := Lib.run_eql_slice_nil (P := Try.prog) w 38 5 none 0 c 0 0 Try.underlying38
    go_enter Try.func43, Try.ntmps43
    go_wp2_with fail
    go_ret
    exact ⟨none, 0, rfl, ⟨⟨none, 0, rfl, fun h => absurd h (by simp)⟩, fun h => absurd rfl h⟩, Below.refl _ _⟩
  · have e := Lib.run_eql_slice_nil (P := Try.prog) w 38 5 (some a) l.length c 0 0 Try.underlying38
    have hB : Below w.heap.size w (w.alloc (.cells #[] 5)) := (Below.refl _ _).alloc (Nat.le_refl _) _
    have hrr := Lib.hid (hr.below hB)
    go_enter Try.func43, Try.ntmps43
    go_wp2_with (at_builtin; refine wpList_app rfl (.tmp 5) (.tmp 6) _ rfl w.heap.size 5 i0 _ 1 1 Try.underlying38 hi hz0 hz1 hz2 rfl (by omega) (.slice (some ⟨w.heap.size, 0, none⟩) 0 0) 0 [] rfl (World.ownsRow_made w #[] 0 (Nat.le_refl _) (by omega) rfl) w.heap.size (some a) l.length c (u8s l) rfl hrr.out (u8s_one l) (by omega) (by omega) (by simp) ?_; intro v1 w1 hO hg hat)
    have hO' : w1.ownsRow w.heap.size 5 1 v1 l.length (u8s l) := by simpa using hO
    have HO := Lib.hid hO'
    have HB : Hid (Below w.heap.size w w1) := hB.grown hg (by simp) (fun k hk => by simp [Value.ownBlock] at hk; omega)
    clear hO hO' hg hat
    go_wp2_with fail
    go_ret
    obtain ⟨A, c', rfl, _⟩ := own_form HO.out
    exact ⟨A, c', rfl, ⟨BsU.of_own HO.out, fun _ => HO.out⟩, HB.out⟩
theorem cells4 {w : World} {v0 v1 v2 v3 : Value} {t g : Nat} (h : w.heap[g]? = some (.cells #[v0, v1, v2, v3] t (0, 0))) : w.cell? ⟨g, 0, none⟩ = some v0 ∧ w.cell? ⟨g, 1, none⟩ = some v1 ∧ w.cell? ⟨g, 2, none⟩ = some v2 ∧ w.cell? ⟨g, 3, none⟩ = some v3 ∧ ∀ i, w.frozen? ⟨g, i, none⟩ = false := by
  simp [World.cell?, World.frozen?, h]
theorem bcell {W w1 : World} (hb : Below W.heap.size W w1) : (∀ b o, b < W.heap.size → w1.cell? ⟨b, o, none⟩ = W.cell? ⟨b, o, none⟩) ∧ (∀ b o, b < W.heap.size → w1.frozen? ⟨b, o, none⟩ = W.frozen? ⟨b, o, none⟩) :=
  ⟨fun b o h => hb.cell (p := ⟨b, o, none⟩) h, fun b o h => hb.frozen (p := ⟨b, o, none⟩) h⟩
theorem Mine.move {B B1 : Nat} {w2 w3 : World} {v : Value} {l : List UInt8} (h : Mine B1 w2 v l) (h1 : B ≤ B1) (h23 : w2.heap.size ≤ w3.heap.size) (hb : ∀ b, New B1 w2 b → w3.heap[b]? = w2.heap[b]?) : Mine B w3 v l := by
  obtain ⟨h2, h3⟩ := h
  refine ⟨(h2.keep hb).wider (fun b hb' => ⟨Nat.le_trans h1 hb'.1, Nat.lt_of_lt_of_le hb'.2 h23⟩), fun hl => ?_⟩
  obtain ⟨e, h4⟩ := h3 hl
  refine ⟨e, ?_⟩
  rcases h4 with h4 | ⟨g, cap, cur, e1, e2, e3, e4⟩
  · exact .inl h4
  · exact .inr ⟨g, cap, cur, e1, Nat.le_trans h1 e2, (hb g ⟨e2, blk_lt e3⟩).trans e3, e4⟩
theorem Bs.up {w w' : World} {v : Value} {l : List UInt8} (h : Bs w w.heap.size v l) (hb : Below w.heap.size w w') : Bs w' w'.heap.size v l := (h.below hb).wider hb.size

/-- The record is copied: its box. -/
def Copied (w : World) (r : Rc) (wc : World) : Prop := ∃ A c A' c', wc.heap[w.heap.size]? = some (.cells #[.slice A r.key.length c, .int .i64 r.seq, .bool r.del, .slice A' r.val.length c'] 40 (0, 0)) ∧
  wc.heap[w.heap.size + 1]? = some (.cells #[.slice none 0 0, .int .i64 0, .bool false, .slice none 0 0] 40 (0, 0)) ∧ Mine (w.heap.size + 2) wc (.slice A r.key.length c) r.key ∧ Mine (w.heap.size + 2) wc (.slice A' r.val.length c') r.val ∧ Below w.heap.size w wc
theorem copied_end {w w1 w2 : World} {r : Rc} {kv vv : Value} {A A' : Option Addr} {c c' : Nat}
    (hm1 : Mine ((w.alloc (.cells #[kv, .int .i64 r.seq, .bool r.del, vv] 40)).alloc (.cells #[.slice none 0 0, .int .i64 0, .bool false, .slice none 0 0] 40)).drew.heap.size w1 (.slice A r.key.length c) r.key)
    (hb1 : Below ((w.alloc (.cells #[kv, .int .i64 r.seq, .bool r.del, vv] 40)).alloc (.cells #[.slice none 0 0, .int .i64 0, .bool false, .slice none 0 0] 40)).drew.heap.size ((w.alloc (.cells #[kv, .int .i64 r.seq, .bool r.del, vv] 40)).alloc (.cells #[.slice none 0 0, .int .i64 0, .bool false, .slice none 0 0] 40)).drew w1)
    (hm2 : Mine w1.heap.size w2 (.slice A' r.val.length c') r.val) (hb2 : Below w1.heap.size w1 w2) :
    Copied w r ((w2.setCell ⟨w.heap.size, 0, none⟩ (.slice A r.key.length c)).setCell ⟨w.heap.size, 3, none⟩ (.slice A' r.val.length c')) := by
  have z1 : w.heap.size + 2 ≤ w1.heap.size := by have := hb1.size; simpa using this
  have z2 := hb2.size
  have f0 : ((w.alloc (.cells #[kv, .int .i64 r.seq, .bool r.del, vv] 40)).alloc (.cells #[.slice none 0 0, .int .i64 0, .bool false, .slice none 0 0] 40)).drew.heap[w.heap.size]? = some (.cells #[kv, .int .i64 r.seq, .bool r.del, vv] 40 (0, 0)) := heap_alloc2_old _ _ _
  have f1 : ((w.alloc (.cells #[kv, .int .i64 r.seq, .bool r.del, vv] 40)).alloc (.cells #[.slice none 0 0, .int .i64 0, .bool false, .slice none 0 0] 40)).drew.heap[w.heap.size + 1]? = some (.cells #[.slice none 0 0, .int .i64 0, .bool false, .slice none 0 0] 40 (0, 0)) := heap_alloc2_new _ _ _
  have far : ∀ b, b ≠ w.heap.size → ((w2.setCell ⟨w.heap.size, 0, none⟩ (.slice A r.key.length c)).setCell ⟨w.heap.size, 3, none⟩ (.slice A' r.val.length c')).heap[b]? = w2.heap[b]? := fun b hb => by
    rw [Below.heap_setCell _ _ _ _ hb, Below.heap_setCell _ _ _ _ hb]
  have sz : ((w2.setCell ⟨w.heap.size, 0, none⟩ (.slice A r.key.length c)).setCell ⟨w.heap.size, 3, none⟩ (.slice A' r.val.length c')).heap.size = w2.heap.size := by simp
  refine ⟨A, c, A', c', ?_, ?_, ?_, ?_, ?_⟩
  · exact blk_set (blk_set (blk_below (blk_below f0 hb1 (by simp; omega)) hb2 (by omega)) 0 _) 3 _
  · rw [far _ (by omega)]
    exact blk_below (blk_below f1 hb1 (by simp)) hb2 (by omega)
  · refine hm1.move (by simp) (by rw [sz]; exact z2) (fun b hb => ?_)
    have h1 : w.heap.size + 2 ≤ b := by have := hb.1; simpa using this
    rw [far b (by omega), hb2.block b hb.2]
  · refine hm2.move (by omega) (by rw [sz]; exact Nat.le_refl _) (fun b hb => ?_)
    have h1 := hb.1
    rw [far b (by omega)]
  · have b0 : Below w.heap.size w ((w.alloc (.cells #[kv, .int .i64 r.seq, .bool r.del, vv] 40)).alloc (.cells #[.slice none 0 0, .int .i64 0, .bool false, .slice none 0 0] 40)).drew := (((Below.refl _ _).alloc (Nat.le_refl _) _).alloc (by simp) _).drew
    exact (((b0.trans (hb1.mono (by simp; omega))).trans (hb2.mono (by omega))).setCell (Nat.le_refl _) _).setCell (Nat.le_refl _) _
set_option maxHeartbeats 1600000 in
theorem copied_any (kv vv : Value) (r : Rc) (w : World) (hk : Bs w w.heap.size kv r.key) (hv : Bs w w.heap.size vv r.val) (hkl : r.key.length ≤ 1099511627776) (hvl : r.val.length ≤ 1099511627776) :
    Calls Try.prog 24 #[.agg #[kv, .int .i64 r.seq, .bool r.del, vv]] w fun e w' => ∃ A c A' c', e = .returned (.agg #[.slice A r.key.length c, .int .i64 r.seq, .bool r.del, .slice A' r.val.length c']) ∧ Mine w.heap.size w' (.slice A r.key.length c) r.key ∧ Mine w.heap.size w' (.slice A' r.val.length c') r.val ∧ Below w.heap.size w w' := by
  go_enter Try.func24, Try.ntmps24
  go_upto_region 1 with fail
  go_cut [] from 3 to 10 (fun wc => Copied w r wc)
  case first =>
    go_region_with (first
      | (go_at_call 43; refine (clone_any kv r.key _ (hk.up (by repeat' (first | (with_reducible exact Below.refl _ _) | (with_reducible refine Below.alloc ?_ ?_ _) | (with_reducible refine below_drewN ?_ _) | (with_reducible refine Below.drew ?_) | (with_reducible refine Below.setCell ?_ ?_ _) | (with_reducible refine Below.trans ?_ (Below.mono HW0.out ?_)) | (with_reducible refine Below.trans ?_ (Below.mono HW1.out ?_)) | (with_reducible refine Below.trans ?_ (Below.mono HW2.out ?_)) | (with_reducible refine Below.trans ?_ (Below.mono HW3.out ?_)) | (with_reducible refine Below.trans ?_ (Below.mono HW4.out ?_)) | (with_reducible refine Below.trans ?_ (Below.mono HW5.out ?_)) | (with_reducible refine Below.trans ?_ (Below.mono HW6.out ?_)) | (with_reducible refine Below.trans ?_ (Below.mono HW7.out ?_)) | (with_reducible exact Nat.le_refl _) | omega | (simp only [World.size_alloc, World.size_setCell, World.size_drew, size_drewN]; omega) | (simp; done) | (simp; omega)))) hkl).mono ?_; rintro e w1 ⟨k1, c1, rfl, hm1, hw1⟩; obtain ⟨hc1, hf1⟩ := bcell hw1; have hz1 := hw1.size; (try simp only [World.size_alloc, World.size_setCell, World.size_drew, size_drewN, Nat.add_one_le_iff] at hz1); (try have hy1 : w.heap.size < w1.heap.size := by omega); (try have hx1 : w.heap.size + 1 < w1.heap.size := by omega); have HW1 := Lib.hid hw1; clear hw1)
      | (go_at_call 43; refine (clone_any vv r.val _ (hv.up (by repeat' (first | (with_reducible exact Below.refl _ _) | (with_reducible refine Below.alloc ?_ ?_ _) | (with_reducible refine below_drewN ?_ _) | (with_reducible refine Below.drew ?_) | (with_reducible refine Below.setCell ?_ ?_ _) | (with_reducible refine Below.trans ?_ (Below.mono HW0.out ?_)) | (with_reducible refine Below.trans ?_ (Below.mono HW1.out ?_)) | (with_reducible refine Below.trans ?_ (Below.mono HW2.out ?_)) | (with_reducible refine Below.trans ?_ (Below.mono HW3.out ?_)) | (with_reducible refine Below.trans ?_ (Below.mono HW4.out ?_)) | (with_reducible refine Below.trans ?_ (Below.mono HW5.out ?_)) | (with_reducible refine Below.trans ?_ (Below.mono HW6.out ?_)) | (with_reducible refine Below.trans ?_ (Below.mono HW7.out ?_)) | (with_reducible exact Nat.le_refl _) | omega | (simp only [World.size_alloc, World.size_setCell, World.size_drew, size_drewN]; omega) | (simp; done) | (simp; omega)))) hvl).mono ?_; rintro e w2 ⟨v1, c2, rfl, hm2, hw2⟩; obtain ⟨hc2, hf2⟩ := bcell hw2; have hz2 := hw2.size; (try simp only [World.size_alloc, World.size_setCell, World.size_drew, size_drewN, Nat.add_one_le_iff] at hz2); (try have hy2 : w.heap.size < w2.heap.size := by omega); (try have hx2 : w.heap.size + 1 < w2.heap.size := by omega); have HW2 := Lib.hid hw2; clear hw2))
    all_goals go_wp2_with fail
    all_goals go_meet
    all_goals exact copied_end hm1 HW1.out hm2 HW2.out
  case rest =>
    obtain ⟨A, c, A', c', h1, h2, h3, h4, h5⟩ := hcut
    obtain ⟨q0, q1, q2, q3, q4⟩ := cells4 h1
    obtain ⟨p0, p1, p2, p3, p4⟩ := cells4 h2
    have H3 := Lib.hid h3; have H4 := Lib.hid h4; have H5 := Lib.hid h5; have H2 := Lib.hid h2
    clear h1 h2 h3 h4 h5
    have hb := blk_set (blk_set (blk_set (blk_set H2.out 0 (.slice A r.key.length c)) 1 (.int .i64 r.seq)) 2 (.bool r.del)) 3 (.slice A' r.val.length c')
    have HB := Lib.hid hb; clear hb
    go_wp2_with fail
    refine bodyPost_ret (results_cell_row rfl _ _ (w.heap.size + 1) 40 #[.slice A r.key.length c, .int .i64 r.seq, .bool r.del, .slice A' r.val.length c'] (0, 0) _ (by rfl) HB.out Try.underlying40 rfl (by kernel_rfl)) rfl ?_
    have far : ∀ b, b ≠ w.heap.size + 1 → ((((wc.setCell ⟨w.heap.size + 1, 0, none⟩ (.slice A r.key.length c)).setCell ⟨w.heap.size + 1, 1, none⟩ (.int .i64 r.seq)).setCell ⟨w.heap.size + 1, 2, none⟩ (.bool r.del)).setCell ⟨w.heap.size + 1, 3, none⟩ (.slice A' r.val.length c')).heap[b]? = wc.heap[b]? := fun b hb => by
      rw [Below.heap_setCell _ _ _ _ hb, Below.heap_setCell _ _ _ _ hb, Below.heap_setCell _ _ _ _ hb, Below.heap_setCell _ _ _ _ hb]
    exact ⟨A, c, A', c', rfl, H3.out.move (by omega) (by simp) (fun b hb => far b (by have := hb.1; omega)), H4.out.move (by omega) (by simp) (fun b hb => far b (by have := hb.1; omega)),
      (((H5.out.setCell (by show w.heap.size ≤ w.heap.size + 1; omega) _).setCell (by show w.heap.size ≤ w.heap.size + 1; omega) _).setCell (by show w.heap.size ≤ w.heap.size + 1; omega) _).setCell (by show w.heap.size ≤ w.heap.size + 1; omega) _⟩
end Go.Proofs.Ytfcemlcocdhmfaa
