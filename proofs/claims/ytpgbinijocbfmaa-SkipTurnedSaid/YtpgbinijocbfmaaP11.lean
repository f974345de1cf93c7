/- What both lists tell of a key; the records asked for. -/
import Derived.Test.YtpgbinijocbfmaaP8
import Derived.Test.YtpgbinijocbfmaaP10
namespace Go.Proofs.Ytpgbinijocbfmaa
open Go.RowKit Go
set_option linter.unusedVariables false
set_option linter.unusedSimpArgs false

section
variable {w wr : World} {L : Nd} {R : Nat} {rs : List Rc} {high : Nat}
theorem both_lens2 {ns : List Nd} (h : Both w wr L R rs high) (hn : ns.map Nd.r = rs) : ∀ n ∈ ns, n.r.key.length ≤ 1099511627776 ∧ n.r.val.length ≤ 1099511627776 := fun n hm => ⟨(both_lens h hn n hm).1, (both_lens h hn n hm).2.1⟩
theorem both_get (h : Both w wr L R rs high) (key : List UInt8) (seq : Int) (u : Value) (hu : Bs wr wr.heap.size u key) :
    Calls Try.prog 18 #[ptr L.g, u, .int .i64 seq] wr fun e w' => ∃ A c A' c', e = .returned (.tuple #[.agg #[.slice A ((getS rs key seq).getD zeroRc).key.length c, .int .i64 ((getS rs key seq).getD zeroRc).seq, .bool ((getS rs key seq).getD zeroRc).del, .slice A' ((getS rs key seq).getD zeroRc).val.length c'], .bool (getS rs key seq).isSome]) ∧
      BsU w' (fun b => b < w'.heap.size) (.slice A ((getS rs key seq).getD zeroRc).key.length c) ((getS rs key seq).getD zeroRc).key ∧ BsU w' (fun b => b < w'.heap.size) (.slice A' ((getS rs key seq).getD zeroRc).val.length c') ((getS rs key seq).getD zeroRc).val ∧ Below wr.heap.size wr w' := by
  have hh := h
  obtain ⟨⟨U, V, ns, qs, h1, h2, h3, h4, h5, h6, h7⟩, h8, h9, h10⟩ := hh
  refine (get_any U L ns high key seq u wr h1 hu (both_lens2 h h3)).mono ?_
  rintro e w' ⟨v, rfl, ⟨A, c, A', c', rfl, m1, m2⟩, hb⟩
  rw [h3] at m1 m2 ⊢
  exact ⟨A, c, A', c', rfl, m1.1.wider (fun b h => h.2), m2.1.wider (fun b h => h.2), hb⟩
theorem both_rget (h : Both w wr L R rs high) (hn : rs.length ≤ 1000000) (key : List UInt8) (seq : Int) (u : Value) (hu : Bs wr wr.heap.size u key) :
    Calls Try.prog 19 #[ptr R, u, .int .i64 seq] wr fun e w' => ∃ A c A' c', e = .returned (.tuple #[.agg #[.slice A ((getS rs key seq).getD zeroRc).key.length c, .int .i64 ((getS rs key seq).getD zeroRc).seq, .bool ((getS rs key seq).getD zeroRc).del, .slice A' ((getS rs key seq).getD zeroRc).val.length c'], .bool (getS rs key seq).isSome]) ∧
      BsU w' (fun b => b < w'.heap.size) (.slice A ((getS rs key seq).getD zeroRc).key.length c) ((getS rs key seq).getD zeroRc).key ∧ BsU w' (fun b => b < w'.heap.size) (.slice A' ((getS rs key seq).getD zeroRc).val.length c') ((getS rs key seq).getD zeroRc).val ∧ Below wr.heap.size wr w' := by
  obtain ⟨⟨U, V, ns, qs, h1, h2, h3, h4, h5, h6, h7⟩, h8, h9, h10⟩ := h
  have hl : qs.length = rs.length := by rw [← h4, List.length_map]
  refine (get_ref V R qs high key seq u wr h2 hu (by omega)).mono ?_
  rintro e w' ⟨v, rfl, ⟨A, c, A', c', rfl, b1, b2⟩, hb⟩
  rw [h4] at b1 b2 ⊢
  exact ⟨A, c, A', c', rfl, b1.wider (fun b hv => Nat.lt_of_lt_of_le (h2.lt b hv) hb.size), b2.wider (fun b hv => Nat.lt_of_lt_of_le (h2.lt b hv) hb.size), hb⟩
theorem both_fromk (h : Both w wr L R rs high) (hn : rs.length ≤ 1000000) (key : List UInt8) (most : Int) (u : Value) (hu : Bs wr wr.heap.size u key) (hm : -9223372036854775808 ≤ most ∧ most ≤ 9223372036854775807) :
    Calls Try.prog 17 #[ptr L.g, u, .int .i64 most] wr fun e w' => ∃ v, e = .returned v ∧ Told wr w' v (fromS rs key most) := by
  have hh := h
  obtain ⟨⟨U, V, ns, qs, h1, h2, h3, h4, h5, h6, h7⟩, h8, h9, h10⟩ := hh
  have hlen : ns.length = rs.length := by rw [← h3, List.length_map]
  have := from_any U L ns high key most u wr h1 hu (both_lens h h3) (by omega) hm
  rwa [h3] at this
theorem both_rfrom (h : Both w wr L R rs high) (hn : rs.length ≤ 1000000) (key : List UInt8) (most : Int) (u : Value) (hu : Bs wr wr.heap.size u key) (hm : -9223372036854775808 ≤ most ∧ most ≤ 9223372036854775807) :
    Calls Try.prog 21 #[ptr R, u, .int .i64 most] wr fun e w' => ∃ v, e = .returned v ∧ ∃ V, RTold wr w' V v (fromS rs key most) ∧ ∀ b, V b → b < w'.heap.size := by
  obtain ⟨⟨U, V, ns, qs, h1, h2, h3, h4, h5, h6, h7⟩, h8, h9, h10⟩ := h
  have hl : qs.length = rs.length := by rw [← h4, List.length_map]
  refine (from_ref V R qs high key most u wr h2 hu (by omega) hm).mono ?_
  rintro e w' ⟨v, rfl, ht⟩
  rw [h4] at ht
  have hb := ht
  obtain ⟨_, _, _, _, hb⟩ := hb
  exact ⟨v, rfl, V, ht, fun b hv => Nat.lt_of_lt_of_le (h2.lt b hv) hb.size⟩
end
theorem RTold.base {w wr : World} {V : Nat → Prop} {v : Value} {rs : List Rc} (h : RTold w wr V v rs) : Below w.heap.size w wr := let ⟨_, _, _, _, h⟩ := h; h
theorem RTold.below {w wr w' : World} {V : Nat → Prop} {v : Value} {rs : List Rc} (h : RTold w wr V v rs) (hV : ∀ b, V b → b < wr.heap.size) (hb : Below wr.heap.size wr w') : RTold w w' V v rs := by
  obtain ⟨ps, e, h1, h2, h3⟩ := h
  exact ⟨ps, e, own_below h1 hb, h2.keepT (fun b cs hb' _ => hb.block b (hV b hb')) (fun b hb' => hb'), h3.trans (hb.mono h3.size)⟩
theorem fromS_len (rs : List Rc) (key : List UInt8) (most : Int) : (fromS rs key most).length ≤ rs.length := by
  unfold fromS
  rw [List.length_take]; exact Nat.le_trans (Nat.min_le_right _ _) (List.length_filter_le _ _)
theorem told_same {a b w' : World} {V : Nat → Prop} {v v' : Value} {rs : List Rc} (h1 : Told a w' v rs) (h2 : RTold b w' V v' rs) (hV : ∀ b, V b → b < w'.heap.size) (hn : rs.length ≤ 1000000) :
    Calls Try.prog 16 #[v, v'] w' fun e w2 => e = .returned (.bool true) ∧ Below w'.heap.size w' w2 := by
  obtain ⟨ps, hp1, hp2, hp3, hp4⟩ := h1
  obtain ⟨qs, hq1, hq2, hq3, hq4⟩ := h2
  have hl1 : ps.length = rs.length := by rw [← hp1, List.length_map]
  have hl2 : qs.length = rs.length := by rw [← hq1, List.length_map]
  refine (sameAll_any (fun x => V x ∨ New a.heap.size w' x) (fun x => V x ∨ New b.heap.size w' x) v v' ps qs w' ((RowU.of_own hp2).keepT (fun _ _ _ _ => rfl) (fun x hx => .inr hx)) ((RowU.of_own hq2).keepT (fun _ _ _ _ => rfl) (fun x hx => .inr hx)) (hp3.keepT (fun _ _ _ _ => rfl) (fun x hx => .inr hx)) (hq3.keepT (fun _ _ _ _ => rfl) (fun x hx => .inl hx))
    (fun x hx => by rcases hx with hx | hx; (exact hV x hx); (exact hx.2)) (fun x hx => by rcases hx with hx | hx; (exact hV x hx); (exact hx.2)) (by omega) (by omega)).mono ?_
  rintro e w2 ⟨rfl, hw⟩
  exact ⟨by rw [hp1, hq1]; simp, hw⟩

/-- Records that came in. -/
def RecsAt (w : World) (A : Option Addr) (qs : List El) : Prop := Rd w w.heap.size 4 A qs.length (elCells qs) ∧ ∀ q ∈ qs, Bs w w.heap.size q.kv q.r.key ∧ Bs w w.heap.size q.vv q.r.val ∧ -9223372036854775808 ≤ q.r.seq ∧ q.r.seq ≤ 9223372036854775807
end Go.Proofs.Ytpgbinijocbfmaa
