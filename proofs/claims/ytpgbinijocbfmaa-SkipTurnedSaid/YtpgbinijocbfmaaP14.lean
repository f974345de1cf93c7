/- Appending items; the list alone. -/
import Derived.Test.YtpgbinijocbfmaaP13
namespace Go.Proofs.Ytpgbinijocbfmaa
open Go.RowKit Go
set_option linter.unusedVariables false
set_option linter.unusedSimpArgs false
theorem own_e {w : World} {g B : Nat} (h : w.heap[g]? = some (.cells #[] 37 (0, 0))) (hB : B ≤ g) : w.ownsRow B 37 5 (.slice (some ⟨g, 0, none⟩) 0 0) 0 [] :=
  ⟨rfl, .inr ⟨g, 0, #[], rfl, hB, h, by omega, by simp [maxLen], rfl, rfl⟩⟩
theorem grow_e {w1 W w' : World} {row : Option Nat} (hg : W.grownBy w' row) (hW : Below w1.heap.size w1 W) (hr : ∀ b, row = some b → w1.heap.size ≤ b) : Below w1.heap.size w1 w' :=
  ⟨hg.os.trans hW.os, hg.tape.trans hW.tape, hg.output.trans hW.output, Nat.le_trans hW.size hg.size, fun b hb => (hg.block b (Nat.lt_of_lt_of_le hb hW.size) (fun e => by have := hr b e.symm; omega)).trans (hW.block b hb)⟩
theorem grow_x {W w' : World} {row : Option Nat} {b : Nat} {o : Obj} (hg : W.grownBy w' row) (hx : W.heap[b]? = some o) (hne : some b ≠ row) : w'.heap[b]? = some o :=
  (hg.block b (blk_lt hx) hne).trans hx
theorem rd_x {w' : World} {b B : Nat} {x : It} (h : w'.heap[b]? = some (.cells #[x.kv, .int .i64 x.r.seq, .bool x.r.del, x.vv, .int .i64 x.draw] 37 (0, 0))) (hB : b < B) : Rd w' B 5 (some ⟨b, 0, none⟩) 1 x.cells :=
  ⟨rfl, fun _ => ⟨b, 0, rfl, hB, fun j hj => by rw [blk_cell h, Nat.zero_add]; simp [It.cells]⟩⟩
theorem own_row {w : World} {B n : Nat} {v : Value} {xs : List Value} {e : TypeId} (h : w.ownsRow B e 5 v n xs) : ∀ b, v.ownBlock = some b → B ≤ b := by
  rcases h.2 with ⟨rfl, rfl⟩ | ⟨g, cap, cur, rfl, hb, _⟩
  · intro b e; cases e
  · intro b e; injection e with e; subst e; exact hb
theorem much_n {w : World} {A : Option Addr} {its : List It} {n c : Nat} (hn : its.length = n) (h : ItemsAt w A its) : Calls Try.prog 8 #[.slice A n c] w (SomeMuch n w) := by subst hn; exact much_any A its c w h
theorem items_one {w0 w : World} {A : Option Addr} {its : List It} {x : It} {B n c : Nat} (h : w.ownsRow B 37 5 (.slice A n c) n (itCells its ++ x.cells)) (hn : its.length + 1 = n) (hi : ∀ i ∈ its, i.ok w0) (hx : x.ok w0) (hb : Below w0.heap.size w0 w) : ItemsAt w A (its ++ [x]) := by
  refine ItemsAt.of_rd ?_ (fun i h' => ?_)
  · rw [itCells_app, List.length_append, List.length_singleton, hn]; simpa [itCells] using Rd.of_own h
  · rcases List.mem_append.1 h' with h' | h'
    · exact (hi i h').up hb
    · obtain rfl := List.mem_singleton.1 h'; exact hx.up hb
/-- The list stands in memory with these records. -/
structure One (w wr : World) (L : Nd) (rs : List Rc) (high : Nat) : Prop where
  ex : ∃ (U : Nat → Prop) (ns : List Nd), Sk wr U L ns high ∧ ns.map Nd.r = rs ∧ (∀ b, U b → w.heap.size ≤ b)
  right : AllRight rs
  hh : high ≤ 12
  below : Below w.heap.size w wr
theorem One.below' {w wr w' : World} {L : Nd} {rs : List Rc} {high : Nat} (h : One w wr L rs high) (hb : Below wr.heap.size wr w') : One w w' L rs high := by
  obtain ⟨⟨U, ns, h1, h3⟩, h4, h5, h6⟩ := h
  exact ⟨⟨U, ns, h1.below hb, h3⟩, h4, h5, h6.trans (hb.mono h6.size)⟩
theorem One.start {w w1 : World} {L : Nd} (hs : Sk w1 (New w.heap.size w1) L [] 0) (hb : Below w.heap.size w w1) : One w w1 L [] 0 :=
  ⟨⟨_, [], hs, rfl, fun b hb => hb.1⟩, by intro r hr; simp at hr, by omega, hb⟩
theorem one_put {w wr : World} {L : Nd} {rs : List Rc} {high : Nat} (h : One w wr L rs high) (hn : rs.length ≤ 1000000) (kv vv : Value) (r : Rc) (draw : Int) (hk : Bs wr wr.heap.size kv r.key) (hv : Bs wr wr.heap.size vv r.val) (hd : -9223372036854775808 ≤ draw ∧ draw ≤ 9223372036854775807) :
    Calls Try.prog 10 #[ptr L.g, .agg #[kv, .int .i64 r.seq, .bool r.del, vv], .int .i64 draw] wr fun e w' => ∃ c rs' high', e = .returned (.int .i64 c) ∧ putS rs high r draw = (c, rs', high') ∧ One w w' L rs' high' := by
  obtain ⟨⟨U, ns, h1, rfl, h6⟩, h8, h9, h10⟩ := h
  have hsz := size_right _ h8
  simp only [List.length_map] at hn hsz
  refine (put_any U L ns high kv vv r draw wr h1 hk hv hd (by omega) (by omega) h9).mono ?_
  rintro e w' ⟨c, ns', high', rfl, hp, hs, hc⟩
  obtain ⟨i1, i2, i3, _⟩ := putS_inv hp h8 h9
  refine ⟨c, ns'.map Nd.r, high', rfl, hp, ⟨⟨fun b => U b ∨ New wr.heap.size w' b, ns', hs, rfl, ?_⟩, i1, i3, hc.to_below h10 h6 (Nat.le_refl _)⟩⟩
  rintro b (hb | hb)
  · exact h6 b hb
  · exact Nat.le_trans h10.size hb.1
/-- The list stands apart from the blocks lo .. hi. -/
structure Apart (w : World) (lo hi : Nat) (w' : World) (L : Nd) (rs : List Rc) (high : Nat) : Prop where
  ex : ∃ (U : Nat → Prop) (ns : List Nd), Sk w' U L ns high ∧ ns.map Nd.r = rs ∧ (∀ b, U b → w.heap.size ≤ b) ∧ (∀ b, lo ≤ b → b < hi → ¬ U b)
  right : AllRight rs
  hh : high ≤ 12
  below : Below w.heap.size w w'
  low : w.heap.size ≤ lo
theorem Apart.below' {w wr w' : World} {lo hi : Nat} {L : Nd} {rs : List Rc} {high : Nat} (h : Apart w lo hi wr L rs high) (hb : Below wr.heap.size wr w') : Apart w lo hi w' L rs high := by
  obtain ⟨⟨U, ns, h1, h3⟩, h4, h5, h6, h7⟩ := h
  exact ⟨⟨U, ns, h1.below hb, h3⟩, h4, h5, h6.trans (hb.mono h6.size), h7⟩
theorem Apart.only {w wr w' : World} {lo hi g : Nat} {L : Nd} {rs : List Rc} {high : Nat} (h : Apart w lo hi wr L rs high) (hb : Only g wr w') (h1 : lo ≤ g) (h2 : g < hi) : Apart w lo hi w' L rs high := by
  obtain ⟨⟨U, ns, k1, k2, k3, k4⟩, h4, h5, h6, h7⟩ := h
  exact ⟨⟨U, ns, k1.keep (Nat.le_of_eq hb.size.symm) (fun b hU => hb.block b (fun e => k4 g h1 h2 (e ▸ hU))), k2, k3, k4⟩, h4, h5, hb.to_below h6 (Nat.le_trans h7 h1), h7⟩
theorem one_put_apart {w wr W : World} {L : Nd} {rs : List Rc} {high : Nat} (h : One w wr L rs high) (hW : Below wr.heap.size wr W) (hn : rs.length ≤ 1000000) (kv vv : Value) (r : Rc) (draw : Int) (hk : Bs W W.heap.size kv r.key) (hv : Bs W W.heap.size vv r.val) (hd : -9223372036854775808 ≤ draw ∧ draw ≤ 9223372036854775807) :
    Calls Try.prog 10 #[ptr L.g, .agg #[kv, .int .i64 r.seq, .bool r.del, vv], .int .i64 draw] W fun e w' => ∃ c rs' high', e = .returned (.int .i64 c) ∧ putS rs high r draw = (c, rs', high') ∧ Apart w wr.heap.size W.heap.size w' L rs' high' ∧ (∀ b, wr.heap.size ≤ b → b < W.heap.size → w'.heap[b]? = W.heap[b]?) ∧ W.heap.size ≤ w'.heap.size := by
  obtain ⟨⟨U, ns, h1, rfl, h6⟩, h8, h9, h10⟩ := h
  have hsz := size_right _ h8
  simp only [List.length_map] at hn hsz
  have h1W := h1.below hW
  have hU : ∀ b, wr.heap.size ≤ b → ¬ U b := fun b hb hu => by have := h1.lt b hu; omega
  refine (put_any U L ns high kv vv r draw W h1W hk hv hd (by omega) (by omega) h9).mono ?_
  rintro e w' ⟨c, ns', high', rfl, hp, hs, hc⟩
  obtain ⟨i1, i2, i3, _⟩ := putS_inv hp h8 h9
  refine ⟨c, ns'.map Nd.r, high', rfl, hp, ⟨⟨fun b => U b ∨ New W.heap.size w' b, ns', hs, rfl, ?_, ?_⟩, i1, i3, hc.to_below (h10.trans (hW.mono h10.size)) h6 (Nat.le_refl _), h10.size⟩, fun b hb1 hb2 => hc.block b hb2 (hU b hb1), hc.size⟩
  · rintro b (hb | hb)
    · exact h6 b hb
    · exact Nat.le_trans h10.size (Nat.le_trans hW.size hb.1)
  · rintro b hb1 hb2 (hb | hb)
    · exact hU b hb1 hb
    · have := hb.1; omega
theorem apart_get {w wr : World} {lo hi : Nat} {L : Nd} {rs : List Rc} {high : Nat} (h : Apart w lo hi wr L rs high) (key : List UInt8) (seq : Int) (u : Value) (hu : Bs wr wr.heap.size u key) :
    Calls Try.prog 18 #[ptr L.g, u, .int .i64 seq] wr fun e w' => ∃ v, e = .returned (.tuple #[v, .bool (getS rs key seq).isSome]) ∧ ToldRc wr.heap.size w' v ((getS rs key seq).getD zeroRc) ∧ Below wr.heap.size wr w' := by
  obtain ⟨⟨U, ns, h1, rfl, h6⟩, h8, h9, h10⟩ := h
  exact get_any U L ns high key seq u wr h1 hu (fun n hn => by have := right_bounds (h8 n.r (List.mem_map_of_mem hn)); omega)
theorem apart_from {w wr : World} {lo hi : Nat} {L : Nd} {rs : List Rc} {high : Nat} (h : Apart w lo hi wr L rs high) (hn : rs.length ≤ 1000000) (key : List UInt8) (most : Int) (u : Value) (hu : Bs wr wr.heap.size u key) (hm : -9223372036854775808 ≤ most ∧ most ≤ 9223372036854775807) :
    Calls Try.prog 17 #[ptr L.g, u, .int .i64 most] wr fun e w' => ∃ v, e = .returned v ∧ Told wr w' v (fromS rs key most) := by
  obtain ⟨⟨U, ns, h1, rfl, h6⟩, h8, h9, h10⟩ := h
  rw [List.length_map] at hn
  exact from_any U L ns high key most u wr h1 hu (fun n hn => by have := right_bounds (h8 n.r (List.mem_map_of_mem hn)); omega) (by omega) hm
/-- Only blocks lo .. hi have turned. -/
structure OnlyIn (lo hi : Nat) (w w' : World) : Prop where
  os : w'.os = w.os
  tape : w'.tape = w.tape
  output : w'.output = w.output
  size : w'.heap.size = w.heap.size
  block : ∀ b, ¬ (lo ≤ b ∧ b < hi) → w'.heap[b]? = w.heap[b]?
theorem OnlyIn.refl (lo hi : Nat) (w : World) : OnlyIn lo hi w w := ⟨rfl, rfl, rfl, rfl, fun _ _ => rfl⟩
theorem OnlyIn.setCell {lo hi : Nat} {w w' : World} (h : OnlyIn lo hi w w') {g : Nat} (h1 : lo ≤ g) (h2 : g < hi) (i : Nat) (v : Value) : OnlyIn lo hi w (w'.setCell ⟨g, i, none⟩ v) :=
  ⟨h.os, h.tape, h.output, by simpa using h.size, fun b hb => (Below.heap_setCell _ _ _ _ (fun e => hb ⟨by rw [e]; exact h1, by rw [e]; exact h2⟩)).trans (h.block b hb)⟩
theorem OnlyIn.drew {lo hi : Nat} {w w' : World} (h : OnlyIn lo hi w w') : OnlyIn lo hi w w'.drew := ⟨h.os, h.tape, h.output, h.size, h.block⟩
theorem OnlyIn.to_below {B lo hi : Nat} {w0 w w' : World} (h0 : Below B w0 w) (h : OnlyIn lo hi w w') (hg : B ≤ lo) : Below B w0 w' :=
  ⟨h.os.trans h0.os, h.tape.trans h0.tape, h.output.trans h0.output, by rw [h.size]; exact h0.size, fun b hb => (h.block b (by omega)).trans (h0.block b hb)⟩
theorem Apart.onlyIn {w wr w' : World} {lo hi lo' hi' : Nat} {L : Nd} {rs : List Rc} {high : Nat} (h : Apart w lo hi wr L rs high) (hb : OnlyIn lo' hi' wr w') (h1 : lo ≤ lo') (h2 : hi' ≤ hi) : Apart w lo hi w' L rs high := by
  obtain ⟨⟨U, ns, k1, k2, k3, k4⟩, h4, h5, h6, h7⟩ := h
  exact ⟨⟨U, ns, k1.keep (Nat.le_of_eq hb.size.symm) (fun b hU => hb.block b (fun e => k4 b (by omega) (by omega) hU)), k2, k3, k4⟩, h4, h5, hb.to_below h6 (Nat.le_trans h7 h1), h7⟩
/-- The list, once more blocks are made: it is apart from those too. -/
theorem Apart.wide {w wr W : World} {lo hi : Nat} {L : Nd} {rs : List Rc} {high : Nat} (h : Apart w lo hi wr L rs high) (hb : Below wr.heap.size wr W) : Apart w wr.heap.size W.heap.size W L rs high := by
  obtain ⟨⟨U, ns, k1, k2, k3, k4⟩, h4, h5, h6, h7⟩ := h
  exact ⟨⟨U, ns, k1.below hb, k2, k3, fun b hb1 _ hU => by have := k1.lt b hU; omega⟩, h4, h5, h6.trans (hb.mono h6.size), h6.size⟩
/-- A byte written anywhere leaves bytes. -/
theorem BytesFrom.put {w : World} {g n : Nat} (h : BytesFrom w g 0 n) (g' i : Nat) {z : Int} (h1 : 0 ≤ z) (h2 : z < 256) : BytesFrom (w.setCell ⟨g', i, none⟩ (.int .u8 z)) g 0 n := by
  by_cases hg : g = g'
  · subst hg
    obtain ⟨cur, hb, hc⟩ := h
    refine ⟨_, blk_set hb i _, fun j hj1 hj2 => ?_⟩
    obtain ⟨y, y1, y2, y3⟩ := hc j hj1 hj2
    have hj : j < cur.size := by
      rcases Nat.lt_or_ge j cur.size with h | h
      · exact h
      · rw [Array.getElem?_eq_none h] at y3; cases y3
    rw [Array.getElem?_setIfInBounds]
    split
    · rename_i e; subst e; rw [if_pos hj]; exact ⟨z, h1, h2, rfl⟩
    · exact ⟨y, y1, y2, y3⟩
  · obtain ⟨cur, hb, hc⟩ := h
    exact ⟨cur, blk_far hb hg _, hc⟩
theorem BytesFrom.onlyBelow {w w' : World} {g n : Nat} (h : BytesFrom w g 0 n) (hb : Below w.heap.size w w') : BytesFrom w' g 0 n := by
  obtain ⟨cur, h1, h2⟩ := h
  exact ⟨cur, blk_below h1 hb (blk_lt h1), h2⟩
theorem xor_byte {z : Int} (h1 : 0 ≤ z) (h2 : z < 256) : 0 ≤ bits BinOp.xor IntKind.u8 z 255 ∧ bits BinOp.xor IntKind.u8 z 255 < 256 := by
  show 0 ≤ IntKind.u8.wrap _ ∧ IntKind.u8.wrap _ < 256
  rw [IntKind.wrap_u8]
  omega
end Go.Proofs.Ytpgbinijocbfmaa
