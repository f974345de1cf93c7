/- Both lists take the same records. -/
import Derived.Test.YtpgbinijocbfmaaP7
namespace Go.Proofs.Ytpgbinijocbfmaa
open Go.RowKit Go
set_option linter.unusedVariables false
set_option linter.unusedSimpArgs false

def AllRight (rs : List Rc) : Prop := ∀ r ∈ rs, rightN r.key.length r.seq r.del r.val.length = true
theorem right_bounds {r : Rc} (h : rightN r.key.length r.seq r.del r.val.length = true) : r.key.length ≤ 512 ∧ r.val.length ≤ 4096 ∧ 1 ≤ r.seq ∧ r.seq ≤ 1099511627776 ∧ 1 ≤ r.key.length := by simp [rightN] at h; omega
theorem size_right : ∀ (rs : List Rc), AllRight rs → sizeS rs ≤ 4624 * rs.length
  | [], _ => by simp [sizeS]
  | r :: rs, h => by
    have ih := size_right rs (fun x hx => h x (by simp [hx]))
    have := right_bounds (h r (by simp))
    unfold sizeS at ih ⊢
    simp only [List.map_cons, List.sum_cons, List.length_cons]
    omega
theorem putS_inv {rs rs' : List Rc} {high high' : Nat} {r : Rc} {draw c : Int} (h : putS rs high r draw = (c, rs', high')) (hR : AllRight rs) (hh : high ≤ 12) : AllRight rs' ∧ rs'.length ≤ rs.length + 1 ∧ high' ≤ 12 ∧ (c = 0 ∨ c = 1 ∨ c = 5) := by
  unfold putS at h
  by_cases h1 : rightN r.key.length r.seq r.del r.val.length = true
  · rw [if_pos h1] at h
    split at h
    · injection h with h2 h3; injection h3 with h3 h4; subst h2 h3 h4; exact ⟨hR, by omega, hh, by simp⟩
    · injection h with h2 h3; injection h3 with h3 h4; subst h2 h3 h4
      refine ⟨fun x hx => ?_, ?_, ?_, by simp⟩
      · rcases List.mem_append.1 hx with h5 | h5
        · exact hR x ((List.takeWhile_prefix _).subset h5)
        · rcases List.mem_cons.1 h5 with rfl | h5
          · exact h1
          · exact hR x ((List.dropWhile_suffix _).subset h5)
      · have := congrArg List.length (List.takeWhile_append_dropWhile (p := fun x => decide (ordS x r.key r.seq < 0)) (l := rs))
        rw [List.length_append] at this
        rw [List.length_append, List.length_cons]; omega
      · have := levS_low draw; omega
  · rw [if_neg h1] at h
    injection h with h2 h3; injection h3 with h3 h4; subst h2 h3 h4; exact ⟨hR, by omega, hh, by simp⟩

/-- Both lists stand in memory apart, with the same records. -/
structure Both (w wr : World) (L : Nd) (R : Nat) (rs : List Rc) (high : Nat) : Prop where
  ex : ∃ (U V : Nat → Prop) (ns : List Nd) (qs : List El), Sk wr U L ns high ∧ RefIs wr V R qs high ∧ ns.map Nd.r = rs ∧ qs.map El.r = rs ∧ (∀ b, U b → ¬ V b) ∧ (∀ b, U b → w.heap.size ≤ b) ∧ (∀ b, V b → w.heap.size ≤ b)
  right : AllRight rs
  hh : high ≤ 12
  below : Below w.heap.size w wr
/-- .. and the first one has been put to already. -/
structure Half (w wr : World) (L : Nd) (R : Nat) (rs rs' : List Rc) (high high' : Nat) : Prop where
  ex : ∃ (U V : Nat → Prop) (ns : List Nd) (qs : List El), Sk wr U L ns high' ∧ RefIs wr V R qs high ∧ ns.map Nd.r = rs' ∧ qs.map El.r = rs ∧ (∀ b, U b → ¬ V b) ∧ (∀ b, U b → w.heap.size ≤ b) ∧ (∀ b, V b → w.heap.size ≤ b)
  right : AllRight rs
  hh : high ≤ 12
  below : Below w.heap.size w wr
theorem Both.below' {w wr w' : World} {L : Nd} {R : Nat} {rs : List Rc} {high : Nat} (h : Both w wr L R rs high) (hb : Below wr.heap.size wr w') : Both w w' L R rs high := by
  obtain ⟨⟨U, V, ns, qs, h1, h2, h3⟩, h4, h5, h6⟩ := h
  exact ⟨⟨U, V, ns, qs, h1.below hb, h2.below hb, h3⟩, h4, h5, h6.trans (hb.mono h6.size)⟩
theorem Half.below' {w wr w' : World} {L : Nd} {R : Nat} {rs rs' : List Rc} {high high' : Nat} (h : Half w wr L R rs rs' high high') (hb : Below wr.heap.size wr w') : Half w w' L R rs rs' high high' := by
  obtain ⟨⟨U, V, ns, qs, h1, h2, h3⟩, h4, h5, h6⟩ := h
  exact ⟨⟨U, V, ns, qs, h1.below hb, h2.below hb, h3⟩, h4, h5, h6.trans (hb.mono h6.size)⟩

theorem both_put {w wr : World} {L : Nd} {R : Nat} {rs : List Rc} {high : Nat} (h : Both w wr L R rs high) (hn : rs.length ≤ 1000000) (kv vv : Value) (r : Rc) (draw : Int) (hk : Bs wr wr.heap.size kv r.key) (hv : Bs wr wr.heap.size vv r.val) (hd : -9223372036854775808 ≤ draw ∧ draw ≤ 9223372036854775807) :
    Calls Try.prog 10 #[ptr L.g, .agg #[kv, .int .i64 r.seq, .bool r.del, vv], .int .i64 draw] wr fun e w' => ∃ c rs' high', e = .returned (.int .i64 c) ∧ putS rs high r draw = (c, rs', high') ∧ Half w w' L R rs rs' high high' := by
  obtain ⟨⟨U, V, ns, qs, h1, h2, rfl, h4, h5, h6, h7⟩, h8, h9, h10⟩ := h
  have hsz := size_right _ h8
  simp only [List.length_map] at hn hsz
  refine (put_any U L ns high kv vv r draw wr h1 hk hv hd (by omega) (by omega) h9).mono ?_
  rintro e w' ⟨c, ns', high', rfl, hp, hs, hc⟩
  refine ⟨c, ns'.map Nd.r, high', rfl, hp, ⟨⟨fun b => U b ∨ New wr.heap.size w' b, V, ns', qs, hs, h2.keep hc.size (fun b hb => hc.block b (h2.lt b hb) (fun hu => h5 b hu hb)), rfl, h4, ?_, ?_, h7⟩, h8, h9, hc.to_below h10 h6 (Nat.le_refl _)⟩⟩
  · rintro b (hb | hb) hv
    · exact h5 b hb hv
    · have := h2.lt b hv; have := hb.1; omega
  · rintro b (hb | hb)
    · exact h6 b hb
    · exact Nat.le_trans h10.size hb.1
theorem half_put {w wr : World} {L : Nd} {R : Nat} {rs rs' : List Rc} {high high' : Nat} (h : Half w wr L R rs rs' high high') (hn : rs.length ≤ 1000000) (kv vv : Value) (r : Rc) (draw c : Int) (hk : Bs wr wr.heap.size kv r.key) (hv : Bs wr wr.heap.size vv r.val) (hd : -9223372036854775808 ≤ draw ∧ draw ≤ 9223372036854775807)
    (hp : putS rs high r draw = (c, rs', high')) :
    Calls Try.prog 11 #[ptr R, .agg #[kv, .int .i64 r.seq, .bool r.del, vv], .int .i64 draw] wr fun e w' => e = .returned (.int .i64 c) ∧ Both w w' L R rs' high' := by
  obtain ⟨⟨U, V, ns, qs, h1, h2, h3, rfl, h5, h6, h7⟩, h8, h9, h10⟩ := h
  obtain ⟨i1, i2, i3, _⟩ := putS_inv hp h8 h9
  simp only [List.length_map] at hn
  refine (put_ref V R qs high kv vv r draw wr h2 hk hv hd (by omega) h9).mono ?_
  rintro e w' ⟨c', qs', high'', rfl, hp', hs, hc⟩
  rw [hp] at hp'
  injection hp' with e1 e2
  injection e2 with e2 e3
  subst e1 e3
  refine ⟨rfl, ⟨⟨U, fun b => V b ∨ New wr.heap.size w' b, ns, qs', h1.keep hc.size (fun b hb => hc.block b (h1.lt b hb) (fun hv => h5 b hb hv)), hs, h3, e2.symm, ?_, h6, ?_⟩, i1, i3, hc.to_below h10 h7 (Nat.le_refl _)⟩⟩
  · rintro b hb (hv | hv)
    · exact h5 b hb hv
    · have := h1.lt b hb; have := hv.1; omega
  · rintro b (hb | hb)
    · exact h7 b hb
    · exact Nat.le_trans h10.size hb.1
theorem Both.start {w w1 : World} {L : Nd} (hs : Sk w1 (New w.heap.size w1) L [] 0) (hb : Below w.heap.size w w1) : Both w (w1.alloc (.cells #[.slice none 0 0, .int .i64 0] 30)) L w1.heap.size [] 0 := by
  have b1 : Below w1.heap.size w1 (w1.alloc (.cells #[.slice none 0 0, .int .i64 0] 30)) := (Below.refl _ _).alloc (Nat.le_refl _) _
  refine ⟨⟨New w.heap.size w1, fun b => b = w1.heap.size, [], [], hs.below b1, ⟨fun b hb => by subst hb; simp, rfl, ⟨.slice none 0 0, blk_new _ _ rfl, ⟨none, 0, rfl, by simp, fun h => absurd h (by simp)⟩⟩, by intro q hq; simp at hq⟩, rfl, rfl, ?_, fun b hb => hb.1, fun b hb' => by subst hb'; exact hb.size⟩, by intro r hr; simp at hr, by omega, hb.trans (b1.mono hb.size)⟩
  intro b hb e
  have := hb.2; omega

theorem both_len {w wr : World} {L : Nd} {R : Nat} {rs : List Rc} {high : Nat} (h : Both w wr L R rs high) : Calls Try.prog 12 #[ptr L.g] wr fun e w' => e = .returned (.int .i64 (rs.length : Nat)) ∧ w' = wr := by
  obtain ⟨⟨U, V, ns, qs, h1, h2, rfl, h4, h5, h6, h7⟩, h8, h9, h10⟩ := h
  have := len_any U L ns high wr h1
  rwa [List.length_map]
theorem both_size {w wr : World} {L : Nd} {R : Nat} {rs : List Rc} {high : Nat} (h : Both w wr L R rs high) : Calls Try.prog 13 #[ptr L.g] wr fun e w' => e = .returned (.int .i64 (sizeS rs : Nat)) ∧ w' = wr := by
  obtain ⟨⟨U, V, ns, qs, h1, h2, rfl, h4, h5, h6, h7⟩, h8, h9, h10⟩ := h
  exact size_any U L ns high wr h1
theorem both_height {w wr : World} {L : Nd} {R : Nat} {rs : List Rc} {high : Nat} (h : Both w wr L R rs high) : Calls Try.prog 15 #[ptr L.g] wr fun e w' => e = .returned (.int .i64 (high : Nat)) ∧ w' = wr := by
  obtain ⟨⟨U, V, ns, qs, h1, h2, rfl, h4, h5, h6, h7⟩, h8, h9, h10⟩ := h
  exact height_any U L ns high wr h1
theorem both_rsize {w wr : World} {L : Nd} {R : Nat} {rs : List Rc} {high : Nat} (h : Both w wr L R rs high) (hn : rs.length ≤ 1000000) : Calls Try.prog 14 #[ptr R] wr fun e w' => e = .returned (.int .i64 (sizeS rs : Nat)) ∧ ∃ n, w' = wr.drewN n := by
  obtain ⟨⟨U, V, ns, qs, h1, h2, h3, rfl, h5, h6, h7⟩, h8, h9, h10⟩ := h
  have hsz := size_right _ h8
  simp only [List.length_map] at hn hsz
  exact size_ref V R qs high wr h2 (by omega) (by omega)
theorem both_cells {w wr : World} {L : Nd} {R : Nat} {rs : List Rc} {high : Nat} (h : Both w wr L R rs high) : ∃ A c, wr.cell? ⟨R, 0, none⟩ = some (.slice A rs.length c) ∧ wr.cell? ⟨R, 1, none⟩ = some (.int .i64 high) := by
  obtain ⟨⟨U, V, ns, qs, h1, h2, h3, rfl, h5, h6, h7⟩, h8, h9, h10⟩ := h
  obtain ⟨v, hb, hr⟩ := h2.box
  obtain ⟨A, c, rfl⟩ := hr.form
  obtain ⟨p0, p1, _⟩ := cells2 hb
  exact ⟨A, c, by rw [List.length_map]; exact p0, p1⟩
/-- What From tells, and both lists beside it. -/
def FromB (w wr w' : World) (L : Nd) (R : Nat) (rs : List Rc) (high : Nat) (v : Value) : Prop := Told wr w' v rs ∧ Both w w' L R rs high
theorem compare_nil (a : List UInt8) : ¬ Lib.compareBytes a [] < 0 := by
  cases a with
  | nil => rw [compare_refl]; omega
  | cons x a =>
    show ¬ (1 : Int) < 0
    omega
theorem fromS_all (rs : List Rc) (h : rs.length ≤ 2000) : fromS rs [] 2000 = rs := by
  unfold fromS
  rw [List.filter_eq_self.2 (by intro a _; simp [compare_nil])]
  exact List.take_of_length_le h
theorem Told.base {w wr : World} {v : Value} {rs : List Rc} (h : Told w wr v rs) : Below w.heap.size w wr := let ⟨_, _, _, _, h⟩ := h; h
theorem both_lens {w wr : World} {L : Nd} {R : Nat} {rs : List Rc} {high : Nat} {ns : List Nd} (h : Both w wr L R rs high) (hn : ns.map Nd.r = rs) : ∀ n ∈ ns, n.r.key.length ≤ 1099511627776 ∧ n.r.val.length ≤ 1099511627776 ∧ n.r.seq ≤ 1099511627777 := by
  intro n hm
  have := right_bounds (h.right n.r (by rw [← hn]; exact List.mem_map_of_mem hm))
  omega
theorem both_from {w wr : World} {L : Nd} {R : Nat} {rs : List Rc} {high : Nat} (h : Both w wr L R rs high) (hn : rs.length ≤ 2000) :
    Calls Try.prog 17 #[ptr L.g, .slice none 0 0, .int .i64 2000] wr fun e w' => ∃ v, e = .returned v ∧ FromB w wr w' L R rs high v := by
  have hh := h
  obtain ⟨⟨U, V, ns, qs, h1, h2, h3, h4, h5, h6, h7⟩, h8, h9, h10⟩ := hh
  have hl := both_lens h h3
  have hlen : ns.length = rs.length := by rw [← h3, List.length_map]
  refine (from_any U L ns high [] 2000 (.slice none 0 0) wr h1 Bs.nil hl (by omega) (by omega)).mono ?_
  rintro e w' ⟨v, rfl, ht⟩
  rw [h3, fromS_all rs hn] at ht
  have hb := ht
  obtain ⟨_, _, _, _, hb⟩ := hb
  exact ⟨v, rfl, ht, h.below' hb⟩
theorem both_same {w wr w' : World} {L : Nd} {R : Nat} {rs : List Rc} {high : Nat} {v u : Value} (h : FromB w wr w' L R rs high v) (hn : rs.length ≤ 2000) (hy : w'.cell? ⟨R, 0, none⟩ = some u) :
    Calls Try.prog 16 #[v, u] w' fun e w2 => e = .returned (.bool true) ∧ Below w'.heap.size w' w2 := by
  obtain ⟨⟨ps, hp1, hp2, hp3, hp4⟩, ⟨⟨U, V, ns, qs, h1, h2, h3, h4, h5, h6, h7⟩, h8, h9, h10⟩⟩ := h
  obtain ⟨v0, hb, hr⟩ := h2.box
  have : v0 = u := by have := (cells2 hb).1; rw [this] at hy; injection hy
  subst this
  have hl1 : ps.length = rs.length := by rw [← hp1, List.length_map]
  have hl2 : qs.length = rs.length := by rw [← h4, List.length_map]
  refine (sameAll_any (New wr.heap.size w') V v v0 ps qs w' (RowU.of_own hp2) hr hp3 h2.els (fun b hb => hb.2) h2.lt (by omega) (by omega)).mono ?_
  rintro e w2 ⟨rfl, hw⟩
  exact ⟨by rw [hp1, h4]; simp, hw⟩
theorem item_at {w w' : World} {b off : Nat} {its : List It} (h : ItemsAt w (some ⟨b, off, none⟩) its) (hb : Below w.heap.size w w') {k : Nat} (hk : k < its.length) :
    w'.cell? ⟨b, off + k * 5, none⟩ = some its[k].kv ∧ w'.cell? ⟨b, off + k * 5 + 1, none⟩ = some (.int .i64 its[k].r.seq) ∧ w'.cell? ⟨b, off + k * 5 + 2, none⟩ = some (.bool its[k].r.del) ∧ w'.cell? ⟨b, off + k * 5 + 3, none⟩ = some its[k].vv ∧ w'.cell? ⟨b, off + k * 5 + 4, none⟩ = some (.int .i64 its[k].draw) := by
  obtain ⟨b', off', e, _, hc⟩ := (h.up hb).1 (by omega)
  injection e with e
  injection e with e1 e2
  subst e1 e2
  exact hc k hk
theorem both_base {w w0 wr : World} {L : Nd} {R : Nat} {rs : List Rc} {high : Nat} (h : Both w0 wr L R rs high) (h0 : Below w.heap.size w w0) : Below w.heap.size w wr := h0.trans (h.below.mono h0.size)
theorem half_base {w w0 wr : World} {L : Nd} {R : Nat} {rs rs' : List Rc} {high high' : Nat} (h : Half w0 wr L R rs rs' high high') (h0 : Below w.heap.size w w0) : Below w.heap.size w wr := h0.trans (h.below.mono h0.size)

end Go.Proofs.Ytpgbinijocbfmaa
