/- settle; set: what is put into a period's cells. -/
import Derived.Test.YtbjjgnaojoaoiaaGreatK14
import Derived.Test.YtbjjgnaojoaoiaaGreatK20
import Derived.Defers
import Derived.Recover
namespace Go.Proofs.YtbjjgnaojoaoiaaGreat
open Go.RowKit Go
set_option linter.unusedVariables false
set_option linter.unusedSimpArgs false

/-- Cells of one block were put; of old blocks nothing else turned. -/
structure Puts (w : World) (b : Nat) (us : List (Nat × Value)) (w' : World) : Prop where
  os : w'.os = w.os
  tape : w'.tape = w.tape
  output : w'.output = w.output
  size : w.heap.size ≤ w'.heap.size
  far : ∀ k, k < w.heap.size → k ≠ b → w'.heap[k]? = w.heap[k]?
  near : ∀ cs t fr, w.heap[b]? = some (.cells cs t fr) → w'.heap[b]? = some (.cells (us.foldl (fun a u => a.setIfInBounds u.1 u.2) cs) t fr)
theorem Puts.start {w w' : World} {b : Nat} (hb : Below w.heap.size w w') : Puts w b [] w' :=
  ⟨hb.os, hb.tape, hb.output, hb.size, fun k hk _ => hb.block k hk, fun cs t fr h => (hb.block b (blk_lt h)).trans h⟩
theorem Puts.set {w w' : World} {b : Nat} {us : List (Nat × Value)} (h : Puts w b us w') (i : Nat) (u : Value) : Puts w b (us ++ [(i, u)]) (w'.setCell ⟨b, i, none⟩ u) :=
  ⟨h.os, h.tape, h.output, by simpa [World.setCell] using h.size, fun k hk hne => (Below.heap_setCell w' ⟨b, i, none⟩ u k hne).trans (h.far k hk hne), fun cs t fr hc => by rw [List.foldl_append]; exact blk_set (h.near cs t fr hc) i u⟩
theorem Puts.drew {w w' : World} {b : Nat} {us : List (Nat × Value)} (h : Puts w b us w') : Puts w b us w'.drew := ⟨h.os, h.tape, h.output, h.size, h.far, h.near⟩
theorem Puts.swap {w w' : World} {b : Nat} {us : List (Nat × Value)} {i j : Nat} {u v : Value} (h : Puts w b (us ++ [(i, u)] ++ [(j, v)]) w') (hij : i ≠ j) : Puts w b (us ++ [(j, v)] ++ [(i, u)]) w' :=
  ⟨h.os, h.tape, h.output, h.size, h.far, fun cs t fr hc => by
    rw [h.near cs t fr hc]
    simp only [List.foldl_append, List.foldl_cons, List.foldl_nil]
    rw [Array.setIfInBounds_comm _ _ hij]⟩
theorem Puts.below {w w' w'' : World} {b : Nat} {us : List (Nat × Value)} (h : Puts w b us w') (hb : Below w'.heap.size w' w'') : Puts w b us w'' :=
  ⟨hb.os.trans h.os, hb.tape.trans h.tape, hb.output.trans h.output, Nat.le_trans h.size hb.size, fun k hk hne => (hb.block k (Nat.lt_of_lt_of_le hk h.size)).trans (h.far k hk hne), fun cs t fr hc => (hb.block b (blk_lt (h.near cs t fr hc))).trans (h.near cs t fr hc)⟩
theorem Puts.after {w w1 w' : World} {b : Nat} {us : List (Nat × Value)} (hb : Below w.heap.size w w1) (h : Puts w1 b us w') : Puts w b us w' :=
  ⟨h.os.trans hb.os, h.tape.trans hb.tape, h.output.trans hb.output, Nat.le_trans hb.size h.size, fun k hk hne => (h.far k (Nat.lt_of_lt_of_le hk hb.size) hne).trans (hb.block k hk), fun cs t fr hc => h.near cs t fr ((hb.block b (blk_lt hc)).trans hc)⟩
theorem Puts.toBelow {w w' : World} {b B : Nat} {us : List (Nat × Value)} (h : Puts w b us w') (hB : B ≤ b) (hw : B ≤ w.heap.size) : Below B w w' :=
  ⟨h.os, h.tape, h.output, h.size, fun k hk => h.far k (by omega) (by omega)⟩
theorem setIB_list (l : List Value) : ∀ (us : List (Nat × Value)) (cs : Array Value), cs.toList.take l.length = l → ((us.foldl (fun a u => a.setIfInBounds u.1 u.2) cs)).toList.take l.length = us.foldl (fun a u => a.set u.1 u.2) l := by
  intro us
  induction us generalizing l with
  | nil => intro cs h; exact h
  | cons u us ih =>
    intro cs h
    rw [List.foldl_cons, List.foldl_cons]
    have := ih (l.set u.1 u.2) (cs.setIfInBounds u.1 u.2) (by rw [Array.toList_setIfInBounds, List.length_set, List.take_set, h])
    rw [List.length_set] at this
    exact this
theorem foldl_size (us : List (Nat × Value)) (cs : Array Value) : (us.foldl (fun a u => a.setIfInBounds u.1 u.2) cs).size = cs.size := by
  induction us generalizing cs with
  | nil => rfl
  | cons u us ih => rw [List.foldl_cons, ih]; simp
theorem foldl_len (us : List (Nat × Value)) (l : List Value) : (us.foldl (fun a u => a.set u.1 u.2) l).length = l.length := by
  induction us generalizing l with
  | nil => rfl
  | cons u us ih => rw [List.foldl_cons, ih]; simp
theorem own_puts {w w' : World} {base g cap n s : Nat} {e : TypeId} {xs : List Value} {us : List (Nat × Value)} (h : w.ownsRow base e s (.slice (some ⟨g, 0, none⟩) n cap) n xs) (hp : Puts w g us w') :
    w'.ownsRow base e s (.slice (some ⟨g, 0, none⟩) n cap) n (us.foldl (fun a u => a.set u.1 u.2) xs) := by
  refine ⟨by rw [foldl_len]; exact h.1, ?_⟩
  rcases h.2 with ⟨h1, _⟩ | ⟨g', cap', cur, h1, h2, h3, h4, h5, h6, h7⟩
  · cases h1
  · injection h1 with h1 _ h8; injection h1 with h1; injection h1 with h1 _ _; subst h1; subst h8
    refine .inr ⟨g, cap, _, rfl, h2, hp.near _ _ _ h3, h4, h5, by rw [foldl_size]; exact h6, ?_⟩
    have := setIB_list xs us cur (by rw [h.1]; exact h7)
    rwa [h.1] at this
theorem own_apart {w w' : World} {base n s b : Nat} {e : TypeId} {v : Value} {xs : List Value} {us : List (Nat × Value)} (h : w.ownsRow base e s v n xs) (hp : Puts w b us w') (hb : v.ownBlock ≠ some b) : w'.ownsRow base e s v n xs := by
  refine ⟨h.1, ?_⟩
  rcases h.2 with h2 | ⟨g, cap, cur, rfl, hb2, hg, r⟩
  · exact .inl h2
  · exact .inr ⟨g, cap, cur, rfl, hb2, (hp.far g (blk_lt hg) (fun e => hb (by rw [← e]; rfl))).trans hg, r⟩
/-- Cells of one period of the account's row were put. -/
theorem OwnV.puts {w w' : World} {B g gp cap : Nat} {S : Ac} {vq : Value} {qs : List PmE} {us : List (Nat × Value)} {ps : List Per} (h : OwnV w B g S (.slice (some ⟨gp, 0, none⟩) S.ps.length cap) vq qs) (hn : 0 < S.ps.length) (hp : Puts w gp us w')
    (hl : ps.length = S.ps.length) (hu : us.foldl (fun a u => a.set u.1 u.2) (perCs S.ps) = perCs ps) : OwnV w' B g { S with ps := ps } (.slice (some ⟨gp, 0, none⟩) S.ps.length cap) vq qs := by
  obtain ⟨b1, cs, hcs⟩ := own_block_type h.hp (b := gp) rfl
  refine ⟨(hp.far g (blk_lt h.hg) (ne_of_type' h.hg hcs (by decide))).trans h.hg, h.hB, by rw [hl, ← hu]; exact own_puts h.hp hp, own_apart h.hq hp (fun e => ?_), h.hm, fun q hq => (h.parts q hq).keep fun b cs' hb => hp.far b (blk_lt hb) (ne_of_type' hb hcs (by decide))⟩
  obtain ⟨_, cs', hcs'⟩ := own_block_type h.hq e
  exact ne_of_type' hcs' hcs (by decide) rfl
theorem PartsAt.puts3 {w w' : World} {v : Value} {l : List Dq} {b : Nat} {us : List (Nat × Value)} {cs : Array Value} {t : Nat} {fr : Nat × Nat} (h : PartsAt w v l) (hp : Puts w b us w') (hb : w.heap[b]? = some (.cells cs t fr)) (ht : t ≠ 58) : PartsAt w' v l :=
  h.keep fun b' cs' hb' => hp.far b' (blk_lt hb') (ne_of_type' hb' hb (fun e => ht e.symm))
theorem cells4G {w : World} {v0 v1 v2 v3 : Value} {t g : Nat} (h : w.heap[g]? = some (.cells #[v0, v1, v2, v3] t (0, 0))) : w.cell? ⟨g, 0, none⟩ = some v0 ∧ w.cell? ⟨g, 1, none⟩ = some v1 ∧ w.cell? ⟨g, 2, none⟩ = some v2 ∧ w.cell? ⟨g, 3, none⟩ = some v3 ∧ ∀ i, w.frozen? ⟨g, i, none⟩ = false := by
  simp [World.cell?, World.frozen?, h]
theorem per_put {ps : List Per} {i j : Nat} (h : i < ps.length) (hj : j < 11) {u : Value} {y : Per} (hy : (perC ps[i]).set j u = perC y) : (perCs ps).set (i * 11 + j) u = perCs (ps.set i y) := flat_set perC_len h hj hy

/-- What is accrued is open. -/
def settleS (day bp : Int) (p : Per) : Int × Int × Per :=
  if (interestS day bp p).2 ≠ 0 then ((interestS day bp p).2, 0, p) else
  if (addS p.o1 ((interestS day bp p).1 - p.acc)).2 ≠ 0 then (2, 0, p) else
  (0, (interestS day bp p).1 - p.acc, { p with o1 := (addS p.o1 ((interestS day bp p).1 - p.acc)).1, acc := (interestS day bp p).1 })
/-- How settle ends. -/
def SettleOf (w : World) (b off : Nat) (r : Int × Int × Per) (e : Ending) (w' : World) : Prop :=
  (r.1 ≠ 0 ∧ e = pan r.1 ∧ Below w.heap.size w w') ∨ (r.1 = 0 ∧ e = .returned (.int .i64 r.2.1) ∧ Puts w b [(off + 6, .int .i64 r.2.2.o1), (off + 10, .int .i64 r.2.2.acc)] w')
theorem add_enter (a b : Int) (w : World) : (callFunc 43 #[.int .i64 a, .int .i64 b]).run Tryz.prog w = .ok (.enter 43 #[.int .i64 a, .int .i64 b]) w := by kernel_rfl
set_option maxHeartbeats 3200000 in
set_option maxRecDepth 100000 in
theorem settle_any (g b off : Nat) (day bp : Int) (cr vp vq : Value) (T : Nat) (p : Per) (w : World) (hg : w.heap[g]? = some (.cells #[.int .i64 day, .int .i64 bp, cr, vp, vq] T (0, 0))) (hp : PerAt w b off p)
    (h1 : 0 ≤ day ∧ day ≤ 3652058) (h2 : 0 ≤ p.since ∧ p.since ≤ 3652058) (h3 : -9223372036854775808 ≤ (interestS day bp p).1 - p.acc ∧ (interestS day bp p).1 - p.acc ≤ 9223372036854775807) :
    Calls Tryz.prog 39 #[.pointer (some ⟨g, 0, none⟩), .pointer (some ⟨b, off, none⟩)] w (SettleOf w b off (settleS day bp p)) := by
  have HI := Lib.hid (interest_any g b off day bp cr vp vq T p w hg hp h1 h2)
  have hbl := hp.lt
  have hsb := IntWalk.i64_in _ h3
  clear hg h1 h2 h3
  obtain ⟨n, e0, hi⟩ : ∃ n e0, interestS day bp p = (n, e0) := ⟨_, _, rfl⟩
  rw [hi] at HI hsb
  by_cases he : e0 = 0
  · subst he
    obtain ⟨o, e1, ha⟩ : ∃ o e1, addS p.o1 (n - p.acc) = (o, e1) := ⟨_, _, rfl⟩
    obtain ⟨c5, c6, c7, c8, c9, c10⟩ := hp.open_
    obtain ⟨f5, f6, f7, f8, f9, f10⟩ := hp.free
    simp only at hsb
    by_cases he1 : e1 = 0
    · subst he1
      have H : Hid (settleS day bp p = (0, n - p.acc, { p with o1 := o, acc := n })) := Lib.hid (by simp [settleS, hi, ha])
      have HA := Lib.hid (fun wx => uadd_yes p.o1 (n - p.acc) wx (by rw [ha]))
      rw [ha] at HA
      have HPA := Lib.hid hp
      clear hi ha hp c5 c7 c8 c9 f5 f7 f8 f9
      go_enter Tryz.func39, Tryz.ntmps39
      go_wp2_with fail
      refine HI.out.mono ?_; rintro e w1 ⟨rfl, hw1⟩; have HP1 : Hid (PerAt w1.drew b off p) := Lib.hid ((HPA.out.below hw1).below (Below.refl _ _).drew); obtain ⟨hc1, hf1⟩ := bcell hw1; have hz1 := hw1.size; (try simp only [World.size_alloc, World.size_setCell, World.size_drew, size_drewN, Nat.add_one_le_iff] at hz1); (try have hy1 : w.heap.size < w1.heap.size := by omega); (try have hx1 : w.heap.size + 1 < w1.heap.size := by omega); have HW1 := Lib.hid hw1; clear hw1
      go_wp2_with fail
      go_region_law (refine step_call2R rfl 43 (.tmp 30) (.tmp 31) 2 2 rfl (.int .i64 p.o1) (.int .i64 (n - p.acc)) rfl rfl (add_enter _ _) ?_
                     refine (HA.out _).mono ?_; rintro e w2 ⟨rfl, hw2⟩; refine ⟨_, rfl, ?_⟩
                     have hp2 := HP1.out.below hw2
                     have k6 : w2.cell? ⟨b, off + 5 + 1, none⟩ = some (.int .i64 p.o1) := hp2.c 6 (by omega)
                     have k10 : w2.cell? ⟨b, off + 10, none⟩ = some (.int .i64 p.acc) := hp2.c 10 (by omega)
                     have g6 : w2.frozen? ⟨b, off + 5 + 1, none⟩ = false := hp2.f 6 (by omega)
                     have g10 : w2.frozen? ⟨b, off + 10, none⟩ = false := hp2.f 10 (by omega)
                     have HW2 := Lib.hid hw2; clear hw2 hp2)
      all_goals go_wp2_with fail
      all_goals go_ret
      all_goals exact .inr ⟨by rw [H.out], by rw [H.out]; rfl, by rw [H.out]; exact ((Puts.start (HW1.out.drew.trans (HW2.out.mono HW1.out.size))).set (off + 6) _).set (off + 10) _⟩
    · have H : Hid (settleS day bp p = (2, 0, p)) := Lib.hid (by simp [settleS, hi, ha, he1])
      have HA := Lib.hid (fun wx => uadd_no p.o1 (n - p.acc) wx (by rw [ha]; exact he1))
      clear hi ha hp c5 c7 c8 c9 f5 f7 f8 f9
      go_enter Tryz.func39, Tryz.ntmps39
      go_wp2_with fail
      refine HI.out.mono ?_; rintro e w1 ⟨rfl, hw1⟩; obtain ⟨hc1, hf1⟩ := bcell hw1; have hz1 := hw1.size; (try simp only [World.size_alloc, World.size_setCell, World.size_drew, size_drewN, Nat.add_one_le_iff] at hz1); (try have hy1 : w.heap.size < w1.heap.size := by omega); (try have hx1 : w.heap.size + 1 < w1.heap.size := by omega); have HW1 := Lib.hid hw1; clear hw1
      go_wp2_with fail
      have HB1 := Lib.hid (fun (w2 : World) (h : Below w1.drew.heap.size w1.drew w2) => ((HW1.out.drew.trans (h.mono HW1.out.size)) : Below w.heap.size w w2))
      go_region_law (refine step_call2P rfl 43 (.tmp 30) (.tmp 31) 2 2 rfl (.int .i64 p.o1) (.int .i64 (n - p.acc)) rfl rfl (add_enter _ _) ((HA.out _).mono ?_) ?_
                     · rintro e w2 ⟨rfl, hw2⟩; exact ⟨_, rfl, rfl, .inl ⟨by rw [H.out]; exact (by decide : (2 : Int) ≠ 0), by rw [H.out], HB1.out w2 hw2⟩⟩)
      all_goals trivial
  · have H : Hid (settleS day bp p = (e0, 0, p)) := Lib.hid (by simp [settleS, hi, he])
    have he' : (e0 != 0) = true := by simpa using he
    have HE := Lib.hid he
    clear hi hp he
    go_enter Tryz.func39, Tryz.ntmps39
    go_wp2_with fail
    refine HI.out.mono ?_; rintro e w1 ⟨rfl, hw1⟩; obtain ⟨hc1, hf1⟩ := bcell hw1; have hz1 := hw1.size; (try simp only [World.size_alloc, World.size_setCell, World.size_drew, size_drewN, Nat.add_one_le_iff] at hz1); (try have hy1 : w.heap.size < w1.heap.size := by omega); (try have hx1 : w.heap.size + 1 < w1.heap.size := by omega); have HW1 := Lib.hid hw1; clear hw1
    go_wp2_with fail
    exact ⟨rfl, .inl ⟨by rw [H.out]; exact HE.out, by rw [H.out], HW1.out⟩⟩

/-- What set puts. -/
def setU (day : Int) (p : Per) (off : Nat) (kind open_ : Int) : List (Nat × Value) :=
  if kind = 2 ∧ open_ ≠ p.o2 ∧ p.since ≤ day then [(off + 9, .int .i64 p.acc), (off + 8, .int .i64 day), (off + 7, .int .i64 open_)] else [(off + 5 + kind.toNat, .int .i64 open_)]
def Per.putO (p : Per) (kind v : Int) : Per := if kind = 0 then { p with o0 := v } else if kind = 1 then { p with o1 := v } else { p with o2 := v }
def Per.opn (p : Per) (kind : Int) : Int := if kind = 0 then p.o0 else if kind = 1 then p.o1 else p.o2
def Per.setO (day : Int) (p : Per) (kind v : Int) : Per := if kind = 2 ∧ v ≠ p.o2 ∧ p.since ≤ day then { p with o2 := v, done := p.acc, since := day } else p.putO kind v
theorem setU_puts {ps : List Per} {i : Nat} (h : i < ps.length) (day kind v : Int) (hk : kind = 0 ∨ kind = 1 ∨ kind = 2) :
    (setU day ps[i] (i * 11) kind v).foldl (fun a u => a.set u.1 u.2) (perCs ps) = perCs (ps.set i (Per.setO day ps[i] kind v)) := by
  unfold setU Per.setO
  by_cases hc : kind = 2 ∧ v ≠ (ps[i]).o2 ∧ (ps[i]).since ≤ day
  · rw [if_pos hc, if_pos hc]
    simp only [List.foldl_cons, List.foldl_nil]
    rw [per_put h (by omega) (y := { ps[i] with done := (ps[i]).acc }) rfl]
    rw [per_put (by simpa using h) (by omega) (y := { ps[i] with done := (ps[i]).acc, since := day }) (by simp [perC]), List.set_set]
    rw [per_put (by simpa using h) (by omega) (y := { ps[i] with done := (ps[i]).acc, since := day, o2 := v }) (by simp [perC]), List.set_set]
  · rw [if_neg hc, if_neg hc]
    simp only [List.foldl_cons, List.foldl_nil]
    rcases hk with rfl | rfl | rfl
    · exact per_put (j := 5) h (by omega) (u := .int .i64 v) (y := { ps[i] with o0 := v }) rfl
    · exact per_put (j := 6) h (by omega) (u := .int .i64 v) (y := { ps[i] with o1 := v }) rfl
    · exact per_put (j := 7) h (by omega) (u := .int .i64 v) (y := { ps[i] with o2 := v }) rfl
set_option maxHeartbeats 3200000 in
set_option maxRecDepth 100000 in
theorem set_any (g b off : Nat) (day bp kind open_ : Int) (cr vp vq : Value) (T : Nat) (p : Per) (w : World) (hg : w.heap[g]? = some (.cells #[.int .i64 day, .int .i64 bp, cr, vp, vq] T (0, 0))) (hp : PerAt w b off p) (hgb : g ≠ b)
    (h1 : 0 ≤ day ∧ day ≤ 3652058) (h2 : 0 ≤ p.since ∧ p.since ≤ 3652058) (hk : kind = 0 ∨ kind = 1 ∨ kind = 2) (hi : kind = 2 → p.since ≤ day → interestS day bp p = (p.acc, 0)) :
    Calls Tryz.prog 116 #[.pointer (some ⟨g, 0, none⟩), .pointer (some ⟨b, off, none⟩), .int .i64 kind, .int .i64 open_] w fun e w' => (∃ x, e = .returned x) ∧ Puts w b (setU day p off kind open_) w' := by
  obtain ⟨a0, a1, a2, a3, a4, a5⟩ := cells5U hg
  obtain ⟨c5, c6, c7, c8, c9, c10⟩ := hp.open_
  obtain ⟨f5, f6, f7, f8, f9, f10⟩ := hp.free
  have hgl := blk_lt hg
  have hbl := hp.lt
  rcases hk with rfl | rfl | rfl
  · have H : Hid (setU day p off 0 open_ = [(off + 5, .int .i64 open_)]) := Lib.hid rfl
    clear hg hp hi a1 a2 a3 a4
    go_enter Tryz.func116, Tryz.ntmps116
    go_wp2_with fail
    go_quiet (fail)
    go_wp2_with fail
    all_goals go_end0
    all_goals exact ⟨⟨_, rfl⟩, by rw [H.out]; exact (Puts.start (below_drewN (Below.refl _ _) _)).set (off + 5) _⟩
  · have H : Hid (setU day p off 1 open_ = [(off + 6, .int .i64 open_)]) := Lib.hid rfl
    clear hg hp hi a1 a2 a3 a4
    go_enter Tryz.func116, Tryz.ntmps116
    go_wp2_with fail
    go_quiet (fail)
    go_wp2_with fail
    all_goals go_end0
    all_goals exact ⟨⟨_, rfl⟩, by rw [H.out]; exact (Puts.start (below_drewN (Below.refl _ _) _)).set (off + 6) _⟩
  · by_cases ho : open_ = p.o2
    · subst ho
      have H : Hid (setU day p off 2 p.o2 = [(off + 7, .int .i64 p.o2)]) := Lib.hid (by simp [setU])
      clear hg hp hi a1 a2 a3 a4
      go_enter Tryz.func116, Tryz.ntmps116
      go_wp2_with fail
      go_quiet (fail)
      go_wp2_with fail
      all_goals go_end0
      all_goals exact ⟨⟨_, rfl⟩, by rw [H.out]; exact (Puts.start (below_drewN (Below.refl _ _) _)).set (off + 7) _⟩
    · have hne : (open_ != p.o2) = true := by simpa using ho
      by_cases hd : p.since ≤ day
      · have H : Hid (setU day p off 2 open_ = [(off + 9, .int .i64 p.acc), (off + 8, .int .i64 day), (off + 7, .int .i64 open_)]) := Lib.hid (by simp [setU, ho, hd])
        have HI := Lib.hid (fun wx (hb : Below w.heap.size w wx) => interest_any g b off day bp cr vp vq T p wx (blk_below hg hb hgl) (hp.below hb) h1 h2)
        rw [hi rfl hd] at HI
        have HPA := Lib.hid hp
        have HGG := Lib.hid hg
        clear hg hp hi a1 a2 a3 a4 ho
        go_enter Tryz.func116, Tryz.ntmps116
        go_wp2_with fail
        go_quiet (fail)
        go_wp2_with fail
        refine (HI.out _ (below_drewN (Below.refl _ _) _)).mono ?_; rintro e w1 ⟨rfl, hw1⟩
        have hb1 : Below w.heap.size w w1 := (below_drewN (Below.refl _ _) _ : Below w.heap.size w _).trans hw1
        have hp1 := HPA.out.below hb1
        obtain ⟨-, -, x7, x8, x9, -⟩ := hp1.open_
        obtain ⟨-, -, y7, y8, y9, -⟩ := hp1.free
        have z0 := (cells5U (blk_below HGG.out hb1 hgl)).1
        have zg := blk_lt (blk_below HGG.out hb1 hgl)
        have zb := hp1.lt
        have HB1 := Lib.hid hb1
        clear hb1 hw1 hp1
        go_wp2_with fail
        all_goals go_end0
        all_goals exact ⟨⟨_, rfl⟩, by rw [H.out]; first | exact (((Puts.start HB1.out).set (off + 9) _).set (off + 8) _).set (off + 7) _ | exact (((Puts.start HB1.out).set (off + 9) _).set (off + 8) _).set (off + 7) _⟩
      · have hd' : day < p.since := by omega
        have hdd : decide (day ≥ p.since) = false := by simp; omega
        have H : Hid (setU day p off 2 open_ = [(off + 7, .int .i64 open_)]) := Lib.hid (by simp [setU, hd])
        clear hg hp hi a1 a2 a3 a4 ho hd
        go_enter Tryz.func116, Tryz.ntmps116
        go_wp2_with fail
        go_quiet (fail)
        go_wp2_with fail
        all_goals go_end0
        all_goals exact ⟨⟨_, rfl⟩, by rw [H.out]; exact (Puts.start (below_drewN (Below.refl _ _) _)).set (off + 7) _⟩
end Go.Proofs.YtbjjgnaojoaoiaaGreat
/- Copies: Clone, Payments, copied. -/
namespace Go.Proofs.YtbjjgnaojoaoiaaGreat
open Go.RowKit Go
set_option linter.unusedVariables false
set_option linter.unusedSimpArgs false

theorem info_per : (Tryz.prog.info? 92).map (fun i => (i.zero, i.size, i.bytes)) = some (some (.agg #[.int .i64 0, .int .i64 0, .int .i64 0, .int .i64 0, .int .i64 0, .int .i64 0, .int .i64 0, .int .i64 0, .int .i64 0, .int .i64 0, .int .i64 0]), 11, 88) := by kernel_rfl
theorem info_pm : (Tryz.prog.info? 110).map (fun i => (i.zero, i.size, i.bytes)) = some (some (.agg #[.int .i64 0, .int .i64 0, .int .i64 0, .slice none 0 0, .int .i64 0, .bool false]), 6, 64) := by kernel_rfl
theorem perCs_one (ps : List Per) : ∀ u ∈ perCs ps, u.oneCell' = true := by
  intro u hu
  obtain ⟨q, _, hq⟩ := List.mem_flatMap.1 hu
  simp [perC] at hq
  rcases hq with rfl | rfl | rfl | rfl | rfl | rfl | rfl | rfl | rfl | rfl | rfl <;> rfl
theorem pmCs_one {w : World} {qs : List PmE} (h : ∀ q ∈ qs, PartsAt w q.v q.p.parts) : ∀ u ∈ pmCs qs, u.oneCell' = true := by
  intro u hu
  obtain ⟨q, hq, hu⟩ := List.mem_flatMap.1 hu
  obtain ⟨A, c, e⟩ := (h q hq).form
  simp [pmC, e] at hu
  rcases hu with rfl | rfl | rfl | rfl | rfl | rfl <;> rfl
theorem rd_nil_of {w : World} {B s n : Nat} {xs : List Value} (h : Rd w B s none n xs) : n = 0 := by
  rcases Nat.eq_zero_or_pos n with h0 | h0
  · exact h0
  · obtain ⟨b, off, e, _⟩ := h.2 h0; cases e
set_option maxHeartbeats 3200000 in
set_option maxRecDepth 100000 in
theorem clonePer_any (A : Option Addr) (n c : Nat) (ps : List Per) (w : World) (hl : ps.length = n) (hr : Rd w w.heap.size 11 A n (perCs ps)) (hn : n ≤ 1000000) :
    Calls Tryz.prog 142 #[.slice A n c] w fun e w' => ∃ v, e = .returned v ∧ w'.ownsRow w.heap.size 92 11 v n (perCs ps) ∧ Below w.heap.size w w' := by
  obtain ⟨i0, hi, hz0, hz1, hz2⟩ := info_parts info_per
  have hm := maxLen_le
  rcases A with _ | a
  · have h0 := rd_nil_of hr
    subst h0
    have hl0 : ps = [] := List.eq_nil_of_length_eq_zero hl
    subst hl0
    have e := Lib.run_eql_slice_nil (P := Tryz.prog) w 80 92 none 0 c 0 0 Tryz.underlying80
    go_enter Tryz.func142, Tryz.ntmps142
    go_wp2_with fail
    go_ret
    exact ⟨_, rfl, World.ownsRow_nil _ _ _ _, Below.refl _ _⟩
  · have e := Lib.run_eql_slice_nil (P := Tryz.prog) w 80 92 (some a) n c 0 0 Tryz.underlying80
    have hB : Below w.heap.size w (w.alloc (.cells #[] 92)) := (Below.refl _ _).alloc (Nat.le_refl _) _
    have hrr := Lib.hid (hr.below hB)
    go_enter Tryz.func142, Tryz.ntmps142
    go_wp2_with (at_builtin; refine wpList_app rfl (.tmp 5) (.tmp 6) _ rfl w.heap.size 92 i0 _ 11 88 Tryz.underlying80 hi hz0 hz1 hz2 rfl (by omega) (.slice (some ⟨w.heap.size, 0, none⟩) 0 0) 0 [] rfl (World.ownsRow_made w #[] 0 (Nat.le_refl _) (by omega) rfl) w.heap.size (some a) n c (perCs ps) rfl hrr.out (perCs_one ps) (by unfold maxLen; omega) (by omega) (by simp) ?_; intro v1 w1 hO hg hat)
    have HO := Lib.hid (show w1.ownsRow w.heap.size 92 11 v1 n (perCs ps) by simpa using hO)
    have HB : Hid (Below w.heap.size w w1) := hB.grown hg (by simp) (fun k hk => by simp [Value.ownBlock] at hk; omega)
    clear hO hg hat
    go_wp2_with fail
    go_ret
    exact ⟨_, rfl, HO.out, HB.out⟩
set_option maxHeartbeats 3200000 in
set_option maxRecDepth 100000 in
theorem clonePm_any (A : Option Addr) (n c : Nat) (qs : List PmE) (w : World) (hl : qs.length = n) (hr : Rd w w.heap.size 6 A n (pmCs qs)) (hp : ∀ q ∈ qs, PartsAt w q.v q.p.parts) (hn : n ≤ 1000000) :
    Calls Tryz.prog 132 #[.slice A n c] w fun e w' => ∃ A' c', e = .returned (.slice A' n c') ∧ n ≤ c' ∧ w'.ownsRow w.heap.size 110 6 (.slice A' n c') n (pmCs qs) ∧ Below w.heap.size w w' := by
  obtain ⟨i0, hi, hz0, hz1, hz2⟩ := info_parts info_pm
  have hm := maxLen_le
  have hone := Lib.hid (pmCs_one hp)
  clear hp
  rcases A with _ | a
  · have h0 := rd_nil_of hr
    subst h0
    have hl0 : qs = [] := List.eq_nil_of_length_eq_zero hl
    subst hl0
    have e := Lib.run_eql_slice_nil (P := Tryz.prog) w 81 110 none 0 c 0 0 Tryz.underlying81
    go_enter Tryz.func132, Tryz.ntmps132
    go_wp2_with fail
    go_ret
    exact ⟨none, 0, rfl, Nat.le_refl _, World.ownsRow_nil _ _ _ _, Below.refl _ _⟩
  · have e := Lib.run_eql_slice_nil (P := Tryz.prog) w 81 110 (some a) n c 0 0 Tryz.underlying81
    have hB : Below w.heap.size w (w.alloc (.cells #[] 110)) := (Below.refl _ _).alloc (Nat.le_refl _) _
    have hrr := Lib.hid (hr.below hB)
    go_enter Tryz.func132, Tryz.ntmps132
    go_wp2_with (at_builtin; refine wpList_app rfl (.tmp 5) (.tmp 6) _ rfl w.heap.size 110 i0 _ 6 64 Tryz.underlying81 hi hz0 hz1 hz2 rfl (by omega) (.slice (some ⟨w.heap.size, 0, none⟩) 0 0) 0 [] rfl (World.ownsRow_made w #[] 0 (Nat.le_refl _) (by omega) rfl) w.heap.size (some a) n c (pmCs qs) rfl hrr.out hone.out (by unfold maxLen; omega) (by omega) (by simp) ?_; intro v1 w1 hO hg hat)
    have HO := Lib.hid (show w1.ownsRow w.heap.size 110 6 v1 n (pmCs qs) by simpa using hO)
    have HB : Hid (Below w.heap.size w w1) := hB.grown hg (by simp) (fun k hk => by simp [Value.ownBlock] at hk; omega)
    clear hO hg hat
    go_wp2_with fail
    go_ret
    obtain ⟨A', c', rfl, _⟩ := own_form HO.out
    refine ⟨A', c', rfl, ?_, HO.out, HB.out⟩
    rcases HO.out.2 with ⟨h1, h2⟩ | ⟨g, cap, cur, h1, _, _, h4, _⟩
    · omega
    · injection h1 with _ _ h1; omega
set_option maxHeartbeats 3200000 in
set_option maxRecDepth 100000 in
theorem cloneIt_any (A : Option Addr) (n c : Nat) (l : List Dq) (w : World) (hp : PartsAt w (.slice A n c) l) (hn : n ≤ 1000000) :
    Calls Tryz.prog 133 #[.slice A n c] w fun e w' => ∃ v, e = .returned v ∧ PartsAt w' v l ∧ Below w.heap.size w w' := by
  obtain ⟨i0, hi, hz0, hz1, hz2⟩ := info_parts info_it
  obtain ⟨hl, hnc, hcm, hr⟩ := hp.rd
  have hm := maxLen_le
  clear hp hcm
  rcases A with _ | a
  · have h0 := rd_nil_of hr
    subst h0
    have hl0 : l = [] := List.eq_nil_of_length_eq_zero hl.symm
    subst hl0
    clear hl hr hnc
    have e := Lib.run_eql_slice_nil (P := Tryz.prog) w 41 58 none 0 c 0 0 Tryz.underlying41
    go_enter Tryz.func133, Tryz.ntmps133
    go_wp2_with fail
    go_ret
    exact ⟨_, rfl, ⟨none, 0, rfl, Nat.le_refl _, by simp, fun h => absurd h (by simp)⟩, Below.refl _ _⟩
  · have e := Lib.run_eql_slice_nil (P := Tryz.prog) w 41 58 (some a) n c 0 0 Tryz.underlying41
    have hB : Below w.heap.size w (w.alloc (.cells #[] 58)) := (Below.refl _ _).alloc (Nat.le_refl _) _
    have hrr := Lib.hid (hr.below hB)
    have HL := Lib.hid hl
    clear hl hr hnc
    go_enter Tryz.func133, Tryz.ntmps133
    go_wp2_with (at_builtin; refine wpList_app rfl (.tmp 5) (.tmp 6) _ rfl w.heap.size 58 i0 _ 4 32 Tryz.underlying41 hi hz0 hz1 hz2 rfl (by omega) (.slice (some ⟨w.heap.size, 0, none⟩) 0 0) 0 [] rfl (World.ownsRow_made w #[] 0 (Nat.le_refl _) (by omega) rfl) w.heap.size (some a) n c (itCs l) rfl hrr.out (itCs_one l) (by unfold maxLen; omega) (by omega) (by simp) ?_; intro v1 w1 hO hg hat)
    have HO := Lib.hid (show w1.ownsRow w.heap.size 58 4 v1 l.length (itCs l) by rw [← HL.out]; simpa using hO)
    have HB : Hid (Below w.heap.size w w1) := hB.grown hg (by simp) (fun k hk => by simp [Value.ownBlock] at hk; omega)
    clear hO hg hat
    go_wp2_with fail
    go_ret
    exact ⟨_, rfl, PartsAt.of_own HO.out, HB.out⟩

theorem bnewU (w : World) (o : Obj) : Below w.heap.size w (w.alloc o) := (Below.refl _ _).alloc (Nat.le_refl _) _
theorem PartsAt.puts {w w' : World} {v : Value} {l : List Dq} {b : Nat} {us : List (Nat × Value)} {cs : Array Value} {t : Nat} {fr : Nat × Nat} (h : PartsAt w v l) (hp : Puts w b us w') (hb : w.heap[b]? = some (.cells cs t fr)) (ht : t ≠ 58) : PartsAt w' v l :=
  h.keep fun b' cs' hb' => hp.far b' (blk_lt hb') (ne_of_type' hb' hb (fun e => ht e.symm))
theorem pm_put {qs : List PmE} {i j : Nat} (h : i < qs.length) (hj : j < 6) {u : Value} {y : PmE} (hy : (pmC qs[i]).set j u = pmC y) : (pmCs qs).set (i * 6 + j) u = pmCs (qs.set i y) := flat_set pmC_len h hj hy
/-- What Payments hands back. -/
def PaymentsOf (w : World) (ms : List Pm) (e : Ending) (w' : World) : Prop := ∃ v qs, e = .returned v ∧ w'.ownsRow w.heap.size 110 6 v ms.length (pmCs qs) ∧ qs.map PmE.p = ms ∧ (∀ q ∈ qs, PartsAt w' q.v q.p.parts) ∧ Below w.heap.size w w'
/-- The round: the first k are copies, the others as they were. -/
structure PayInv (w wr : World) (A : Option Addr) (c : Nat) (ms : List Pm) (qs rs : List PmE) (k : Nat) : Prop where
  own : wr.ownsRow w.heap.size 110 6 (.slice A ms.length c) ms.length (pmCs rs)
  hm : rs.map PmE.p = ms
  parts : ∀ q ∈ rs, PartsAt wr q.v q.p.parts
  bel : Below w.heap.size w wr
theorem PayInv.step {w wr w1 : World} {g c : Nat} {ms : List Pm} {qs rs : List PmE} {k : Nat} (h : PayInv w wr (some ⟨g, 0, none⟩) c ms qs rs k) (hk : k < rs.length) {v : Value} (hv : PartsAt w1 v (rs[k]).p.parts) (hb : Below wr.heap.size wr w1) :
    PayInv w (w1.setCell ⟨g, k * 6 + 3, none⟩ v) (some ⟨g, 0, none⟩) c ms qs (rs.set k ⟨(rs[k]).p, v⟩) (k + 1) := by
  have hl : rs.length = ms.length := by rw [← h.hm, List.length_map]
  have ho := own_below h.own hb
  obtain ⟨hgb, cs, hcs⟩ := own_block_type ho (b := g) rfl
  have hp : Puts w1 g [(k * 6 + 3, v)] (w1.setCell ⟨g, k * 6 + 3, none⟩ v) := (Puts.start (Below.refl _ _)).set _ _
  refine ⟨?_, ?_, fun q hq => ?_, (h.bel.trans (hb.mono h.bel.size)).setCell hgb _⟩
  · have := own_puts ho hp
    simp only [List.foldl_cons, List.foldl_nil] at this
    rwa [pm_put hk (by omega) (y := ⟨(rs[k]).p, v⟩) rfl] at this
  · rw [List.map_set]
    have : rs.map PmE.p = (rs.map PmE.p).set k (rs[k]).p := by
      apply List.ext_getElem (by simp)
      intro i h1 h2
      rw [List.getElem_set]
      split
      · rename_i e; subst e; simp
      · rfl
    rw [← this]; exact h.hm
  · rcases List.mem_or_eq_of_mem_set hq with hq | rfl
    · exact ((h.parts q hq).below hb).puts hp hcs (by decide)
    · exact hv.puts hp hcs (by decide)
set_option maxHeartbeats 3200000 in
set_option maxRecDepth 100000 in
theorem payments_any (g B : Nat) (S : Ac) (vp vq : Value) (qs : List PmE) (w : World) (h : OwnV w B g S vp vq qs) (hN : S.ms.length ≤ 1000) (hQ : ∀ p ∈ S.ms, p.parts.length ≤ 1000) :
    Calls Tryz.prog 76 #[.pointer (some ⟨g, 0, none⟩)] w (PaymentsOf w S.ms) := by
  obtain ⟨A, c, rfl, hc, hr⟩ := h.rdq
  obtain ⟨a0, a1, a2, a3, a4, a5⟩ := cells5U h.hg
  have hgl := blk_lt h.hg
  have HI := Lib.hid (clonePm_any A S.ms.length c qs w h.len hr h.parts (by omega))
  have HM := Lib.hid h.hm
  have HPT := Lib.hid h.parts
  have HQ := Lib.hid hQ
  clear h hr hQ
  obtain ⟨n, hn⟩ : ∃ n, S.ms.length = n := ⟨_, rfl⟩
  have HNN := Lib.hid hn
  rw [hn] at HI hN hc a4
  go_enter Tryz.func76, Tryz.ntmps76
  go_wp2_with fail
  refine HI.out.mono ?_; rintro e w1 ⟨A1, c1, rfl, hc1, ho1, hb1⟩
  have HI1 : Hid (PayInv w w1 A1 c1 S.ms qs qs 0) := Lib.hid ⟨by rw [HNN.out]; exact ho1, HM.out, fun q hq => (HPT.out q hq).below hb1, hb1⟩
  clear ho1 hb1
  go_wp2_with fail
  go_loopg [4, 12] n (fun g' v4 v12 wr => ∃ k : Nat, ∃ rs, g' = n - k ∧ k ≤ n ∧ v12 = .int .i64 k ∧ PayInv w wr A1 c1 S.ms qs rs k)
  case atStart => exact ⟨0, _, rfl, by omega, rfl, HI1.out⟩
  case round =>
    obtain ⟨k, rs, hgk, hk, rfl, hinv⟩ := hrel
    have HG := Lib.hid hgk; have HV := Lib.hid hinv
    have hlr : rs.length = n := by rw [← HNN.out, ← hinv.hm, List.length_map]
    clear hgk
    by_cases hlt : k < n
    · have hl1 : k < rs.length := by omega
      obtain ⟨b, off, e1, hb, c0, c1', c2, c3, c4, c5⟩ := (Rd.of_own hinv.own).pm hl1
      have hof : A1 = some ⟨b, 0, none⟩ ∧ off = 0 := by
        rcases hinv.own.2 with ⟨h1, h2⟩ | ⟨g', cap, cur, h1, _⟩
        · have := HNN.out; omega
        · injection h1 with h1; rw [e1] at h1; injection h1 with h1; injection h1 with h1 h2; subst h1 h2; exact ⟨e1, rfl⟩
      obtain ⟨rfl, rfl⟩ := hof
      simp only [Nat.zero_add] at c0 c1' c2 c3 c4 c5
      obtain ⟨Av, cv, ev⟩ := (hinv.parts _ (List.getElem_mem hl1)).form
      have hpa := hinv.parts _ (List.getElem_mem hl1)
      rw [ev] at c3 hpa
      have hpl : (rs[k]).p.parts.length ≤ 1000 := HQ.out _ (by rw [← hinv.hm]; exact List.mem_map.2 ⟨_, List.getElem_mem hl1, rfl⟩)
      have HC := Lib.hid (cloneIt_any Av _ cv _ wr hpa (by omega))
      have HL1 := Lib.hid hl1
      have hfz : wr.frozen? ⟨b, k * 6 + 3, none⟩ = false := by
        have e := pmCs_at (qs := rs) (i := k) (j := 3) hl1 (by omega)
        exact (own_cell hinv.own (e.trans rfl)).2
      have i1 : (0 : Int) ≤ (k : Int) := by omega
      have i2 : (k : Int) < (n : Int) := by omega
      have hbl : b < wr.heap.size := by
        obtain ⟨_, cs, hcs⟩ := own_block_type hinv.own (b := b) rfl; exact blk_lt hcs
      clear hinv hpa hpl c0 c1' c2 c4 c5 ev e1 hlr
      go_wp2_with fail
      refine HC.out.mono ?_; rintro e w2 ⟨v2, rfl, hv2, hb2⟩
      have hx3 := (hb2.cell (p := ⟨b, k * 6 + 3, none⟩) hbl).trans c3
      have hy3 := (hb2.frozen (p := ⟨b, k * 6 + 3, none⟩) hbl).trans hfz
      have HV2 := Lib.hid (HV.out.step HL1.out hv2 hb2)
      obtain ⟨A2, cc2, rfl⟩ := hv2.form
      clear hv2 hb2
      go_wp2_with fail
      go_roundg (n - (k + 1))
      case measure => have := HG.out; omega
      case rel => exact ⟨k + 1, _, rfl, by omega, by go_num, HV2.out⟩
    · have hkN : k = n := by omega
      subst hkN
      clear hinv
      go_wp2_with fail
      go_ret
      exact ⟨_, rs, rfl, by have := HV.out.own; rw [HNN.out] at this ⊢; exact this, HV.out.hm, HV.out.parts, HV.out.bel⟩
end Go.Proofs.YtbjjgnaojoaoiaaGreat
/- copied; New; Credit; the deferred closure of does. -/
namespace Go.Proofs.YtbjjgnaojoaoiaaGreat
open Go.RowKit Go
set_option linter.unusedVariables false
set_option linter.unusedSimpArgs false

theorem copied_end {w w1 w2 : World} {B g : Nat} {S : Ac} {vp vq v1 v2 : Value} {qs qs2 : List PmE} (h : OwnV w B g S vp vq qs)
    (ho1 : w1.ownsRow (w.alloc (.cells #[.int .i64 S.day, .int .i64 S.bp, .int .i64 S.cr, vp, vq] 83)).heap.size 92 11 v1 S.ps.length (perCs S.ps))
    (hb1 : Below (w.alloc (.cells #[.int .i64 S.day, .int .i64 S.bp, .int .i64 S.cr, vp, vq] 83)).heap.size (w.alloc (.cells #[.int .i64 S.day, .int .i64 S.bp, .int .i64 S.cr, vp, vq] 83)) w1)
    (ho2 : w2.ownsRow w1.heap.size 110 6 v2 S.ms.length (pmCs qs2)) (hm2 : qs2.map PmE.p = S.ms) (hp2 : ∀ q ∈ qs2, PartsAt w2 q.v q.p.parts) (hb2 : Below w1.heap.size w1 w2) :
    OwnAt ((w2.setCell ⟨w.heap.size, 3, none⟩ v1).setCell ⟨w.heap.size, 4, none⟩ v2) w.heap.size w.heap.size S ∧ Below w.heap.size w ((w2.setCell ⟨w.heap.size, 3, none⟩ v1).setCell ⟨w.heap.size, 4, none⟩ v2) := by
  have z0 : (w.alloc (.cells #[.int .i64 S.day, .int .i64 S.bp, .int .i64 S.cr, vp, vq] 83)).heap.size = w.heap.size + 1 := by simp
  have z1 := hb1.size
  have z2 := hb2.size
  have hbox := blk_below (blk_below (blk_new w (.cells #[.int .i64 S.day, .int .i64 S.bp, .int .i64 S.cr, vp, vq] 83) rfl) hb1 (by omega)) hb2 (by omega)
  refine ⟨⟨v1, v2, qs2, ?_, Nat.le_refl _, ?_, ?_, hm2, fun q hq => ?_⟩, ?_⟩
  · exact (blk_set (blk_set hbox 3 v1) 4 v2).trans rfl
  · have := own_below ho1 hb2
    refine own_mono (own_far (own_far this ?_ _) ?_ _) (by omega) <;> · intro e; have t : _ ≤ w.heap.size := (own_block_type ho1 e).1; omega
  · refine own_mono (own_far (own_far ho2 ?_ _) ?_ _) (by omega) <;> · intro e; have t : _ ≤ w.heap.size := (own_block_type ho2 e).1; omega
  · have hp : Puts w2 w.heap.size [(3, v1), (4, v2)] ((w2.setCell ⟨w.heap.size, 3, none⟩ v1).setCell ⟨w.heap.size, 4, none⟩ v2) := ((Puts.start (Below.refl _ _)).set 3 v1).set 4 v2
    exact (hp2 q hq).puts hp hbox (by decide)
  · exact ((((bnewU w _).trans (hb1.mono (by omega))).trans (hb2.mono (by omega))).setCell (Nat.le_refl _) _).setCell (Nat.le_refl _) _
set_option maxHeartbeats 3200000 in
set_option maxRecDepth 100000 in
theorem copied_any (g B : Nat) (S : Ac) (w : World) (h : OwnAt w B g S) (hN : S.ms.length ≤ 1000) (hM : S.ps.length ≤ 1000) (hQ : ∀ p ∈ S.ms, p.parts.length ≤ 1000) :
    Calls Tryz.prog 94 #[.pointer (some ⟨g, 0, none⟩)] w fun e w' => e = .returned (.pointer (some ⟨w.heap.size, 0, none⟩)) ∧ OwnAt w' w.heap.size w.heap.size S ∧ Below w.heap.size w w' := by
  obtain ⟨vp, vq, qs, h⟩ := h
  have HV := Lib.hid h
  obtain ⟨A, c, rfl, hc, hr⟩ := h.rdp
  obtain ⟨a0, a1, a2, a3, a4, a5⟩ := cells5U h.hg
  obtain ⟨A', c', rfl, _⟩ := h.rdq
  have hgl := blk_lt h.hg
  have hne : g ≠ w.heap.size := by omega
  have hba := bnewU w (.cells #[.int .i64 S.day, .int .i64 S.bp, .int .i64 S.cr, .slice A S.ps.length c, .slice A' S.ms.length c'] 83)
  have HC := Lib.hid (clonePer_any A S.ps.length c S.ps (w.alloc (.cells #[.int .i64 S.day, .int .i64 S.bp, .int .i64 S.cr, .slice A S.ps.length c, .slice A' S.ms.length c'] 83)) rfl ((hr.below hba).wider hba.size) (by omega))
  have HVA := Lib.hid (h.below hba)
  have HP := Lib.hid (fun wx hv => payments_any g B S (.slice A S.ps.length c) (.slice A' S.ms.length c') qs wx hv hN hQ)
  clear h hr hba
  go_enter Tryz.func94, Tryz.ntmps94
  go_wp2_with fail
  refine HC.out.mono ?_; rintro e w1 ⟨v1, rfl, ho1, hb1⟩
  have HO1 := Lib.hid ho1; have HB1 := Lib.hid hb1
  clear ho1 hb1
  go_wp2_with fail
  refine (HP.out w1 (HVA.out.below HB1.out)).mono ?_; rintro e w2 ⟨v2, qs2, rfl, ho2, hm2, hp2, hb2⟩
  have hbox := blk_below (blk_below (blk_new w (.cells #[.int .i64 S.day, .int .i64 S.bp, .int .i64 S.cr, .slice A S.ps.length c, .slice A' S.ms.length c'] 83) rfl) HB1.out (by simp)) hb2 (by have := HB1.out.size; simp at this; omega)
  obtain ⟨b0, b1, b2, b3, b4, b5⟩ := cells5U hbox
  have HE := Lib.hid (copied_end HV.out HO1.out HB1.out ho2 hm2 hp2 hb2)
  obtain ⟨A1, k1, rfl, _⟩ := own_form HO1.out
  obtain ⟨A2, k2, rfl, _⟩ := own_form ho2
  have z1 := HB1.out.size
  have z2 := hb2.size
  simp at z1
  have hbl : w.heap.size < w2.heap.size := by omega
  clear ho2 hm2 hp2 hb2 hbox z1 z2
  go_wp2_with fail
  go_ret
  exact ⟨rfl, HE.out⟩

/-- What the deferred closure leaves where the step panicked. -/
structure Caught (w : World) (gm ge : Nat) (c : Int) (w' : World) : Prop where
  os : w'.os = w.os
  tape : w'.tape = w.tape
  output : w'.output = w.output
  size : w'.heap.size = w.heap.size
  m : w'.heap[gm]? = some (.cells #[.int .i64 0, .int .i64 0, .int .i64 0, .int .i64 0, .int .i64 0, .int .i64 0] 33 (0, 0))
  e : w'.heap[ge]? = some (.cells #[.int .i64 c] 28 (0, 0))
  far : ∀ k, k ≠ gm → k ≠ ge → w'.heap[k]? = w.heap[k]?
theorem Caught.drew {w w' : World} {gm ge : Nat} {c : Int} (h : Caught w gm ge c w') : Caught w gm ge c w'.drew := ⟨h.os, h.tape, h.output, h.size, h.m, h.e, h.far⟩
theorem sc_os (w : World) (p : Addr) (u : Value) : (w.setCell p u).os = w.os := rfl
theorem sc_tape (w : World) (p : Addr) (u : Value) : (w.setCell p u).tape = w.tape := rfl
theorem sc_output (w : World) (p : Addr) (u : Value) : (w.setCell p u).output = w.output := rfl
theorem caught_of {w : World} {gm ge : Nat} {c e0 : Int} {v0 v1 v2 v3 v4 v5 : Value} (hm : w.heap[gm]? = some (.cells #[v0, v1, v2, v3, v4, v5] 33 (0, 0))) (he : w.heap[ge]? = some (.cells #[.int .i64 e0] 28 (0, 0))) (hne : gm ≠ ge) :
    Caught w gm ge c (((((((w.setCell ⟨gm, 0, none⟩ (.int .i64 0)).setCell ⟨gm, 1, none⟩ (.int .i64 0)).setCell ⟨gm, 2, none⟩ (.int .i64 0)).setCell ⟨gm, 3, none⟩ (.int .i64 0)).setCell ⟨gm, 4, none⟩ (.int .i64 0)).setCell ⟨gm, 5, none⟩ (.int .i64 0)).setCell ⟨ge, 0, none⟩ (.int .i64 c))  := by
  refine ⟨by simp only [sc_os], by simp only [sc_tape], by simp only [sc_output], by simp only [World.size_setCell], ?_, ?_, fun k h1 h2 => ?_⟩
  · have a0 := blk_set hm 0 (.int .i64 0)
    have a1 := blk_set a0 1 (.int .i64 0)
    have a2 := blk_set a1 2 (.int .i64 0)
    have a3 := blk_set a2 3 (.int .i64 0)
    have a4 := blk_set a3 4 (.int .i64 0)
    have a5 := blk_set a4 5 (.int .i64 0)
    have a6 := blk_far a5 (p := ⟨ge, 0, none⟩) hne (.int .i64 c)
    exact a6
  · have a0 := blk_far he (p := ⟨gm, 0, none⟩) (Ne.symm hne) (.int .i64 0)
    have a1 := blk_far a0 (p := ⟨gm, 1, none⟩) (Ne.symm hne) (.int .i64 0)
    have a2 := blk_far a1 (p := ⟨gm, 2, none⟩) (Ne.symm hne) (.int .i64 0)
    have a3 := blk_far a2 (p := ⟨gm, 3, none⟩) (Ne.symm hne) (.int .i64 0)
    have a4 := blk_far a3 (p := ⟨gm, 4, none⟩) (Ne.symm hne) (.int .i64 0)
    have a5 := blk_far a4 (p := ⟨gm, 5, none⟩) (Ne.symm hne) (.int .i64 0)
    have a6 := blk_set a5 0 (.int .i64 c)
    exact a6
  · rw [Below.heap_setCell _ ⟨ge, 0, none⟩ _ k h2, Below.heap_setCell _ ⟨gm, 5, none⟩ _ k h1, Below.heap_setCell _ ⟨gm, 4, none⟩ _ k h1, Below.heap_setCell _ ⟨gm, 3, none⟩ _ k h1, Below.heap_setCell _ ⟨gm, 2, none⟩ _ k h1, Below.heap_setCell _ ⟨gm, 1, none⟩ _ k h1, Below.heap_setCell _ ⟨gm, 0, none⟩ _ k h1]
theorem errno_assert (v : Value) (w : World) : (Instr.typeAssert (.iface 28 v) 20 28 false).run Tryz.prog w = .ok v w := by kernel_rfl
theorem cells6U {w : World} {v0 v1 v2 v3 v4 v5 : Value} {t g : Nat} (h : w.heap[g]? = some (.cells #[v0, v1, v2, v3, v4, v5] t (0, 0))) :
    w.cell? ⟨g, 0, none⟩ = some v0 ∧ w.cell? ⟨g, 1, none⟩ = some v1 ∧ w.cell? ⟨g, 2, none⟩ = some v2 ∧ w.cell? ⟨g, 3, none⟩ = some v3 ∧ w.cell? ⟨g, 4, none⟩ = some v4 ∧ w.cell? ⟨g, 5, none⟩ = some v5 ∧ ∀ i, w.frozen? ⟨g, i, none⟩ = false := by
  simp [World.cell?, World.frozen?, h]
set_option maxHeartbeats 3200000 in
set_option maxRecDepth 100000 in
theorem catch_pan (gm ge : Nat) (c : Int) (m : Mv) (e0 : Int) (older : List PanicEntry) (w : World) (hm : w.heap[gm]? = some (.cells #[.int .i64 m.c0, .int .i64 m.c1, .int .i64 m.c2, .int .i64 m.paid, .int .i64 m.cr, .int .i64 m.cash] 33 (0, 0))) (he : w.heap[ge]? = some (.cells #[.int .i64 e0] 28 (0, 0))) (hne : gm ≠ ge) :
    CallsD Tryz.prog 95 #[.pointer (some ⟨gm, 0, none⟩), .pointer (some ⟨ge, 0, none⟩)] (.panicking ({ v := .iface 28 (.int .i64 c), recovered := false } :: older)) w fun e u' w' =>
      e = .returned (.tuple #[]) ∧ u' = .panicking ({ v := .iface 28 (.int .i64 c), recovered := true } :: older) ∧ Caught w gm ge c w' := by
  have hta := errno_assert (.int .i64 c)
  refine callsD_of_wpS Tryz.func95 rfl fun c₀ cs hu => ?_
  apply wpS_seq
  apply wpS_region
  simp [wpOpsS, go_sem, recoverD, hu, Tryz.ntmps95, Exit.thenS]
  rw [show (#[Value.pointer (some { block := gm, off := 0 }), Value.pointer (some { block := ge, off := 0 })] ++ ((Array.replicate 7 undef).setIfInBounds 1 (Value.iface 28 (Value.int IntKind.i64 c))).setIfInBounds 0 (Value.iface 28 (Value.int IntKind.i64 c)) : Array Value) = #[Value.pointer (some { block := gm, off := 0 }), Value.pointer (some { block := ge, off := 0 }), .iface 28 (.int .i64 c), .iface 28 (.int .i64 c), undef, undef, undef, undef, undef] from rfl]
  refine wpS_of_wp ?_
  have hnn : ∀ wx : World, (binOp BinOp.neq 20 (.iface 28 (.int .i64 c)) .nilIface).run Tryz.prog wx = .ok (.bool true) wx := fun _ => by kernel_rfl
  have mc := cells6U hm
  obtain ⟨m0, m1, m2, m3, m4, m5, m6⟩ := mc
  have e1 : w.cell? ⟨ge, 0, none⟩ = some (.int .i64 e0) := (blk_cell he 0).trans rfl
  have e2 : w.frozen? ⟨ge, 0, none⟩ = false := blk_free he 0
  have hgm := blk_lt hm; have hge := blk_lt he
  have hne' : ge ≠ gm := Ne.symm hne
  have HM := Lib.hid hm; have HE := Lib.hid he
  clear hm he
  go_wp2_with fail
  go_region_with (fail)
  all_goals exact ⟨rfl, _, rfl, .tuple #[], results_none rfl _ _ _, rfl, rfl, (caught_of HM.out HE.out hne).drew⟩
theorem catch_idle (gm ge : Nat) (w : World) :
    CallsD Tryz.prog 95 #[.pointer (some ⟨gm, 0, none⟩), .pointer (some ⟨ge, 0, none⟩)] .returning w fun e u' w' => e = .returned (.tuple #[]) ∧ u' = .returning ∧ w' = w := by
  refine callsD_of_wpS Tryz.func95 rfl fun c₀ cs hu => ?_
  apply wpS_seq
  apply wpS_region
  simp [wpOpsS, go_sem, recoverD, hu, Tryz.ntmps95, Exit.thenS]
  rw [show (#[Value.pointer (some { block := gm, off := 0 }), Value.pointer (some { block := ge, off := 0 })] ++ ((Array.replicate 7 undef).setIfInBounds 1 Value.nilIface).setIfInBounds 0 Value.nilIface : Array Value) = #[Value.pointer (some { block := gm, off := 0 }), Value.pointer (some { block := ge, off := 0 }), .nilIface, .nilIface, undef, undef, undef, undef, undef] from rfl]
  refine wpS_of_wp ?_
  go_wp2_with fail
  cases c₀
  simp_all [bodyPostS, results, Tryz.results95]
end Go.Proofs.YtbjjgnaojoaoiaaGreat
/- does. -/
namespace Go.Proofs.YtbjjgnaojoaoiaaGreat
open Go.RowKit Go
set_option linter.unusedVariables false
set_option linter.unusedSimpArgs false

/-- A step on the copy. -/
def StepOf (w : World) (B gb : Nat) (r : Ac × Mv × Int) (e : Ending) (w' : World) : Prop := Below B w w' ∧
  ((r.2.2 = 0 ∧ e = .returned (mvR r.2.1 0) ∧ OwnAt w' B gb r.1) ∨ (r.2.2 ≠ 0 ∧ (e = .returned (mvR Mv.zero r.2.2) ∨ e = pan r.2.2)))
/-- What does leaves. -/
def DoesOf (w : World) (g : Nat) (S : Ac) (r : Ac × Mv × Int) (e : Ending) (w' : World) : Prop := w.grownBy w' (some g) ∧
  ((r.2.2 = 0 ∧ e = .returned (mvR r.2.1 0) ∧ OwnAt w' 0 g r.1) ∨ (r.2.2 ≠ 0 ∧ e = .returned (mvR Mv.zero r.2.2) ∧ OwnAt w' 0 g S))
/-- The account's size is small. -/
def Ac.small (S : Ac) : Prop := S.ms.length ≤ 1000 ∧ S.ps.length ≤ 1000 ∧ ∀ p ∈ S.ms, p.parts.length ≤ 1000
@[reducible] def put6 (w : World) (g : Nat) (m : Mv) : World := (((((w.setCell ⟨g, 0, none⟩ (.int .i64 m.c0)).setCell ⟨g, 1, none⟩ (.int .i64 m.c1)).setCell ⟨g, 2, none⟩ (.int .i64 m.c2)).setCell ⟨g, 3, none⟩ (.int .i64 m.paid)).setCell ⟨g, 4, none⟩ (.int .i64 m.cr)).setCell ⟨g, 5, none⟩ (.int .i64 m.cash)
@[reducible] def put5 (w : World) (g : Nat) (v0 v1 v2 v3 v4 : Value) : World := ((((w.setCell ⟨g, 0, none⟩ v0).setCell ⟨g, 1, none⟩ v1).setCell ⟨g, 2, none⟩ v2).setCell ⟨g, 3, none⟩ v3).setCell ⟨g, 4, none⟩ v4
theorem put6_at {w : World} {g T : Nat} {v0 v1 v2 v3 v4 v5 : Value} (h : w.heap[g]? = some (.cells #[v0, v1, v2, v3, v4, v5] T (0, 0))) (m : Mv) : (put6 w g m).heap[g]? = some (.cells #[.int .i64 m.c0, .int .i64 m.c1, .int .i64 m.c2, .int .i64 m.paid, .int .i64 m.cr, .int .i64 m.cash] T (0, 0)) := by
  have a0 := blk_set h 0 (.int .i64 m.c0)
  have a1 := blk_set a0 1 (.int .i64 m.c1)
  have a2 := blk_set a1 2 (.int .i64 m.c2)
  have a3 := blk_set a2 3 (.int .i64 m.paid)
  have a4 := blk_set a3 4 (.int .i64 m.cr)
  have a5 := blk_set a4 5 (.int .i64 m.cash)
  exact a5
theorem put5_at {w : World} {g T : Nat} {u0 u1 u2 u3 u4 : Value} (h : w.heap[g]? = some (.cells #[u0, u1, u2, u3, u4] T (0, 0))) (v0 v1 v2 v3 v4 : Value) : (put5 w g v0 v1 v2 v3 v4).heap[g]? = some (.cells #[v0, v1, v2, v3, v4] T (0, 0)) := by
  have a0 := blk_set h 0 v0
  have a1 := blk_set a0 1 v1
  have a2 := blk_set a1 2 v2
  have a3 := blk_set a2 3 v3
  have a4 := blk_set a3 4 v4
  exact a4
theorem set_far (w : World) (g i : Nat) (u : Value) {k : Nat} (h : k ≠ g) : (w.setCell ⟨g, i, none⟩ u).heap[k]? = w.heap[k]? := Below.heap_setCell w ⟨g, i, none⟩ u k h
theorem put6_far (w : World) (g : Nat) (m : Mv) {k : Nat} (h : k ≠ g) : (put6 w g m).heap[k]? = w.heap[k]? := by simp only [put6, set_far _ _ _ _ h]
theorem put5_far (w : World) (g : Nat) (v0 v1 v2 v3 v4 : Value) {k : Nat} (h : k ≠ g) : (put5 w g v0 v1 v2 v3 v4).heap[k]? = w.heap[k]? := by simp only [put5, set_far _ _ _ _ h]
/-- A region that does not panic. -/
def noPan (Q : Exit → Act → World → Prop) : Exit → Act → World → Prop
  | .panic _, _, _ => False
  | e, a, w => Q e a w
theorem noPan_le (Q : Exit → Act → World → Prop) : ∀ e a w, noPan Q e a w → Q e a w := by
  intro e a w h
  cases e with
  | panic c => exact h.elim
  | _ => exact h
/-- The world behind a step that went well. -/
@[reducible] def doneW (w2 : World) (gm ge g : Nat) (m : Mv) (v0 v1 v2 v3 v4 : Value) : World :=
  ((put6 (put5 ((put6 w2 gm m).setCell ⟨ge, 0, none⟩ (.int .i64 0)) g v0 v1 v2 v3 v4) gm m).setCell ⟨ge, 0, none⟩ (.int .i64 0))
theorem doneW_facts {w2 : World} {gm ge g T : Nat} {m : Mv} {u0 u1 u2 u3 u4 x0 x1 x2 x3 x4 x5 y v0 v1 v2 v3 v4 : Value} (hm : w2.heap[gm]? = some (.cells #[x0, x1, x2, x3, x4, x5] 33 (0, 0))) (he : w2.heap[ge]? = some (.cells #[y] 28 (0, 0)))
    (hg : w2.heap[g]? = some (.cells #[u0, u1, u2, u3, u4] T (0, 0))) (h1 : gm ≠ ge) (h2 : gm ≠ g) (h3 : ge ≠ g) :
    (doneW w2 gm ge g m v0 v1 v2 v3 v4).heap[gm]? = some (.cells #[.int .i64 m.c0, .int .i64 m.c1, .int .i64 m.c2, .int .i64 m.paid, .int .i64 m.cr, .int .i64 m.cash] 33 (0, 0)) ∧
    (doneW w2 gm ge g m v0 v1 v2 v3 v4).heap[ge]? = some (.cells #[.int .i64 0] 28 (0, 0)) ∧
    (doneW w2 gm ge g m v0 v1 v2 v3 v4).heap[g]? = some (.cells #[v0, v1, v2, v3, v4] T (0, 0)) ∧
    (∀ k, k ≠ gm → k ≠ ge → k ≠ g → (doneW w2 gm ge g m v0 v1 v2 v3 v4).heap[k]? = w2.heap[k]?) := by
  have a1 := put6_at hm m
  have a2 := (set_far (put6 w2 gm m) ge 0 (.int .i64 0) h1).trans a1
  have a3 := (put5_far ((put6 w2 gm m).setCell ⟨ge, 0, none⟩ (.int .i64 0)) g v0 v1 v2 v3 v4 h2).trans a2
  have a4 := put6_at a3 m
  have b1 := (put6_far w2 gm m (Ne.symm h1)).trans he
  have b2 := blk_set b1 0 (.int .i64 0)
  have b3 := (put5_far ((put6 w2 gm m).setCell ⟨ge, 0, none⟩ (.int .i64 0)) g v0 v1 v2 v3 v4 h3).trans b2
  have b4 := (put6_far (put5 ((put6 w2 gm m).setCell ⟨ge, 0, none⟩ (.int .i64 0)) g v0 v1 v2 v3 v4) gm m (Ne.symm h1)).trans b3
  have c1 := (put6_far w2 gm m (Ne.symm h2)).trans hg
  have c2 := (set_far (put6 w2 gm m) ge 0 (.int .i64 0) (Ne.symm h3)).trans c1
  have c3 := put5_at c2 v0 v1 v2 v3 v4
  have c4 := (put6_far (put5 ((put6 w2 gm m).setCell ⟨ge, 0, none⟩ (.int .i64 0)) g v0 v1 v2 v3 v4) gm m (Ne.symm h2)).trans c3
  refine ⟨(set_far _ ge 0 _ h1).trans a4, blk_set b4 0 (.int .i64 0), (set_far _ ge 0 _ (Ne.symm h3)).trans c4, fun k k1 k2 k3 => ?_⟩
  exact (set_far _ ge 0 _ k2).trans ((put6_far _ gm m k1).trans ((put5_far _ g _ _ _ _ _ k3).trans ((set_far _ ge 0 _ k2).trans (put6_far _ gm m k1))))
theorem doneW_same (w2 : World) (gm ge g : Nat) (m : Mv) (v0 v1 v2 v3 v4 : Value) : (doneW w2 gm ge g m v0 v1 v2 v3 v4).os = w2.os ∧ (doneW w2 gm ge g m v0 v1 v2 v3 v4).tape = w2.tape ∧ (doneW w2 gm ge g m v0 v1 v2 v3 v4).output = w2.output ∧ (doneW w2 gm ge g m v0 v1 v2 v3 v4).heap.size = w2.heap.size := by
  refine ⟨by simp only [sc_os], by simp only [sc_tape], by simp only [sc_output], by simp only [World.size_setCell]⟩
theorem own_keep {w w' : World} {base n s : Nat} {e : TypeId} {v : Value} {xs : List Value} (h : w.ownsRow base e s v n xs) (hk : ∀ (b : Nat) (cs : Array Value), w.heap[b]? = some (.cells cs e (0, 0)) → w'.heap[b]? = w.heap[b]?) : w'.ownsRow base e s v n xs := by
  refine ⟨h.1, ?_⟩
  rcases h.2 with h2 | ⟨g, cap, cur, rfl, hb2, hg, r⟩
  · exact .inl h2
  · exact .inr ⟨g, cap, cur, rfl, hb2, (hk g cur hg).trans hg, r⟩
theorem done_end {w w2 : World} {gb g B : Nat} {S S' : Ac} {m : Mv} {x0 x1 x2 x3 x4 x5 y u0 u1 u2 u3 u4 vp vq : Value} {qs : List PmE} (hm : w2.heap[w.heap.size]? = some (.cells #[x0, x1, x2, x3, x4, x5] 33 (0, 0))) (he : w2.heap[w.heap.size + 1]? = some (.cells #[y] 28 (0, 0)))
    (hg : w2.heap[g]? = some (.cells #[u0, u1, u2, u3, u4] 83 (0, 0))) (hgl : g < w.heap.size) (ho : OwnV w2 B gb S' vp vq qs) (hb : Below w.heap.size w w2) :
    (doneW w2 w.heap.size (w.heap.size + 1) g m (.int .i64 S'.day) (.int .i64 S'.bp) (.int .i64 S'.cr) vp vq).drew.heap[w.heap.size]? = some (.cells #[.int .i64 m.c0, .int .i64 m.c1, .int .i64 m.c2, .int .i64 m.paid, .int .i64 m.cr, .int .i64 m.cash] 33 (0, 0)) ∧
    (doneW w2 w.heap.size (w.heap.size + 1) g m (.int .i64 S'.day) (.int .i64 S'.bp) (.int .i64 S'.cr) vp vq).drew.heap[w.heap.size + 1]? = some (.cells #[.int .i64 0] 28 (0, 0)) ∧
    DoesOf w g S (S', m, 0) (.returned (mvR m 0)) (doneW w2 w.heap.size (w.heap.size + 1) g m (.int .i64 S'.day) (.int .i64 S'.bp) (.int .i64 S'.cr) vp vq).drew := by
  obtain ⟨f1, f2, f3, f4⟩ := doneW_facts (v0 := .int .i64 S'.day) (v1 := .int .i64 S'.bp) (v2 := .int .i64 S'.cr) (v3 := vp) (v4 := vq) (m := m) hm he hg (by omega) (by omega) (by omega)
  obtain ⟨q1, q2, q3, q4⟩ := doneW_same w2 w.heap.size (w.heap.size + 1) g m (.int .i64 S'.day) (.int .i64 S'.bp) (.int .i64 S'.cr) vp vq
  generalize doneW w2 w.heap.size (w.heap.size + 1) g m (.int .i64 S'.day) (.int .i64 S'.bp) (.int .i64 S'.cr) vp vq = W at *
  have keep : ∀ (b : Nat) (cs : Array Value) (t : Nat), w2.heap[b]? = some (.cells cs t (0, 0)) → t ≠ 33 → t ≠ 28 → t ≠ 83 → W.heap[b]? = w2.heap[b]? := fun b cs t h t1 t2 t3 =>
    f4 b (ne_of_type' h hm t1) (ne_of_type' h he t2) (ne_of_type' h hg t3)
  refine ⟨f1, f2, ⟨q1.trans hb.os, q2.trans hb.tape, q3.trans hb.output, by rw [show W.drew.heap = W.heap from rfl, q4]; exact hb.size, fun k hk hne => ?_⟩, .inl ⟨rfl, rfl, vp, vq, qs, f3, Nat.zero_le _, ?_, ?_, ho.hm, fun q hq => ?_⟩⟩
  · exact (f4 k (by omega) (by omega) (fun e => hne (by rw [e]))).trans (hb.block k hk)
  · exact own_mono (own_keep (w' := W) ho.hp (fun b cs h => keep b cs _ h (by decide) (by decide) (by decide))) (Nat.zero_le _)
  · exact own_mono (own_keep (w' := W) ho.hq (fun b cs h => keep b cs _ h (by decide) (by decide) (by decide))) (Nat.zero_le _)
  · exact (ho.parts q hq).keep (w' := W) (fun b cs h => keep b cs _ h (by decide) (by decide) (by decide))
/-- The world behind a step that handed back an error. -/
@[reducible] def failW (w2 : World) (gm ge : Nat) (e : Int) : World := (put6 ((put6 w2 gm Mv.zero).setCell ⟨ge, 0, none⟩ (.int .i64 e)) gm Mv.zero).setCell ⟨ge, 0, none⟩ (.int .i64 e)
theorem failW_caught {w2 : World} {gm ge : Nat} {e : Int} {x0 x1 x2 x3 x4 x5 y : Value} (hm : w2.heap[gm]? = some (.cells #[x0, x1, x2, x3, x4, x5] 33 (0, 0))) (he : w2.heap[ge]? = some (.cells #[y] 28 (0, 0))) (h1 : gm ≠ ge) : Caught w2 gm ge e (failW w2 gm ge e) := by
  have a1 := put6_at hm Mv.zero
  have a2 := (set_far (put6 w2 gm Mv.zero) ge 0 (.int .i64 e) h1).trans a1
  have a3 := put6_at a2 Mv.zero
  have b1 := (put6_far w2 gm Mv.zero (Ne.symm h1)).trans he
  have b2 := blk_set b1 0 (.int .i64 e)
  have b3 := (put6_far ((put6 w2 gm Mv.zero).setCell ⟨ge, 0, none⟩ (.int .i64 e)) gm Mv.zero (Ne.symm h1)).trans b2
  refine ⟨by simp only [sc_os], by simp only [sc_tape], by simp only [sc_output], by simp only [World.size_setCell], (set_far _ ge 0 _ h1).trans a3, blk_set b3 0 (.int .i64 e), fun k k1 k2 => ?_⟩
  exact (set_far _ ge 0 _ k2).trans ((put6_far _ gm Mv.zero k1).trans ((set_far _ ge 0 _ k2).trans (put6_far _ gm Mv.zero k1)))
theorem caught_does {w w2 W : World} {g B : Nat} {S S' : Ac} {m : Mv} {e : Int} (h : Caught w2 w.heap.size (w.heap.size + 1) e W) (he : e ≠ 0) (ho : OwnAt w B g S) (hb : Below w.heap.size w w2) :
    DoesOf w g S (S', m, e) (.returned (mvR Mv.zero e)) W := by
  have hbW : Below w.heap.size w W := ⟨h.os.trans hb.os, h.tape.trans hb.tape, h.output.trans hb.output, by rw [h.size]; exact hb.size, fun k hk => (h.far k (by omega) (by omega)).trans (hb.block k hk)⟩
  exact ⟨⟨hbW.os, hbW.tape, hbW.output, hbW.size, fun k hk _ => hbW.block k hk⟩, .inr ⟨he, rfl, (ho.below hbW).mono (Nat.zero_le _)⟩⟩
theorem results_does {P : Program} {fn : Func} {p q : Tmp} {ty te : TypeId} {d : TypeDesc} (h : fn.results = #[.cell p ty, .cell q te]) (tmps : Array Value) (w : World) (g ge : Nat) (t : TypeId) (cs : Array Value) (fr : Nat × Nat) (v : Value)
    (hp : tmps.getD p undef = .pointer (some ⟨g, 0, none⟩)) (hg : w.heap[g]? = some (.cells cs t fr)) (hq : tmps.getD q undef = .pointer (some ⟨ge, 0, none⟩)) (hl : (loadVar te ⟨ge, 0, none⟩).run P w = .ok v w)
    (hu : P.underlying ty = some d) (hd : (match d with | .struct _ | .array _ _ => true | _ => false) = true) (hi : (P.info? ty).map (·.size) = some cs.size) :
    (results fn tmps).run P w = .ok (.tuple #[.agg cs, v]) w := by
  have hp' : tmps[p]?.getD undef = .pointer (some ⟨g, 0, none⟩) := by simpa using hp
  have hq' : tmps[q]?.getD undef = .pointer (some ⟨ge, 0, none⟩) := by simpa using hq
  simp [results, h, hp', hq', asAddr, run_loadVar_row w g t ty cs fr d hg hu hd hi, hl]
theorem load_errno (ge : Nat) (e : Int) (w : World) (h : w.heap[ge]? = some (.cells #[.int .i64 e] 28 (0, 0))) : (loadVar 28 ⟨ge, 0, none⟩).run Tryz.prog w = .ok (.int .i64 e) w := by
  have hc : w.cell? ⟨ge, 0, none⟩ = some (.int .i64 e) := (blk_cell h 0).trans rfl
  simp [go_sem, hc]
set_option maxHeartbeats 3200000 in
set_option maxRecDepth 100000 in
theorem does2_any (K : Nat) (c1 c2 : Value) (g B : Nat) (S : Ac) (r : Ac × Mv × Int) (w : World) (h : OwnAt w B g S) (hS : S.small)
    (hcf : ∀ (u : Value) (wx : World), (callFunc K #[u, c1, c2]).run Tryz.prog wx = .ok (.enter K #[u, c1, c2]) wx)
    (hK : ∀ (gb : Nat) (wx : World), Below w.heap.size w wx → w.heap.size + 2 ≤ wx.heap.size → OwnAt wx (w.heap.size + 2) gb S → Calls Tryz.prog K #[.pointer (some ⟨gb, 0, none⟩), c1, c2] wx (StepOf wx (w.heap.size + 2) gb r)) :
    Calls Tryz.prog 37 #[.pointer (some ⟨g, 0, none⟩), .func (.func K) #[] #[c1, c2]] w (DoesOf w g S r) := by
  have hmf : ∀ (fn : Fn) (first cap : Array Value) (w : World), (Instr.makeFunc fn first cap).run Tryz.prog w = .ok (.func fn first cap) w := fun _ _ _ _ => rfl
  have hbb : Below w.heap.size w ((w.alloc (.cells #[.int .i64 0, .int .i64 0, .int .i64 0, .int .i64 0, .int .i64 0, .int .i64 0] 33)).alloc (.cells #[.int .i64 0] 28)) := ((Below.refl _ _).alloc (Nat.le_refl _) _).alloc (by simp) _
  have HC := Lib.hid (copied_any g B S ((w.alloc (.cells #[.int .i64 0, .int .i64 0, .int .i64 0, .int .i64 0, .int .i64 0, .int .i64 0] 33)).alloc (.cells #[.int .i64 0] 28)) (h.below hbb) hS.1 hS.2.1 hS.2.2)
  have HO := Lib.hid h; have HBB := Lib.hid hbb
  have hm0 : ((w.alloc (.cells #[.int .i64 0, .int .i64 0, .int .i64 0, .int .i64 0, .int .i64 0, .int .i64 0] 33)).alloc (.cells #[.int .i64 0] 28)).heap[w.heap.size]? = some (.cells #[.int .i64 0, .int .i64 0, .int .i64 0, .int .i64 0, .int .i64 0, .int .i64 0] 33 (0, 0)) := blk_alloc (blk_new w _ rfl) _
  have he0 : ((w.alloc (.cells #[.int .i64 0, .int .i64 0, .int .i64 0, .int .i64 0, .int .i64 0, .int .i64 0] 33)).alloc (.cells #[.int .i64 0] 28)).heap[w.heap.size + 1]? = some (.cells #[.int .i64 0] 28 (0, 0)) := blk_new _ _ (by simp)
  obtain ⟨vp0, vq0, qs0, h0⟩ := h
  have HG0 := Lib.hid h0.hg
  have hgl := blk_lt h0.hg
  have z0 : ((w.alloc (.cells #[.int .i64 0, .int .i64 0, .int .i64 0, .int .i64 0, .int .i64 0, .int .i64 0] 33)).alloc (.cells #[.int .i64 0] 28)).heap.size = w.heap.size + 2 := by simp
  have HM0 := Lib.hid hm0; have HE0 := Lib.hid he0; have HZ0 := Lib.hid z0; have HKK := Lib.hid hK
  have n1 : g ≠ w.heap.size := by omega
  have n2 : g ≠ w.heap.size + 1 := by omega
  have n3 : g ≠ w.heap.size + 1 + 1 := by omega
  have n1' : w.heap.size ≠ g := by omega
  have n2' : w.heap.size + 1 ≠ g := by omega
  have n3' : w.heap.size + 1 + 1 ≠ g := by omega
  clear h0 hm0 he0 hbb z0 hK
  go_enter_defers Tryz.func37, Tryz.ntmps37
  go_wp2_with fail
  refine HC.out.mono ?_; rintro e w1 ⟨rfl, ho1, hb1⟩
  have hbw1 : Below w.heap.size w w1 := HBB.out.trans (hb1.mono (by have := HZ0.out; omega))
  have HO1 : Hid (OwnAt w1 (w.heap.size + 2) (w.heap.size + 2) S) := Lib.hid (by rw [HZ0.out] at ho1; exact ho1)
  have HB1 := Lib.hid hbw1
  have HM1 := Lib.hid (blk_below HM0.out hb1 (by have := HZ0.out; omega))
  have HE1 := Lib.hid (blk_below HE0.out hb1 (by have := HZ0.out; omega))
  have hz1 : w.heap.size + 2 ≤ w1.heap.size := by have := HZ0.out; have := hb1.size; omega
  clear ho1 hb1 hbw1
  go_wp2_with fail
  refine (HKK.out (w.heap.size + 2) w1 HB1.out hz1 HO1.out).mono ?_
  rintro e w2 ⟨hb2, hh⟩
  have hm2 := blk_below HM1.out hb2 (by omega)
  have he2 := blk_below HE1.out hb2 (by omega)
  have hg2 := blk_below (blk_below HG0.out HB1.out hgl) hb2 (by omega)
  have hbw2 : Below w.heap.size w w2 := HB1.out.trans (hb2.mono (by omega))
  have hz2 : w.heap.size + 2 ≤ w2.heap.size := Nat.le_trans hz1 hb2.size
  obtain ⟨S', m, er⟩ := r
  rcases hh with ⟨h0, rfl, ho2⟩ | ⟨h0, rfl | rfl⟩
  · simp only at h0 ho2
    subst h0
    obtain ⟨vp, vq, qs, ho2⟩ := ho2
    obtain ⟨Ap, kp, rfl, _⟩ := ho2.rdp
    obtain ⟨Aq, kq, rfl, _⟩ := ho2.rdq
    obtain ⟨m0, m1, m2, m3, m4, m5, m6⟩ := cells6U hm2
    have e0 : w2.cell? ⟨w.heap.size + 1, 0, none⟩ = some (.int .i64 0) := (blk_cell he2 0).trans rfl
    have e1 : w2.frozen? ⟨w.heap.size + 1, 0, none⟩ = false := blk_free he2 0
    obtain ⟨g0, g1, g2, g3, g4, g5⟩ := cells5U hg2
    obtain ⟨b0, b1, b2, b3, b4, b5⟩ := cells5U ho2.hg
    have hm2l := blk_lt hm2; have he2l := blk_lt he2; have hg2l := blk_lt hg2
    have HM2 := Lib.hid hm2; have HE2 := Lib.hid he2; have HG2 := Lib.hid hg2; have HO2 := Lib.hid ho2; have HBW := Lib.hid hbw2
    clear hm2 he2 hg2 ho2 hbw2 hb2
    go_wp2_with fail
    go_region_with (fail)
    all_goals go_wp2_with fail
    all_goals
      obtain ⟨E1, E2, E3⟩ := done_end (S := S) (m := m) HM2.out HE2.out HG2.out hgl HO2.out HBW.out
      refine leaves_cons (f := 95) (args := #[.pointer (some ⟨w.heap.size, 0, none⟩), .pointer (some ⟨w.heap.size + 1, 0, none⟩)]) (by simp) (by simp [go_sem]) ?_
      refine (catch_idle w.heap.size (w.heap.size + 1) _).mono ?_
      rintro e u' w'' ⟨rfl, rfl, rfl⟩
      exact ⟨_, results_does rfl _ _ _ _ _ _ _ _ rfl E1 rfl (load_errno _ _ _ E2) Tryz.underlying33 rfl (by kernel_rfl), E3⟩
  · simp only at h0
    obtain ⟨m0, m1, m2, m3, m4, m5, m6⟩ := cells6U hm2
    have e0 : w2.cell? ⟨w.heap.size + 1, 0, none⟩ = some (.int .i64 0) := (blk_cell he2 0).trans rfl
    have e1 : w2.frozen? ⟨w.heap.size + 1, 0, none⟩ = false := blk_free he2 0
    have hm2l := blk_lt hm2; have he2l := blk_lt he2
    have HM2 := Lib.hid hm2; have HE2 := Lib.hid he2; have HBW := Lib.hid hbw2
    have hne0 : (er == 0) = false := by simpa using h0
    have HN0 := Lib.hid h0
    clear hm2 he2 hg2 hbw2 hb2 h0
    go_wp2_with fail
    refine Code.wp_mono (noPan_le _) ?_
    go_region_law (fail)
    all_goals (simp only [noPan])
    all_goals go_wp2_with fail
    all_goals
      have E0 := (failW_caught (e := er) HM2.out HE2.out (by omega)).drew
      refine leaves_cons (f := 95) (args := #[.pointer (some ⟨w.heap.size, 0, none⟩), .pointer (some ⟨w.heap.size + 1, 0, none⟩)]) (by simp) (by simp [go_sem]) ?_
      refine (catch_idle w.heap.size (w.heap.size + 1) _).mono ?_
      rintro e u' w'' ⟨rfl, rfl, rfl⟩
      exact ⟨_, results_does rfl _ _ _ _ _ _ _ _ rfl E0.m rfl (load_errno _ _ _ E0.e) Tryz.underlying33 rfl (by kernel_rfl), caught_does E0 HN0.out HO.out HBW.out⟩
  · simp only at h0
    have HM2 := Lib.hid hm2; have HE2 := Lib.hid he2; have HBW := Lib.hid hbw2
    have HN0 := Lib.hid h0
    clear hm2 he2 hg2 hbw2 hb2 h0
    refine leaves_cons (f := 95) (args := #[.pointer (some ⟨w.heap.size, 0, none⟩), .pointer (some ⟨w.heap.size + 1, 0, none⟩)]) (by simp) (by simp [go_sem]) ?_
    refine (catch_pan w.heap.size (w.heap.size + 1) er Mv.zero 0 [] w2 HM2.out HE2.out (by omega)).mono ?_
    rintro e u' w'' ⟨rfl, rfl, E0⟩
    exact ⟨_, results_does rfl _ _ _ _ _ _ _ _ rfl E0.m rfl (load_errno _ _ _ E0.e) Tryz.underlying33 rfl (by kernel_rfl), caught_does E0 HN0.out HO.out HBW.out⟩
end Go.Proofs.YtbjjgnaojoaoiaaGreat
