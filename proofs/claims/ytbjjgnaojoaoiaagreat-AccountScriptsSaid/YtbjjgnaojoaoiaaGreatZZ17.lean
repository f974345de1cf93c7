/- Laws. -/
import Derived.Test.YtbjjgnaojoaoiaaGreatZZ16
namespace Go.Proofs.YtbjjgnaojoaoiaaGreat
open Go.RowKit Go
set_option linter.unusedVariables false
set_option linter.unusedSimpArgs false
set_option maxHeartbeats 12800000
set_option maxRecDepth 100000
def perYC (bp : Int) (x : Per × Int) : List Value := [.int .i64 x.1.ret.per, .int .i64 x.1.ret.due, .int .i64 x.1.ret.filed, .int .i64 x.1.ret.inc, .int .i64 x.1.ret.wh, .int .i64 x.1.o0, .int .i64 x.1.o1, .int .i64 x.1.o2, .int .i64 x.2, .int .i64 bp, .int .i64 x.1.since, .int .i64 x.1.done, .int .i64 x.1.acc]
theorem perYC_len (bp : Int) (x : Per × Int) : (perYC bp x).length = 13 := rfl
def runY (ps : List Per) : List (Per × Int) := ps.map fun p => (p, p.o2)
theorem runY_len (ps : List Per) : (runY ps).length = ps.length := by simp [runY]
theorem runY_set (ps : List Per) (i : Nat) (p : Per) : (runY ps).set i (p, p.o2) = runY (ps.set i p) := by simp [runY, List.map_set]
theorem runY_at {ps : List Per} {i : Nat} (h : i < (runY ps).length) : (runY ps)[i] = (ps[i]'(by rw [runY_len] at h; exact h), (ps[i]'(by rw [runY_len] at h; exact h)).o2) := by simp [runY]
theorem perYC_run (bp : Int) (ps : List Per) : (runY ps).flatMap (perYC bp) = perRCs bp ps := by
 unfold runY perRCs; rw [List.flatMap_map]; rfl
structure RefY (w : World) (B g : Nat) (S : Ac) (vp vq : Value) (qs : List PmE) (l : List (Per × Int)) : Prop where
 hg : w.heap[g]? = some (.cells #[.int .i64 S.day, .int .i64 S.bp, .int .i64 S.cr, vp, vq] 123 (0, 0))
 hB : B ≤ g
 hp : w.ownsRow B 169 13 vp l.length (l.flatMap (perYC S.bp))
 hq : w.ownsRow B 110 6 vq S.ms.length (pmCs qs)
 hm : qs.map PmE.p = S.ms
 parts : ∀ q ∈ qs, PartsAt w q.v q.p.parts
theorem RefV.toY {w : World} {B g : Nat} {S : Ac} {vp vq : Value} {qs : List PmE} (h : RefV w B g S vp vq qs) : RefY w B g S vp vq qs (runY S.ps) :=
 ⟨h.hg, h.hB, by rw [runY_len, perYC_run]; exact h.hp, h.hq, h.hm, h.parts⟩
theorem RefY.toV {w : World} {B g : Nat} {S : Ac} {vp vq : Value} {qs : List PmE} {ps : List Per} (h : RefY w B g S vp vq qs (runY ps)) : RefV w B g { S with ps := ps } vp vq qs :=
 ⟨h.hg, h.hB, by have := h.hp; rw [runY_len, perYC_run] at this; exact this, h.hq, h.hm, h.parts⟩
theorem RefY.below {w w' : World} {B g : Nat} {S : Ac} {vp vq : Value} {qs : List PmE} {l : List (Per × Int)} (h : RefY w B g S vp vq qs l) (hb : Below w.heap.size w w') : RefY w' B g S vp vq qs l :=
 ⟨blk_below h.hg hb (blk_lt h.hg), h.hB, own_below h.hp hb, own_below h.hq hb, h.hm, fun q hq => (h.parts q hq).below hb⟩
structure PerY (w : World) (b off : Nat) (bp : Int) (x : Per × Int) : Prop where
 c : ∀ j, j < 13 → w.cell? ⟨b, off + j, none⟩ = (perYC bp x)[j]?
 f : ∀ j, j < 13 → w.frozen? ⟨b, off + j, none⟩ = false
 lt : b < w.heap.size
theorem RefY.per {w : World} {B g : Nat} {S : Ac} {vp vq : Value} {qs : List PmE} {l : List (Per × Int)} (h : RefY w B g S vp vq qs l) {i : Nat} (hi : i < l.length) : ∃ gp cap, vp = .slice (some ⟨gp, 0, none⟩) l.length cap ∧ l.length ≤ cap ∧ B ≤ gp ∧ PerY w gp (i * 13) S.bp l[i] := by
 obtain ⟨gp, cap, rfl, hb, hlt⟩ := h.hp.form (by omega)
 have key : ∀ j, j < 13 → ∃ u, (perYC S.bp l[i])[j]? = some u ∧ w.cell? ⟨gp, i * 13 + j, none⟩ = some u ∧ w.frozen? ⟨gp, i * 13 + j, none⟩ = false := fun j hj => by
  have e := flat_at (perYC_len S.bp) hi hj
  have e2 : (perYC S.bp l[i])[j]? = some ((perYC S.bp l[i])[j]'hj) := List.getElem?_eq_getElem hj
  exact ⟨_, e2, own_cell h.hp (e.trans e2)⟩
 have hcap : l.length ≤ cap := by
  rcases h.hp.2 with ⟨h1, h2⟩ | ⟨g, cap', cur, h1, _, _, h4, _⟩
  · cases h1
  · injection h1 with _ _ h1; omega
 refine ⟨gp, cap, rfl, hcap, hb, ⟨fun j hj => ?_, fun j hj => ?_, hlt⟩⟩
 · obtain ⟨u, e1, e2, _⟩ := key j hj
   rw [e1, e2]
 · obtain ⟨u, e1, e2, e3⟩ := key j hj
   exact e3
theorem PerY.all {w : World} {b off : Nat} {bp : Int} {x : Per × Int} (h : PerY w b off bp x) :
  (w.cell? ⟨b, off, none⟩ = some (.int .i64 x.1.ret.per) ∧ w.cell? ⟨b, off + 1, none⟩ = some (.int .i64 x.1.ret.due) ∧ w.cell? ⟨b, off + 2, none⟩ = some (.int .i64 x.1.ret.filed) ∧ w.cell? ⟨b, off + 3, none⟩ = some (.int .i64 x.1.ret.inc) ∧ w.cell? ⟨b, off + 4, none⟩ = some (.int .i64 x.1.ret.wh) ∧
   w.cell? ⟨b, off + 5, none⟩ = some (.int .i64 x.1.o0) ∧ w.cell? ⟨b, off + 6, none⟩ = some (.int .i64 x.1.o1) ∧ w.cell? ⟨b, off + 7, none⟩ = some (.int .i64 x.1.o2)) ∧
  (w.cell? ⟨b, off + 8, none⟩ = some (.int .i64 x.2) ∧ w.cell? ⟨b, off + 9, none⟩ = some (.int .i64 bp) ∧ w.cell? ⟨b, off + 10, none⟩ = some (.int .i64 x.1.since) ∧ w.cell? ⟨b, off + 11, none⟩ = some (.int .i64 x.1.done) ∧ w.cell? ⟨b, off + 12, none⟩ = some (.int .i64 x.1.acc)) :=
 ⟨⟨h.c 0 (by omega), h.c 1 (by omega), h.c 2 (by omega), h.c 3 (by omega), h.c 4 (by omega), h.c 5 (by omega), h.c 6 (by omega), h.c 7 (by omega)⟩, h.c 8 (by omega), h.c 9 (by omega), h.c 10 (by omega), h.c 11 (by omega), h.c 12 (by omega)⟩
theorem flat_many {α : Type} {c : α → List Value} {k : Nat} (hc : ∀ x, (c x).length = k) {l : List α} {i : Nat} (h : i < l.length) (y : α) : setMany (l.flatMap c) (i * k) (c y) = (l.set i y).flatMap c := by
 have hl := flat_len hc l
 have hm : (i + 1) * k ≤ l.length * k := Nat.mul_le_mul_right _ (by omega)
 rw [Nat.succ_mul] at hm
 rw [setMany_is _ _ _ (by rw [hl, hc]; exact hm), hc]
 have hs := flat_split c h
 have ht : ((l.take i).flatMap c).length = i * k := by rw [flat_len hc, List.length_take]; congr 1; omega
 have e1 : (l.flatMap c).take (i * k) = (l.take i).flatMap c := by rw [hs, ← ht, List.take_left]
 have e2 : (l.flatMap c).drop (i * k + k) = (l.drop (i + 1)).flatMap c := by
  rw [hs, ← List.append_assoc, show i * k + k = ((l.take i).flatMap c ++ c l[i]).length by rw [List.length_append, ht, hc], List.drop_left]
 rw [e1, e2, flat_split c (l := l.set i y) (i := i) (by simpa using h)]
 simp [List.take_set_of_le, List.drop_set_of_lt]
theorem RefY.setPer {w : World} {B g gp cap : Nat} {S : Ac} {vq : Value} {qs : List PmE} {l : List (Per × Int)} (h : RefY w B g S (.slice (some ⟨gp, 0, none⟩) l.length cap) vq qs l) {i : Nat} (hi : i < l.length) (x : Per × Int) :
  RefY (putMany w gp (i * 13) (perYC S.bp x)) B g S (.slice (some ⟨gp, 0, none⟩) l.length cap) vq qs (l.set i x) := by
 obtain ⟨_, cs, hcs⟩ := own_block_type h.hp (b := gp) rfl
 have far := fun k (hk : k ≠ gp) => putMany_far gp (perYC S.bp x) w (i * 13) k hk
 refine ⟨(far g (ne_of_type' h.hg hcs (by decide))).trans h.hg, h.hB, ?_, own_keep h.hq fun b cs' hb => far b (ne_of_type' hb hcs (by decide)), h.hm, fun q hq => (h.parts q hq).keep fun b cs' hb => far b (ne_of_type' hb hcs (by decide))⟩
 have hm : (i + 1) * 13 ≤ l.length * 13 := Nat.mul_le_mul_right _ (by omega)
 have := own_many (perYC S.bp x) w (l.flatMap (perYC S.bp)) (i * 13) h.hp (by rw [perYC_len]; omega)
 rw [flat_many (perYC_len S.bp) hi] at this
 have e : (l.set i x).length = l.length := by simp
 rw [e]; exact this
theorem RefY.setFar {w : World} {B g gp gl cap : Nat} {S : Ac} {vq : Value} {qs : List PmE} {l : List (Per × Int)} {cs : Array Value} {fr : Nat × Nat} (h : RefY w B g S (.slice (some ⟨gp, 0, none⟩) l.length cap) vq qs l) (hne : gp ≠ gl) (hl : w.heap[gl]? = some (.cells cs 169 fr)) (j : Nat) (u : Value) :
  RefY (w.setCell ⟨gl, j, none⟩ u) B g S (.slice (some ⟨gp, 0, none⟩) l.length cap) vq qs l := by
 have far : ∀ k, k ≠ gl → (w.setCell ⟨gl, j, none⟩ u).heap[k]? = w.heap[k]? := fun k hk => Below.heap_setCell w ⟨gl, j, none⟩ u k hk
 refine ⟨(far g (ne_of_type' h.hg hl (by decide))).trans h.hg, h.hB, own_far h.hp (fun e => hne ?_) u, own_keep h.hq fun b cs' hb => far b (ne_of_type' hb hl (by decide)), h.hm, fun q hq => (h.parts q hq).keep fun b cs' hb => far b (ne_of_type' hb hl (by decide))⟩
 have e' : some gp = some gl := e
 exact Option.some.inj e'
theorem RefY.putsFar {w w' : World} {B g gp gl cap : Nat} {S : Ac} {vq : Value} {qs : List PmE} {l : List (Per × Int)} {us : List (Nat × Value)} {cs : Array Value} {fr : Nat × Nat} (h : RefY w B g S (.slice (some ⟨gp, 0, none⟩) l.length cap) vq qs l) (hp : Puts w gl us w') (hne : gp ≠ gl) (hl : w.heap[gl]? = some (.cells cs 169 fr)) :
  RefY w' B g S (.slice (some ⟨gp, 0, none⟩) l.length cap) vq qs l := by
 refine ⟨(hp.far g (blk_lt h.hg) (ne_of_type' h.hg hl (by decide))).trans h.hg, h.hB, own_apart h.hp hp (fun e => hne ?_), own_apart h.hq hp (fun e => ?_), h.hm, fun q hq => (h.parts q hq).puts3 hp hl (by decide)⟩
 · have e' : some gp = some gl := e
   exact Option.some.inj e'
 · obtain ⟨_, cs', hcs'⟩ := own_block_type h.hq e
   exact ne_of_type' hcs' hl (by decide) rfl
theorem Turn.many {w w1 : World} {B gp n cap o : Nat} {us : List Value} (h : Turn w B (.slice (some ⟨gp, 0, none⟩) n cap) w1) (hgp : B ≤ gp) : Turn w B (.slice (some ⟨gp, 0, none⟩) n cap) (putMany w1 gp o us) := by
 obtain ⟨h1, h2, h3, h4⟩ := putMany_same gp us w1 o
 exact ⟨below_many hgp us w1 o h.bel, ⟨h1.trans h.gr.os, h2.trans h.gr.tape, h3.trans h.gr.output, by rw [h4]; exact h.gr.size, fun k hk hn => (putMany_far gp us w1 o k (fun e => hn (by rw [e]; rfl))).trans (h.gr.block k hk hn)⟩⟩
def prinP (day : Int) (p : Per) (P : Int) : Per := if p.since ≤ day ∧ p.o2 ≠ P then { p with done := p.acc, since := day } else p
theorem prinP_setO {day : Int} {p : Per} {kind v : Int} (hk : kind = 0 ∨ kind = 1 ∨ kind = 2) : prinP day (p.putO kind v) p.o2 = Per.setO day p kind v := by
 unfold prinP Per.setO Per.putO
 rcases hk with rfl | rfl | rfl
 · simp
 · simp
 · by_cases h3 : p.since ≤ day
   · by_cases h4 : v = p.o2
     · simp [h3, h4]
     · simp [h3, h4]
   · simp [h3]
theorem box_cell {w w' : World} {g : Nat} {v : Value} (h : w.cell? ⟨g, 0, none⟩ = some v) (hl : g < w.heap.size) (hb : Below w.heap.size w w') : w'.cell? ⟨g, 0, none⟩ = some v := (hb.cell (p := ⟨g, 0, none⟩) hl).trans h
theorem refund1_any (gb B ga : Nat) (S : Ac) (a : Int) (w : World) (h : OwnAt w B gb S) (hB : B ≤ w.heap.size) (ha : w.cell? ⟨ga, 0, none⟩ = some (.int .i64 a)) (hga : ga < w.heap.size) (hne : ga ≠ gb)
  (h1 : 0 ≤ S.cr - a ∧ S.cr - a ≤ 4611686018427387904) (h2 : 1 ≤ a ∧ a ≤ 1125899906842624) :
  Calls Tryz.prog 59 #[.pointer (some ⟨gb, 0, none⟩), .pointer (some ⟨ga, 0, none⟩)] w (StepOf w B gb ({ S with cr := S.cr - a }, ⟨0, 0, 0, 0, -a, -a⟩, 0)) := by
 obtain ⟨vp, vq, qs, h⟩ := h
 obtain ⟨a0, a1, a2, a3, a4, a5⟩ := cells5U h.hg
 have hgl := blk_lt h.hg
 have hw1 : IntKind.i64.wrap (S.cr - a) = S.cr - a := IntWalk.i64_in _ (by omega)
 have hw2 : IntKind.i64.wrap (-a) = -a := IntWalk.i64_in _ (by omega)
 have HV := hyd h
 have hBg := h.hB
 have n1 : gb ≠ w.heap.size := by omega
 have n2 : ga ≠ w.heap.size := by omega
 have n3 : w.heap.size ≠ gb := by omega
 have n4 : gb ≠ ga := by omega
 clear h a0 a1 a3 a4
 go_enter Tryz.func59, Tryz.ntmps59
 go_wp2_with fail
 go_region_with (fail)
 all_goals go_wp2_with fail
 all_goals
  refine bodyPost_ret (results_row_tmpB rfl _ _ w.heap.size 33 #[.int .i64 0, .int .i64 0, .int .i64 0, .int .i64 0, .int .i64 (-a), .int .i64 (-a)] (0, 0) _ (by rfl) (blk_new (w.setCell ⟨gb, 2, none⟩ (.int .i64 (S.cr - a))) (.cells #[.int .i64 0, .int .i64 0, .int .i64 0, .int .i64 0, .int .i64 (-a), .int .i64 (-a)] 33) (by simp)) Tryz.underlying33 rfl (by kernel_rfl)) rfl ?_
  refine ⟨bly, .inl ⟨rfl, rfl, vp, vq, qs, ?_⟩⟩
  have p := (Puts.start (b := gb) (Below.refl w.heap.size w)).set 2 (.int .i64 (S.cr - a))
  exact (HV.out.setCr p).below ((Below.refl _ _).alloc (Nat.le_refl _) _).drew
theorem OwnAt.lt {w : World} {B g : Nat} {S : Ac} (h : OwnAt w B g S) : g < w.heap.size := by obtain ⟨_, _, _, h⟩ := h; exact blk_lt h.hg
theorem OwnAt.cell {w : World} {B g : Nat} {S : Ac} (h : OwnAt w B g S) : ∃ vp vq, w.heap[g]? = some (.cells #[.int .i64 S.day, .int .i64 S.bp, .int .i64 S.cr, vp, vq] 83 (0, 0)) := by obtain ⟨vp, vq, _, h⟩ := h; exact ⟨vp, vq, h.hg⟩
theorem spends_any (K : Nat) (c1 : Value) (g B : Nat) (S : Ac) (a : Int) (r : Ac × Mv × Int) (w : World) (h : OwnAt w B g S) (hS : S.small)
  (hcf : ∀ (u : Value) (wx : World), (callFunc K #[u, c1]).run Tryz.prog wx = .ok (.enter K #[u, c1]) wx)
  (hK : (1 ≤ a ∧ a ≤ 1125899906842624) → a ≤ S.cr → ∀ (gb B : Nat) (wx : World), w.heap.size ≤ B → Below w.heap.size w wx → B ≤ wx.heap.size → OwnAt wx B gb S → Calls Tryz.prog K #[.pointer (some ⟨gb, 0, none⟩), c1] wx (StepOf wx B gb r)) :
  Calls Tryz.prog 58 #[.pointer (some ⟨g, 0, none⟩), .int .i64 a, .func (.func K) #[] #[c1]] w (DoesOf w g S (if ¬ (1 ≤ a ∧ a ≤ 1125899906842624) then (S, Mv.zero, 1) else if S.cr < a then (S, Mv.zero, 2) else r)) := by
 have HV := hyd h
 obtain ⟨vp, vq, hg⟩ := h.cell
 obtain ⟨a0, a1, a2, a3, a4, a5⟩ := cells5U hg
 have hgl := blk_lt hg
 have n1 : g ≠ w.heap.size := by omega
 have n2 : w.heap.size ≠ g := by omega
 clear h hg a0 a1 a3 a4
 by_cases ha : 1 ≤ a ∧ a ≤ 1125899906842624
 · rw [if_neg (by simpa using ha)]
   have HA := hyd ha
   have hy := fun wx => uwithin64_yes a 1 1125899906842624 wx ha
   have HY := hyd hy
   by_cases hc : S.cr < a
   · rw [if_pos hc]
     clear ha hy hK
     have hdc : decide (a > S.cr) = true := by simpa using hc
     go_enter Tryz.func58, Tryz.ntmps58
     go_wp2_with fail
     refine (HY.out _).mono ?_; rintro e w1 ⟨rfl, rfl⟩
     go_wp2_with fail
     refine mv_ret Mv.zero 2 w.heap.size rfl rfl rfl (blk_new _ _ rfl) (does_err bly HV.out (by decide))
   · rw [if_neg hc]
     have hcc : a ≤ S.cr := by omega
     have hdc : decide (a > S.cr) = false := by simpa using hcc
     have hb0 : Below w.heap.size w (w.alloc (.cells #[.int .i64 0, .int .i64 0, .int .i64 0, .int .i64 0, .int .i64 0, .int .i64 0] 33)) := (Below.refl _ _).alloc (Nat.le_refl _) _
     have HD := hyd (does1_any K c1 g B S r (w.alloc (.cells #[.int .i64 0, .int .i64 0, .int .i64 0, .int .i64 0, .int .i64 0, .int .i64 0] 33)) (HV.out.below hb0) hS hcf (fun gb wx h1 h2 h3 => hK ha hcc gb _ wx (by have := hb0.size; omega) (hb0.trans (h1.mono hb0.size)) h2 h3))
     have HB0 := hyd hb0
     clear ha hy hK hc hb0 hcf hS
     go_enter Tryz.func58, Tryz.ntmps58
     go_wp2_with fail
     refine (HY.out _).mono ?_; rintro e w1 ⟨rfl, rfl⟩
     go_wp2_with fail
     refine HD.out.mono ?_; intro e w1 hd
     obtain ⟨m, er, rfl⟩ := hd.form
     have hm := move_keeps hd (blk_new w (.cells #[.int .i64 0, .int .i64 0, .int .i64 0, .int .i64 0, .int .i64 0, .int .i64 0] 33) rfl) n2
     obtain ⟨m0, m1, m2, m3, m4, m5, m6⟩ := cells6U hm
     have HE := hyd (DoesOf.wrap HB0.out hd hm (Nat.le_refl _)); have HM := hyd (put6_at hm m)
     clear hd hm
     go_wp2_with fail
     exact mv_ret m er w.heap.size rfl rfl rfl HM.out HE.out
 · rw [if_pos ha]
   have hy := fun wx => uwithin64_no a 1 1125899906842624 wx ha
   have HY := hyd hy
   clear ha hK
   go_enter Tryz.func58, Tryz.ntmps58
   go_wp2_with fail
   refine (HY.out _).mono ?_; rintro e w1 ⟨rfl, rfl⟩
   go_wp2_with fail
   refine mv_ret Mv.zero 1 w.heap.size rfl rfl rfl (blk_new _ _ rfl) (does_err bly HV.out (by decide))
theorem refund_any (g B : Nat) (S : Ac) (a : Int) (w : World) (h : OwnAt w B g S) (hS : S.small) (hc : S.cr ≤ 4611686018427387904) :
  Calls Tryz.prog 24 #[.pointer (some ⟨g, 0, none⟩), .int .i64 a] w (DoesOf w g S (refundS S a)) := by
 have hgl := h.lt
 have hb0 : Below w.heap.size w ((w.alloc (.cells #[.int .i64 a] 2)).alloc (.cells #[.int .i64 0, .int .i64 0, .int .i64 0, .int .i64 0, .int .i64 0, .int .i64 0] 33)) := ((Below.refl _ _).alloc (Nat.le_refl _) _).alloc (by simp) _
 have hbx : ((w.alloc (.cells #[.int .i64 a] 2)).alloc (.cells #[.int .i64 0, .int .i64 0, .int .i64 0, .int .i64 0, .int .i64 0, .int .i64 0] 33)).cell? ⟨w.heap.size, 0, none⟩ = some (.int .i64 a) := (blk_cell (blk_alloc (blk_new w (.cells #[.int .i64 a] 2) rfl) _) 0).trans rfl
 have hz0 : ((w.alloc (.cells #[.int .i64 a] 2)).alloc (.cells #[.int .i64 0, .int .i64 0, .int .i64 0, .int .i64 0, .int .i64 0, .int .i64 0] 33)).heap.size = w.heap.size + 2 := by simp
 have HD := hyd (spends_any 59 (.pointer (some ⟨w.heap.size, 0, none⟩)) g B S a ({ S with cr := S.cr - a }, ⟨0, 0, 0, 0, -a, -a⟩, 0) _ (h.below hb0) hS (fun u wx => by kernel_rfl)
  (fun h1 h2 gb B' wx hB hb hBx ho => by
    have hx := box_cell hbx (by rw [hz0]; omega) hb
    obtain ⟨_, _, _, hov⟩ := ho
    have := hov.hB
    exact refund1_any gb B' w.heap.size S a wx ⟨_, _, _, hov⟩ hBx hx (by omega) (by omega) (by omega) h1))
 have HB0 := hyd hb0
 have hm0 := blk_new (w.alloc (.cells #[.int .i64 a] 2)) (.cells #[.int .i64 0, .int .i64 0, .int .i64 0, .int .i64 0, .int .i64 0, .int .i64 0] 33) rfl
 have HM0 := hyd hm0
 have n1 : w.heap.size + 1 ≠ g := by omega
 have hmf : ∀ (fn : Fn) (first cap : Array Value) (w : World), (Instr.makeFunc fn first cap).run Tryz.prog w = .ok (.func fn first cap) w := fun _ _ _ _ => rfl
 clear h hb0 hbx hm0
 go_enter Tryz.func24, Tryz.ntmps24
 go_wp2_with fail
 refine HD.out.mono ?_; intro e w1 hd
 obtain ⟨m, er, rfl⟩ := hd.form
 have hm := move_keeps hd HM0.out (by simp; omega)
 simp only [World.size_alloc] at hm
 obtain ⟨m0, m1, m2, m3, m4, m5, m6⟩ := cells6U hm
 have HE := hyd (DoesOf.wrap HB0.out hd hm (by omega)); have HM := hyd (put6_at hm m)
 clear hd hm HD
 go_wp2_with fail
 exact mv_ret m er (w.heap.size + 1) rfl rfl rfl HM.out HE.out
theorem PerR.kind {w : World} {b off : Nat} {bp : Int} {p : Per} (h : PerR w b off bp p) {kk : Nat} (hk : kk < 3) : w.cell? ⟨b, off + 5 + kk, none⟩ = some (.int .i64 (p.opn kk)) := by
 have := h.c (5 + kk) (by omega)
 rw [← Nat.add_assoc] at this
 refine this.trans ?_
 rcases (show kk = 0 ∨ kk = 1 ∨ kk = 2 by omega) with rfl | rfl | rfl <;> rfl
def LowP (ps : List Per) : Prop := ∀ p ∈ ps, p.o0 ≤ 4611686018427387904 ∧ p.o1 ≤ 4611686018427387904 ∧ p.o2 ≤ 4611686018427387904
theorem rfits_any (g B : Nat) (S : Ac) (w : World) (h : RefAt w B g S) (hN : S.ps.length ≤ 1000) (hall : LowP S.ps) :
  Calls Tryz.prog 162 #[.pointer (some ⟨g, 0, none⟩)] w fun e w' => e = .returned (.bool (decide (S.cr ≤ 4611686018427387904))) ∧ w = w' := by
 obtain ⟨vp, vq, qs, h⟩ := h
 obtain ⟨A, c, rfl, hc, _⟩ := h.rdp
 obtain ⟨a0, a1, a2, a3, a4, a5⟩ := cells5U h.hg
 have hgl := blk_lt h.hg
 have HPE := hyd (fun i (hi : i < S.ps.length) => h.per hi)
 have HALL := hyd hall
 obtain ⟨np, hnp⟩ : ∃ np, S.ps.length = np := ⟨_, rfl⟩
 have HNP := hyd hnp
 have a3' : w.cell? ⟨g, 3, none⟩ = some (.slice A np c) := by rw [← hnp]; exact a3
 have hN' : np ≤ 1000 := by omega
 clear h hc a3 hN hnp hall
 go_enter Tryz.func162, Tryz.ntmps162
 go_wp2_with fail
 go_loopg [3] np (fun gh v3 wr => ∃ k : Nat, gh = np - k ∧ k ≤ np ∧ v3 = .int .i64 k ∧ w = wr)
 case atStart => exact ⟨0, rfl, by omega, rfl, rfl⟩
 case round =>
  obtain ⟨k, hgk, hk, rfl, rfl⟩ := hrel
  have HGK := hyd hgk
  by_cases hlt : k < np
  · have hkl : k < S.ps.length := by have := HNP.out; omega
    obtain ⟨gp, cap, e1, _, _, hpr⟩ := HPE.out k hkl
    injection e1 with e1 _ _; subst e1
    have HPK := hyd (fun (kk : Nat) (hk : kk < 3) => hpr.kind hk)
    have hgpl := hpr.lt
    have hle := HALL.out S.ps[k] (List.getElem_mem hkl)
    have HLE : Hid (∀ kk : Nat, kk < 3 → S.ps[k].opn kk ≤ 4611686018427387904) := hyd (fun kk hk => by
     rcases (show kk = 0 ∨ kk = 1 ∨ kk = 2 by omega) with rfl | rfl | rfl
     · exact hle.1
     · exact hle.2.1
     · exact hle.2.2)
    generalize S.ps[k] = p at *
    have i1 : (0 : Int) ≤ (k : Int) := by omega
    have i2 : (k : Int) < (np : Int) := by omega
    clear hgk hpr hkl hle
    go_wp2_with fail
    go_loopg [4] 3 (fun gh v4 wx => ∃ j : Nat, gh = 3 - j ∧ j ≤ 3 ∧ v4 = .int .i64 j ∧ w = wx)
    case atStart => exact ⟨0, rfl, by omega, rfl, rfl⟩
    case round =>
     obtain ⟨j, hgj, hj, rfl, rfl⟩ := hrel
     have HGJ := hyd hgj
     by_cases hlj : j < 3
     · have cj := HPK.out j hlj
       have hd : decide (p.opn j > 4611686018427387904) = false := by have := HLE.out j hlj; simpa using this
       generalize p.opn j = x at *
       have j1 : (0 : Int) ≤ (j : Int) := by omega
       have j2 : (j : Int) < 3 := by omega
       clear hgj
       go_wp2_with fail
       go_roundg (3 - (j + 1))
       case measure => have := HGJ.out; omega
       case rel => exact ⟨j + 1, rfl, by omega, by go_num, rfl⟩
     · have hj3 : j = 3 := by omega
       subst hj3
       clear hgj
       go_wp2_with fail
       go_roundg (np - (k + 1))
       case measure => have := HGK.out; omega
       case rel => exact ⟨k + 1, rfl, by omega, by go_num, rfl⟩
  · clear hgk
    go_wp2_with fail
    go_ret
    exact ⟨rfl, rfl⟩
def RDoesOf (w : World) (g : Nat) (S : Ac) (r : Ac × Mv × Int) (e : Ending) (w' : World) : Prop := w.grownBy w' (some g) ∧
 ((r.2.2 = 0 ∧ e = .returned (mvR r.2.1 0) ∧ RefAt w' 0 g r.1) ∨ (r.2.2 ≠ 0 ∧ e = .returned (mvR Mv.zero r.2.2) ∧ RefAt w' 0 g S))
def takeS (S S' : Ac) (m : Mv) (er : Int) : Ac × Mv × Int := if er ≠ 0 then (S, Mv.zero, er) else if S'.cr ≤ 4611686018427387904 then (S', m, 0) else (S, Mv.zero, 2)
@[reducible] def mvA (m : Mv) : Obj := .cells #[.int .i64 m.c0, .int .i64 m.c1, .int .i64 m.c2, .int .i64 m.paid, .int .i64 m.cr, .int .i64 m.cash] 33
theorem rdoes_err {w w' : World} {g B : Nat} {S S' : Ac} {m : Mv} {er : Int} (hb : Below w.heap.size w w') (h : RefAt w B g S) (he : er ≠ 0) : RDoesOf w g S (S', m, er) (.returned (mvR Mv.zero er)) w' :=
 ⟨⟨hb.os, hb.tape, hb.output, hb.size, fun k hk _ => hb.block k hk⟩, .inr ⟨he, rfl, (h.below hb).mono (Nat.zero_le _)⟩⟩
theorem RefV.put {w w' : World} {B g : Nat} {S : Ac} {vp vq : Value} {qs : List PmE} {us : List (Nat × Value)} (h : RefV w B g S vp vq qs) (hp : Puts w g us w') :
  w'.heap[g]? = some (.cells (us.foldl (fun a u => a.setIfInBounds u.1 u.2) #[.int .i64 S.day, .int .i64 S.bp, .int .i64 S.cr, vp, vq]) 123 (0, 0)) ∧ w'.ownsRow B 169 13 vp S.ps.length (perRCs S.bp S.ps) ∧ w'.ownsRow B 110 6 vq S.ms.length (pmCs qs) ∧ ∀ q ∈ qs, PartsAt w' q.v q.p.parts := by
 refine ⟨hp.near _ _ _ h.hg, own_apart h.hp hp (fun e => ?_), own_apart h.hq hp (fun e => ?_), fun q hq => (h.parts q hq).puts3 hp h.hg (by decide)⟩
 · obtain ⟨_, cs, hcs⟩ := own_block_type h.hp e; exact ne_of_type' h.hg hcs (by decide) rfl
 · obtain ⟨_, cs, hcs⟩ := own_block_type h.hq e; exact ne_of_type' h.hg hcs (by decide) rfl
theorem RefV.setCr {w w' : World} {B g : Nat} {S : Ac} {vp vq : Value} {qs : List PmE} {cr : Int} (h : RefV w B g S vp vq qs) (hp : Puts w g [(2, .int .i64 cr)] w') : RefV w' B g { S with cr := cr } vp vq qs := by
 obtain ⟨h1, h2, h3, h4⟩ := h.put hp
 exact ⟨h1, h.hB, h2, h3, h.hm, h4⟩
theorem RefV.setDay {w w' : World} {B g : Nat} {S : Ac} {vp vq : Value} {qs : List PmE} {d : Int} (h : RefV w B g S vp vq qs) (hp : Puts w g [(0, .int .i64 d)] w') : RefV w' B g { S with day := d } vp vq qs := by
 obtain ⟨h1, h2, h3, h4⟩ := h.put hp
 exact ⟨h1, h.hB, h2, h3, h.hm, h4⟩
theorem RefV.far {w w' : World} {B g gm : Nat} {S : Ac} {vp vq : Value} {qs : List PmE} {us : List (Nat × Value)} {cs : Array Value} {t : Nat} {fr : Nat × Nat} (h : RefV w B g S vp vq qs) (hp : Puts w gm us w') (hm : w.heap[gm]? = some (.cells cs t fr))
  (h1 : t ≠ 123) (h2 : t ≠ 169) (h3 : t ≠ 110) (h4 : t ≠ 58) : RefV w' B g S vp vq qs := by
 refine ⟨(hp.far g (blk_lt h.hg) (ne_of_type' h.hg hm (Ne.symm h1))).trans h.hg, h.hB, own_apart h.hp hp (fun e => ?_), own_apart h.hq hp (fun e => ?_), h.hm, fun q hq => (h.parts q hq).puts3 hp hm h4⟩
 · obtain ⟨_, cs, hcs⟩ := own_block_type h.hp e; exact ne_of_type' hm hcs h2 rfl
 · obtain ⟨_, cs, hcs⟩ := own_block_type h.hq e; exact ne_of_type' hm hcs h3 rfl
theorem RefAt.moved {w : World} {B g gm : Nat} {S : Ac} {x0 x1 x2 x3 x4 x5 : Value} (h : RefAt w B g S) (hm : w.heap[gm]? = some (.cells #[x0, x1, x2, x3, x4, x5] 33 (0, 0))) (m : Mv) : RefAt (put6 w gm m) B g S := by
 obtain ⟨vp, vq, qs, h⟩ := h
 have e := puts6 w gm m
 generalize put6 w gm m = W at *
 exact ⟨vp, vq, qs, h.far e hm (by decide) (by decide) (by decide) (by decide)⟩
theorem RefV.take {w w' : World} {B C g gb : Nat} {S S' : Ac} {vp vq vp' vq' : Value} {qs qs' : List PmE} (h : RefV w B g S vp vq qs) (hb : RefV w C gb S' vp' vq' qs') (hbp : S'.bp = S.bp) (hp : Puts w g [(0, .int .i64 S'.day), (2, .int .i64 S'.cr), (3, vp'), (4, vq')] w') : RefV w' 0 g S' vp' vq' qs' := by
 refine ⟨?_, Nat.zero_le _, own_mono (own_apart hb.hp hp (fun e => ?_)) (Nat.zero_le _), own_mono (own_apart hb.hq hp (fun e => ?_)) (Nat.zero_le _), hb.hm, fun q hq => (hb.parts q hq).puts3 hp h.hg (by decide)⟩
 · rw [hbp]; exact hp.near _ _ _ h.hg
 · obtain ⟨_, cs, hcs⟩ := own_block_type hb.hp e; exact ne_of_type' h.hg hcs (by decide) rfl
 · obtain ⟨_, cs, hcs⟩ := own_block_type hb.hq e; exact ne_of_type' h.hg hcs (by decide) rfl
@[reducible] def put4a (w : World) (g : Nat) (v0 v2 v3 v4 : Value) : World := (((w.setCell ⟨g, 0, none⟩ v0).setCell ⟨g, 2, none⟩ v2).setCell ⟨g, 3, none⟩ v3).setCell ⟨g, 4, none⟩ v4
theorem puts4a (w : World) (g : Nat) (v0 v2 v3 v4 : Value) : Puts w g [(0, v0), (2, v2), (3, v3), (4, v4)] (put4a w g v0 v2 v3 v4) :=
 ((((Puts.start (Below.refl _ _)).set 0 _).set 2 _).set 3 _).set 4 _
@[reducible] def mvZ0 : Obj := .cells #[.int .i64 0, .int .i64 0, .int .i64 0, .int .i64 0, .int .i64 0, .int .i64 0] 33
theorem take_end {w X W : World} {g gm : Nat} {S' : Ac} {m : Mv} {us : List (Nat × Value)} (hb : Below w.heap.size w X) (hp : Puts X g us W) (hm : W.heap[gm]? = some mvZ0) (hr : RefAt W 0 g S') (hgm : w.heap.size ≤ gm) (S : Ac) :
  RDoesOf w g S (S', m, 0) (.returned (mvR m 0)) (put6 W gm m) := by
 have P := puts6 W gm m
 have hfar : ∀ k, k ≠ gm → (put6 W gm m).heap[k]? = W.heap[k]? := fun k hk => put6_far W gm m hk
 have hmv : RefAt (put6 W gm m) 0 g S' := hr.moved hm m
 generalize put6 W gm m = Z at *
 refine ⟨⟨P.os.trans (hp.os.trans hb.os), P.tape.trans (hp.tape.trans hb.tape), P.output.trans (hp.output.trans hb.output), Nat.le_trans hb.size (Nat.le_trans hp.size P.size), fun k hk hne => ?_⟩, .inl ⟨rfl, rfl, hmv⟩⟩
 rw [hfar k (by omega)]
 exact (hp.far k (Nat.lt_of_lt_of_le hk hb.size) (fun e => hne (by rw [e]))).trans (hb.block k hk)
theorem take_bad {w X : World} {g gm : Nat} {S S' : Ac} {m : Mv} {er : Int} (h : RefAt w 0 g S) (hb : Below w.heap.size w X) (hgm : w.heap.size ≤ gm) (he : er ≠ 0) : RDoesOf w g S (S', m, er) (.returned (mvR Mv.zero er)) (put6 X gm Mv.zero) := by
 have hb2 : Below w.heap.size w (put6 X gm Mv.zero) := (((((hb.setCell hgm _).setCell hgm _).setCell hgm _).setCell hgm _).setCell hgm _).setCell hgm _
 generalize put6 X gm Mv.zero = Z at *
 exact rdoes_err hb2 h he
theorem rtake_any (g gb : Nat) (S S' : Ac) (m : Mv) (er : Int) (w : World) (h : RefAt w 0 g S) (hb : er = 0 → RefAt w 0 gb S' ∧ S'.bp = S.bp ∧ S'.ps.length ≤ 1000 ∧ LowP S'.ps) (hne : g ≠ gb) :
  Calls Tryz.prog 123 #[.pointer (some ⟨g, 0, none⟩), .pointer (some ⟨gb, 0, none⟩), mvV m, .int .i64 er] w (RDoesOf w g S (takeS S S' m er)) := by
 have HV := hyd h
 have hgl : g < w.heap.size := by obtain ⟨_, _, _, h⟩ := h; exact blk_lt h.hg
 have hb0 : Below w.heap.size w ((w.alloc (mvA m)).alloc mvZ0) := ((Below.refl _ _).alloc (Nat.le_refl _) _).alloc (by simp) _
 have HB0 := hyd hb0
 have hm0 : ((w.alloc (mvA m)).alloc mvZ0).heap[w.heap.size + 1]? = some mvZ0 := by
  have := blk_new (w.alloc (mvA m)) mvZ0 rfl
  rwa [World.size_alloc] at this
 have hm1 := blk_alloc (blk_new w (mvA m) rfl) mvZ0
 have HM0 := hyd hm0; have HM1 := hyd hm1
 obtain ⟨m0, m1, m2, m3, m4, m5⟩ := m
 by_cases h0 : er = 0
 · subst h0
   obtain ⟨hv', hbp, hN, hlow⟩ := hb rfl
   have HFT := hyd (rfits_any gb 0 S' _ (hv'.below hb0) hN hlow)
   have HV' := hyd (hv'.below hb0); have HVX := hyd (h.below hb0)
   have HBP := hyd hbp
   have hgbl : gb < w.heap.size := by obtain ⟨_, _, _, h⟩ := hv'; exact blk_lt h.hg
   clear h hb hb0 hm0 hm1 hv' hbp hlow
   unfold takeS
   rw [if_neg (by simp)]
   by_cases hc : S'.cr ≤ 4611686018427387904
   · rw [if_pos hc]
     rw [decide_eq_true hc] at HFT
     clear hc
     go_enter Tryz.func123, Tryz.ntmps123
     go_upto_region 1 with fail
     generalize (w.alloc (mvA ⟨m0, m1, m2, m3, m4, m5⟩)).alloc mvZ0 = X at *
     obtain ⟨vp, vq, qs, hx⟩ := HVX.out
     obtain ⟨vp', vq', qs', hy⟩ := HV'.out
     obtain ⟨Ap', cp', rfl, _⟩ := own_form hy.hp
     obtain ⟨Aq', cq', rfl, _⟩ := own_form hy.hq
     obtain ⟨Ap, cp, rfl, _⟩ := own_form hx.hp
     obtain ⟨Aq, cq, rfl, _⟩ := own_form hx.hq
     obtain ⟨b0, b1, b2, b3, b4, b5⟩ := cells5U hy.hg
     obtain ⟨a0, a1, a2, a3, a4, a5⟩ := cells5U hx.hg
     obtain ⟨y0, y1, y2, y3, y4, y5, y6⟩ := cells6U HM1.out
     obtain ⟨z0, z1, z2, z3, z4, z5, z6⟩ := cells6U HM0.out
     have hgx := blk_lt hx.hg; have hgbx := blk_lt hy.hg; have hmx := blk_lt HM0.out
     have hp := puts4a X g (.int .i64 S'.day) (.int .i64 S'.cr) (.slice Ap' S'.ps.length cp') (.slice Aq' S'.ms.length cq')
     have hr := hx.take hy HBP.out hp
     have hmm := (hp.far (w.heap.size + 1) hmx (by omega)).trans HM0.out
     have HE := hyd (take_end (m := ⟨m0, m1, m2, m3, m4, m5⟩) HB0.out hp hmm ⟨_, _, _, hr⟩ (by omega) S)
     have HM := hyd (put6_at hmm ⟨m0, m1, m2, m3, m4, m5⟩)
     have n1 : g ≠ w.heap.size := by omega
     have n2 : g ≠ w.heap.size + 1 := by omega
     have n3 : gb ≠ w.heap.size := by omega
     have n4 : gb ≠ w.heap.size + 1 := by omega
     have n5 : gb ≠ g := Ne.symm hne
     clear hx hy hp hr hmm HVX HV' HM0 HM1
     go_wp2_with fail
     refine HFT.out.mono ?_; rintro e w1 ⟨rfl, rfl⟩
     go_wp2_with fail
     exact mv_ret ⟨m0, m1, m2, m3, m4, m5⟩ 0 (w.heap.size + 1) rfl rfl rfl HM.out HE.out
   · rw [if_neg hc]
     rw [decide_eq_false hc] at HFT
     clear HVX HV' hc HM1
     go_enter Tryz.func123, Tryz.ntmps123
     go_upto_region 1 with fail
     generalize (w.alloc (mvA ⟨m0, m1, m2, m3, m4, m5⟩)).alloc mvZ0 = X at *
     obtain ⟨z0, z1, z2, z3, z4, z5, z6⟩ := cells6U HM0.out
     have hmx := blk_lt HM0.out
     have HE := hyd (take_bad (S' := S) (m := Mv.zero) (er := 2) (gm := w.heap.size + 1) HV.out HB0.out (by omega) (by decide))
     have HM := hyd (put6_at HM0.out Mv.zero)
     go_wp2_with fail
     refine HFT.out.mono ?_; rintro e w1 ⟨rfl, rfl⟩
     go_wp2_with fail
     exact mv_ret Mv.zero 2 (w.heap.size + 1) rfl rfl rfl HM.out HE.out
 · have hne0 : (er != 0) = true := by simpa using h0
   have HER := hyd h0
   unfold takeS
   rw [if_pos h0]
   clear h hb hb0 hm0 hm1 h0 HM1
   go_enter Tryz.func123, Tryz.ntmps123
   go_upto_region 1 with fail
   generalize (w.alloc (mvA ⟨m0, m1, m2, m3, m4, m5⟩)).alloc mvZ0 = X at *
   obtain ⟨z0, z1, z2, z3, z4, z5, z6⟩ := cells6U HM0.out
   have hmx := blk_lt HM0.out
   have HE := hyd (take_bad (S' := S) (m := Mv.zero) (gm := w.heap.size + 1) HV.out HB0.out (by omega) HER.out)
   have HM := hyd (put6_at HM0.out Mv.zero)
   go_wp2_with fail
   exact mv_ret Mv.zero er (w.heap.size + 1) rfl rfl rfl HM.out HE.out
theorem PerAt.drew {w : World} {b off : Nat} {p : Per} (h : PerAt w b off p) : PerAt w.drew b off p := ⟨fun j hj => h.c j hj, fun j hj => h.f j hj⟩
theorem PerAt.kind {w : World} {b off : Nat} {p : Per} (h : PerAt w b off p) {kk : Nat} (hk : kk < 3) : w.cell? ⟨b, off + 5 + kk, none⟩ = some (.int .i64 (p.opn kk)) := by
 have := h.c (5 + kk) (by omega)
 rw [← Nat.add_assoc] at this
 refine this.trans ?_
 rcases (show kk = 0 ∨ kk = 1 ∨ kk = 2 by omega) with rfl | rfl | rfl <;> rfl
theorem give_any (g B : Nat) (S : Ac) (vp vq : Value) (qs : List PmE) (A : Option Addr) (n c : Nat) (parts : List Dq) (times : Int) (w : World) (h : OwnV w B g S vp vq qs) (hpt : PartsAt w (.slice A n c) parts) (hB : B ≤ w.heap.size)
  (hN : S.ps.length ≤ 1000) (hn : n ≤ 1000000) (h1 : 0 ≤ S.day ∧ S.day ≤ 3652058) (hgood : ∀ k ps (hk : k < parts.length), giveS S.day times S.ps (parts.take k) = some ps → GoodAt S.day S.bp times ps parts[k]) :
  Calls Tryz.prog 64 #[.pointer (some ⟨g, 0, none⟩), .slice A n c, .int .i64 times] w (GiveOf w B g S vp vq (.slice A n c) qs parts (giveS S.day times S.ps parts)) := by
 have hnl := hpt.rd.1
 have H0 : Hid (GiveInv w w B g S vp vq (.slice A n c) qs parts times 0 S.ps) := hyd ⟨rfl, h, hpt, rfl, Turn.refl _ _ _⟩
 have HGD := hyd hgood; have HNL := hyd hnl
 have hgB := h.hB
 clear h hpt hgood hnl
 go_enter Tryz.func64, Tryz.ntmps64
 go_wp2_with fail
 go_loopg [11] n (fun gh v11 wr => ∃ (k : Nat) (ps : List Per), gh = n - k ∧ k ≤ n ∧ v11 = .int .i64 k ∧ GiveInv w wr B g S vp vq (.slice A n c) qs parts times k ps)
 case atStart => exact ⟨0, S.ps, rfl, by omega, rfl, H0.out⟩
 case round =>
  obtain ⟨k, ps, hgk, hk, rfl, hinv⟩ := hrel
  have HG := hyd hgk; have HV := hyd hinv
  have hBr : B ≤ wr.heap.size := Nat.le_trans hB hinv.bel.size
  by_cases hlt : k < n
  · have hkp : k < parts.length := by have := HNL.out; omega
    have hgd := HGD.out k ps hkp hinv.eq
    obtain ⟨i, hi, he⟩ := hgd.i
    have hpl : ps.length ≤ 1000 := by rw [hinv.len]; exact hN
    obtain ⟨b, off, e1, hb, c0, c1, c2, c3⟩ := (hinv.pt.rd.2.2.2).it hkp
    subst e1
    have hof : off = 0 := by
     obtain ⟨A', c', e, _, _, h3⟩ := hinv.pt
     obtain ⟨b', cs, e1, _⟩ := h3 (by omega)
     injection e with e _ _; rw [e1] at e; injection e with e; injection e with _ e _
    subst hof
    simp only [Nat.zero_add] at c0 c1 c2 c3
    obtain ⟨gp, cap, evp, hgl, hgpB, hper⟩ := hinv.own.per (i := i) hi
    have hgg := hinv.own.hg
    have hggp : g ≠ gp := by
     intro e
     obtain ⟨_, cs, hcs⟩ := own_block_type hinv.own.hp (b := gp) (by rw [evp]; rfl)
     rw [← e] at hcs
     exact ne_of_type' hgg hcs (by decide) rfl
    have hsin := hgd.since _ (List.getElem_mem hi)
    have hint := hgd.int _ (List.getElem_mem hi)
    have hmul := hgd.mul
    have hkd := hgd.kind
    have hgr := blk_lt hgg
    have HF := hyd (fun wx (hbx : Below wr.heap.size wr wx) => find_any g B { S with ps := ps } vp vq qs (parts[k]).per wx (hinv.own.below hbx) hpl)
    have HII := hyd hi; have HEE := hyd he
    have HPR := hyd hper; have HGG := hyd hgg; have HVP := hyd evp
    have hbox := blk_new wr (.cells #[.int .i64 (parts[k]).due, .int .i64 (parts[k]).kind, .int .i64 (parts[k]).per, .int .i64 (parts[k]).opn] 58) rfl
    have HBX := hyd hbox
    have HBN := hyd ((Below.refl wr.heap.size wr).alloc (Nat.le_refl _) (.cells #[.int .i64 (parts[k]).due, .int .i64 (parts[k]).kind, .int .i64 (parts[k]).per, .int .i64 (parts[k]).opn] 58))
    have HINT := hyd hint; have HST := hyd (fun (w1 w2 : World) (nn : Int) (hv : GiveInv w wr B g S (.slice (some ⟨gp, 0, none⟩) ps.length cap) vq (.slice (some ⟨b, 0, none⟩) n c) qs parts times k ps) => GiveInv.step (w1 := w1) (w2 := w2) (n := nn) hv hkp hi he hkd)
    have HNN : Hid ((addS ((ps[i]).opn (parts[k]).kind) (times * (parts[k]).opn)).2 ≠ 0 → giveS S.day times S.ps parts = none) := hyd (fun h0 => (giveS_take S.day times parts S.ps k ps hkp hinv.eq).2 (by
     have hg : ps.getD i Per.zero = ps[i] := by rw [List.getD_eq_getElem?_getD, List.getElem?_eq_getElem hi]; rfl
     rw [give1, he, Int.toNat_natCast, hg, if_neg h0]))
    clear hgd hinv hper hgg hint hbox evp
    generalize parts[k] = x at *
    generalize ps[i] = p at *
    obtain ⟨xd, xk, xp, xo⟩ := x
    simp only at c0 c1 c2 c3 hmul hkd HF HBX HBN
    have j1 : (0 : Int) ≤ (k : Int) := by omega
    have j2 : (k : Int) < (n : Int) := by omega
    have hmw : IntKind.i64.wrap (times * xo) = times * xo := IntWalk.i64_in _ (by omega)
    clear hgk hi he hmul hgB hb
    obtain ⟨kk, rfl, hk3⟩ : ∃ kk : Nat, xk = (kk : Int) ∧ kk < 3 := ⟨xk.toNat, by omega, by omega⟩
    have k1 : (0 : Int) ≤ (kk : Int) := by omega
    have k2 : (kk : Int) < 3 := by omega
    obtain ⟨q, e0, ha⟩ : ∃ q e0, addS (p.opn kk) (times * xo) = (q, e0) := ⟨_, _, rfl⟩
    by_cases hz : e0 = 0
    · subst hz
      have HA := hyd (fun wx => uadd_yes (p.opn kk) (times * xo) wx (by rw [ha]))
      rw [ha] at HA
      have HAA := hyd ha
      clear ha
      go_wp2_with fail
      refine (HF.out _ HBN.out).mono ?_; rintro e w1 ⟨hb1, ⟨hm, rfl⟩ | ⟨gp', cap', i', ev', hi', he', rfl⟩⟩
      · exact absurd (hm.symm.trans HEE.out) (by omega)
      · have e2 := ev'.symm.trans HVP.out
        injection e2 with e2; injection e2 with e2; injection e2 with e2 _; subst e2
        have hii : i' = i := by have := he'.symm.trans HEE.out; omega
        subst hii
        have hb1w : Below wr.heap.size wr w1 := HBN.out.trans (hb1.mono (by simp))
        obtain ⟨y0, y1, y2, y3, -⟩ := cells4G (blk_below HBX.out hb1 (by simp))
        have hp1 := HPR.out.below hb1w
        have r5 := hp1.kind hk3
        have HB1 := hyd hb1w
        have HX1 := hyd (blk_below HBX.out hb1 (by simp))
        have z1 : wr.heap.size < w1.heap.size := by have := hb1.size; simp at this; omega
        have z2 : gp' < w1.heap.size := hp1.lt
        have HP1 := hyd hp1
        clear hb1 hb1w hp1 ev' hi' he'
        go_wp2_with fail
        go_region_law (first
         | (refine step_call2R rfl 43 (.tmp 29) (.tmp 33) 2 2 rfl (.int .i64 (p.opn kk)) (.int .i64 (times * xo)) rfl (by first | rfl | (show Value.int .i64 (IntKind.i64.wrap (times * xo)) = _; rw [hmw])) (add_enter _ _) ?_
            refine (HA.out _).mono ?_; rintro e w2 ⟨rfl, hw2⟩; refine ⟨_, rfl, ?_⟩
            have hb2 : Below wr.heap.size wr w2 := HB1.out.drew.trans (hw2.mono HB1.out.size)
            obtain ⟨yy0, yy1, yy2, yy3, -⟩ := cells4G (blk_below (w := w1.drew) HX1.out hw2 z1)
            have zz1 : wr.heap.size < w2.heap.size := Nat.lt_of_lt_of_le z1 hw2.size
            have HB2 := hyd hb2
            clear hw2 hb2)
         | (refine step_call4R rfl 116 (.tmp 19) (.tmp 20) (.tmp 22) (.tmp 34) 27 88 3 2 rfl (.pointer (some ⟨g, 0, none⟩)) (.pointer (some ⟨gp', i' * 11, none⟩)) (.int .i64 (kk : Int)) (.int .i64 q) rfl rfl rfl rfl (set_enter _ _ _ _) ?_
            refine (set_any g gp' (i' * 11) S.day S.bp kk q (.int .i64 S.cr) vp vq 83 p w2 (blk_below HGG.out HB2.out hgr) (HPR.out.below HB2.out) hggp h1 hsin (by omega) (fun _ hd => HINT.out hd)).mono ?_
            rintro e w3 ⟨⟨u, rfl⟩, hp3⟩; refine ⟨_, rfl, ?_⟩
            have HFIN : Hid (GiveInv w w3 B g S vp vq (.slice (some ⟨b, 0, none⟩) n c) qs parts times (k + 1) (ps.set i' (Per.setO S.day p kk q))) := hyd (by
             have hv := HV.out
             rw [HVP.out] at hv ⊢
             exact HST.out _ _ _ hv HAA.out HB2.out hp3 hBr hgpB)
            clear hp3))
        all_goals go_wp2_with fail
        all_goals go_roundg (n - (k + 1))
        case measure => have := HG.out; omega
        case rel => exact ⟨k + 1, _, rfl, by omega, by go_num, HFIN.out⟩
        all_goals first
         | exact ⟨k + 1, _, rfl, by omega, by go_num, HFIN.out⟩
         | (have := HG.out; omega)
    · have HA := hyd (fun wx => uadd_no (p.opn kk) (times * xo) wx (by rw [ha]; exact hz))
      have HNO := hyd (HNN.out (by show (addS (p.opn kk) (times * xo)).2 ≠ 0; rw [ha]; exact hz))
      clear ha
      go_wp2_with fail
      refine (HF.out _ HBN.out).mono ?_; rintro e w1 ⟨hb1, ⟨hm, rfl⟩ | ⟨gp', cap', i', ev', hi', he', rfl⟩⟩
      · exact absurd (hm.symm.trans HEE.out) (by omega)
      · have e2 := ev'.symm.trans HVP.out
        injection e2 with e2; injection e2 with e2; injection e2 with e2 _; subst e2
        have hii : i' = i := by have := he'.symm.trans HEE.out; omega
        subst hii
        have hb1w : Below wr.heap.size wr w1 := HBN.out.trans (hb1.mono (by simp))
        obtain ⟨y0, y1, y2, y3, -⟩ := cells4G (blk_below HBX.out hb1 (by simp))
        have hp1 := HPR.out.below hb1w
        have r5 := hp1.kind hk3
        have HB1 := hyd hb1w
        have HX1 := hyd (blk_below HBX.out hb1 (by simp))
        have z1 : wr.heap.size < w1.heap.size := by have := hb1.size; simp at this; omega
        have z2 : gp' < w1.heap.size := hp1.lt
        have HP1 := hyd hp1
        clear hb1 hb1w hp1 ev' hi' he'
        go_wp2_with fail
        have HBB := hyd (fun (w2 : World) (h : Below w1.drew.heap.size w1.drew w2) => (HV.out.bel.below (HB1.out.drew.trans (h.mono HB1.out.size)) hBr : Turn w B vp w2))
        go_region_law (refine step_call2P rfl 43 (.tmp 29) (.tmp 33) 2 2 rfl (.int .i64 (p.opn kk)) (.int .i64 (times * xo)) rfl (by first | rfl | (show Value.int .i64 (IntKind.i64.wrap (times * xo)) = _; rw [hmw])) (add_enter _ _) ((HA.out _).mono ?_) ?_
                       · rintro e w2 ⟨rfl, hw2⟩; exact ⟨_, rfl, rfl, HBB.out w2 hw2, by rw [HNO.out]⟩)
        all_goals trivial
  · have hkn : k = n := by omega
    subst hkn
    have heq := hinv.eq
    rw [List.take_of_length_le (by have := HNL.out; omega)] at heq
    have HEQ := hyd heq
    clear hinv hgk heq
    go_wp2_with fail
    all_goals go_end0
    all_goals exact ⟨HV.out.bel, by rw [HEQ.out]; exact ⟨⟨_, rfl⟩, HV.out.own, HV.out.pt, HV.out.len⟩⟩
theorem giveS_fits {day bp times : Int} (hd : 0 ≤ day ∧ day ≤ 3652058) (hb : 0 ≤ bp ∧ bp ≤ 100000) : ∀ (l l2 : List Dq) {ps ps' : List Per}, RiseP ps → (∀ p ∈ ps, PerOk day bp p) → (∀ x ∈ l ++ l2, Placed ps x) → (∀ y ∈ l ++ l2, 0 ≤ y.opn) → Fits ps times (l ++ l2) →
  giveS day times ps l = some ps' → Fits ps' times l2
 | [], l2, ps, ps', hr, hp, _, _, hf, hg => by
   simp only [giveS] at hg; injection hg with hg; subst hg; exact hf
 | x :: l, l2, ps, ps', hr, hp, hl, ho, hf, hg => by
   simp only [giveS] at hg
   cases h1 : give1 day times ps x with
   | none => rw [h1] at hg; cases hg
   | some ps1 =>
     rw [h1] at hg
     obtain ⟨q1, q2, q3⟩ := give1_ok hd hb hr hp (hl x (by simp)) ho hf h1
     have e2 := (give1_items hr (hl x (by simp)) h1).2.1
     exact giveS_fits hd hb l l2 q2 q1 (fun y hy => (hl y (List.mem_cons_of_mem _ hy)).ret e2) (fun y hy => ho y (List.mem_cons_of_mem _ hy)) q3 hg
structure GoodR (day bp times : Int) (ps : List Per) (x : Dq) : Prop where
 at_ : GoodAt day bp times ps x
 per : ∀ p ∈ ps, PerOk day bp p
 pos : ∀ i (hi : i < ps.length), placeP x.per ps = (i : Int) → 0 ≤ ps[i].opn x.kind + times * x.opn
 sml : times * x.opn ≤ 1125899906842624
theorem opens_mem : ∀ {l : List Dq}, (∀ y ∈ l, 0 ≤ y.opn) → ∀ {x : Dq}, x ∈ l → x.opn ≤ opens l
 | [], _, x, hx => by simp at hx
 | y :: l, h, x, hx => by
   rw [opens_cons]
   have h1 := opens_nn (l := l) fun z hz => h z (by simp [hz])
   rcases List.mem_cons.1 hx with rfl | hx
   · omega
   · have := opens_mem (fun z hz => h z (by simp [hz])) hx
     have := h y (by simp)
     omega
theorem good_r {day bp times : Int} {ps : List Per} {l : List Dq} (hd : 0 ≤ day ∧ day ≤ 3652058) (hb : 0 ≤ bp ∧ bp ≤ 100000) (hr : RiseP ps) (hp : ∀ p ∈ ps, PerOk day bp p) (hl : ∀ x ∈ l, Placed ps x) (ho : ∀ y ∈ l, 0 ≤ y.opn ∧ y.opn ≤ 4611686018427387904) (hf : Fits ps times l) (hsm : ∀ y ∈ l, times * y.opn ≤ 1125899906842624)
  (k : Nat) (ps' : List Per) (hk : k < l.length) (hg : giveS day times ps (l.take k) = some ps') : GoodR day bp times ps' l[k] := by
 obtain ⟨q1, q2, q3⟩ := giveS_ok hd hb (l.take k) hr hp (fun x hx => hl x (List.mem_of_mem_take hx)) (fun y hy => (ho y (List.mem_of_mem_take hy)).1) (hf.take (fun y hy => (ho y hy).1) k) hg
 have hx := (hl l[k] (List.getElem_mem hk)).ret q3
 have o := ho l[k] (List.getElem_mem hk)
 have e : l = l.take k ++ (l[k] :: l.drop (k + 1)) := by rw [← List.drop_eq_getElem_cons hk, List.take_append_drop]
 have hf' : Fits ps' times (l[k] :: l.drop (k + 1)) := giveS_fits hd hb (l.take k) (l[k] :: l.drop (k + 1)) hr hp (by rw [← e]; exact hl) (by rw [← e]; exact fun y hy => (ho y hy).1) (by rw [← e]; exact hf) hg
 refine ⟨good_at hd hb hr hp hl ho hf k ps' hk hg, q1, fun i hi hpl => ?_, hsm _ (List.getElem_mem hk)⟩
 obtain ⟨_, hper⟩ := place_is hpl
 have b := opn_bd (q1 _ (List.getElem_mem hi)) hx.2
 rcases hf' with rfl | ⟨rfl, hf'⟩
 · omega
 · have := hf' _ (items_at hi hx.2)
   have h2 := amtFor_nn (l := l.drop (k + 1)) (fun y hy => (ho y (List.mem_of_mem_drop hy)).1) l[k].per l[k].kind
   have h3 := amtFor_cons l[k] (l.drop (k + 1)) l[k].per l[k].kind
   rw [amtFor_one, if_pos ⟨rfl, rfl⟩] at h3
   simp only [hper] at this
   omega
theorem reverse_factsR {S : Ac} (h : Good S) {i : Nat} (hi : i < S.ms.length) : ∀ k ps (hk : k < S.ms[i].parts.length), giveS S.day 1 S.ps (S.ms[i].parts.take k) = some ps → GoodR S.day S.bp 1 ps S.ms[i].parts[k] := fun k ps hk hg =>
 good_r h.day h.bp h.rise h.per (fun x hx => ((h.pm _ (List.getElem_mem hi)).placed x hx).1) (fun x hx => by have := ((h.pm _ (List.getElem_mem hi)).placed x hx).2.2; omega) (.inl rfl) (fun y hy => by
  have hm := h.pm _ (List.getElem_mem hi)
  have := opens_mem (fun z hz => by have := (hm.placed z hz).2.2; omega) hy
  have := hm.sum; have := hm.rest; have := hm.amt; omega) k ps hk hg
theorem pay_factsR {S : Ac} (h : Good S) {a : Int} (ha : 0 ≤ a) : ∀ k ps' (hk : k < (partsOf (itemsOf S.ps) a).length), giveS S.day (-1) S.ps ((partsOf (itemsOf S.ps) a).take k) = some ps' → GoodR S.day S.bp (-1) ps' (partsOf (itemsOf S.ps) a)[k] := by
 have hpl := h.places
 have hok := (placesE_ok hpl).2.1
 have hl : ∀ x ∈ partsOf (itemsOf S.ps) a, Placed S.ps x ∧ 0 ≤ x.opn ∧ x.opn ≤ 4611686018427387904 := fun x hx => by
  obtain ⟨y, hy, e, h1, h2⟩ := parts_of hpl hx
  obtain ⟨p, hpp, f1, f2, f3, f4⟩ := items_opn hy
  obtain ⟨i, hi, rfl⟩ := List.mem_iff_getElem.1 hpp
  have hbd := okI_yes (List.all_eq_true.1 hok y hy)
  have e1 : x.per = y.per := by rw [e]
  have e2 : x.kind = y.kind := by rw [e]
  exact ⟨⟨⟨i, hi, by rw [e1, f1]; exact place_at h.rise hi⟩, by rw [e2]; exact f3⟩, by omega, by omega⟩
 have hf : Fits S.ps (-1) (partsOf (itemsOf S.ps) a) := .inr ⟨rfl, fun y hy => by rw [amtFor_parts h.rise hpl a hy]; exact (paid_bd hok hy).2⟩
 exact fun k ps' hk hg => good_r h.day h.bp h.rise h.per (fun x hx => (hl x hx).1) (fun x hx => (hl x hx).2) hf (fun y hy => by have := (hl y hy).2; omega) k ps' hk hg
end Go.Proofs.YtbjjgnaojoaoiaaGreat
