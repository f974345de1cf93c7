/- File: the step on the copy. -/
import Derived.Test.YtbjjgnaojoaoiaaGreatK25
import Derived.Test.YtbjjgnaojoaoiaaGreatK19
import Derived.Test.YtbjjgnaojoaoiaaGreatK27
namespace Go.Proofs.YtbjjgnaojoaoiaaGreat
open Go.RowKit Go
set_option linter.unusedVariables false
set_option linter.unusedSimpArgs false

def newPer (r : Ret) (b : Bl) : Per := ⟨r, b.pen, 0, b.prin, r.due, 0, 0⟩
def file1 (S : Ac) (r : Ret) (b : Bl) : Ac × Mv × Int :=
  if (settleS S.day S.bp (newPer r b)).1 ≠ 0 then (S, Mv.zero, (settleS S.day S.bp (newPer r b)).1) else
  if (addS S.cr b.exc).2 ≠ 0 then (S, Mv.zero, 2) else
  ({ S with ps := insP S.ps (aheadP r.per S.ps) (settleS S.day S.bp (newPer r b)).2.2, cr := (addS S.cr b.exc).1 }, ⟨b.pen, (settleS S.day S.bp (newPer r b)).2.1, b.prin, 0, b.exc, 0⟩, 0)
theorem own_map (A : Option Addr) (n c : Nat) : A.map (·.block) = (Value.slice A n c).ownBlock := by cases A <;> rfl
theorem own_ins_end {X Y : World} {B gb : Nat} {S : Ac} {A : Option Addr} {c : Nat} {vq v5 : Value} {qs : List PmE} {ps : List Per} (h : OwnV X B gb S (.slice A S.ps.length c) vq qs) (hg : X.grownBy Y (A.map (·.block)))
    (ho : Y.ownsRow B 92 11 v5 (S.ps.length + 1) (perCs ps)) (hl : ps.length = S.ps.length + 1) (hB : B ≤ X.heap.size) :
    OwnAt (Y.setCell ⟨gb, 3, none⟩ v5) B gb { S with ps := ps } ∧ Below B X (Y.setCell ⟨gb, 3, none⟩ v5) ∧ ∀ (k : Nat) (cs : Array Value) (t : TypeId) (fr : Nat × Nat), X.heap[k]? = some (.cells cs t fr) → t ≠ 92 → k ≠ gb → (Y.setCell ⟨gb, 3, none⟩ v5).heap[k]? = some (.cells cs t fr) := by
  rw [own_map A S.ps.length c] at hg
  have keep : ∀ {k : Nat} {cs : Array Value} {t : TypeId} {fr : Nat × Nat}, X.heap[k]? = some (.cells cs t fr) → t ≠ 92 → Y.heap[k]? = some (.cells cs t fr) := fun hk ht => own_far_type h.hp hg hk ht
  have hgY := keep h.hg (by decide)
  have p : Puts Y gb [(3, v5)] (Y.setCell ⟨gb, 3, none⟩ v5) := (Puts.start (Below.refl _ _)).set 3 v5
  have hbY : Below B X Y := (Below.refl B X).grown hg hB (fun k hk => (own_block_type h.hp hk).1)
  refine ⟨⟨v5, vq, qs, p.near _ _ _ hgY, h.hB, ?_, ?_, h.hm, fun q hq => ?_⟩, hbY.setCell h.hB _, fun k cs t fr hk ht hne => (p.far k (blk_lt (keep hk ht)) hne).trans (keep hk ht)⟩
  · show (Y.setCell ⟨gb, 3, none⟩ v5).ownsRow B 92 11 v5 ps.length (perCs ps)
    rw [hl]
    exact own_apart ho p (fun e => by obtain ⟨_, cs, hcs⟩ := own_block_type ho e; exact ne_of_type' hgY hcs (by decide) rfl)
  · have h1 : Y.ownsRow B 110 6 vq S.ms.length (pmCs qs) := own_keep h.hq (fun b cs hb => (keep hb (by decide)).trans hb.symm)
    exact own_apart h1 p (fun e => by obtain ⟨_, cs, hcs⟩ := own_block_type h1 e; exact ne_of_type' hgY hcs (by decide) rfl)
  · have h2 : PartsAt Y q.v q.p.parts := (h.parts q hq).keep (fun b cs hb => (keep hb (by decide)).trans hb.symm)
    exact h2.puts3 p hgY (by decide)
theorem cells11 {w : World} {b : Nat} {p : Per} (h : w.heap[b]? = some (.cells (perC p).toArray 92 (0, 0))) : PerAt w b 0 p :=
  ⟨fun j hj => by rw [Nat.zero_add]; exact (blk_cell h j).trans (by simp), fun j hj => by rw [Nat.zero_add]; exact blk_free h j⟩
theorem settle_enter (u v : Value) (w : World) : (callFunc 39 #[u, v]).run Tryz.prog w = .ok (.enter 39 #[u, v]) w := by kernel_rfl
theorem bs_enter (u v x : Value) (w : World) : (callFunc 40 #[u, v, x]).run Tryz.prog w = .ok (.enter 40 #[u, v, x]) w := by kernel_rfl
theorem ins_enter (u v x : Value) (w : World) : (callFunc 42 #[u, v, x]).run Tryz.prog w = .ok (.enter 42 #[u, v, x]) w := by kernel_rfl
theorem settle_put {w w' : World} {b : Nat} {p p' : Per} (h : w.heap[b]? = some (.cells (perC p).toArray 92 (0, 0))) (hp : Puts w b [(0 + 6, .int .i64 p'.o1), (0 + 10, .int .i64 p'.acc)] w') (he : p' = { p with o1 := p'.o1, acc := p'.acc }) : w'.heap[b]? = some (.cells (perC p').toArray 92 (0, 0)) := by
  have := hp.near _ _ _ h
  rw [he]
  exact this
theorem add_bd (a b : Int) : -4611686018427387904 ≤ (addS a b).1 ∧ (addS a b).1 ≤ 4611686018427387904 := by
  unfold addS
  split
  · unfold told
    split
    · rename_i h; simpa [amt] using h
    · simp
  · simp
theorem interest_bd (day bp : Int) (p : Per) : -4611686018427387904 ≤ (interestS day bp p).1 ∧ (interestS day bp p).1 ≤ 4611686018427387904 := by
  unfold interestS
  split
  · simp
  · split
    · exact add_bd _ _
    · simp
theorem settle_is (day bp : Int) (p : Per) : (settleS day bp p).2.2 = { p with o1 := (settleS day bp p).2.2.o1, acc := (settleS day bp p).2.2.acc } := by
  unfold settleS
  split
  · rfl
  · split <;> rfl
theorem insP_len (ps : List Per) (i : Nat) (p : Per) (h : i ≤ ps.length) : (insP ps i p).length = ps.length + 1 := by simp [insP]; omega
theorem aheadP_le (t : Int) (ps : List Per) : aheadP t ps ≤ ps.length := List.countP_le_length
@[reducible] def fileW (w : World) (r : Ret) (b : Bl) : World := ((w.alloc (.cells #[.int .i64 0, .int .i64 0, .int .i64 0, .int .i64 0, .int .i64 0, .int .i64 0] 33)).alloc (.cells #[.int .i64 r.per, .int .i64 r.due, .int .i64 r.filed, .int .i64 r.inc, .int .i64 r.wh, .int .i64 b.pen, .int .i64 0, .int .i64 b.prin, .int .i64 r.due, .int .i64 0, .int .i64 0] 92)).alloc (.cells #[.int .i64 b.pen, .int .i64 0, .int .i64 b.prin, .int .i64 0, .int .i64 b.exc, .int .i64 0] 33)
theorem fileW_facts (w : World) (r : Ret) (b : Bl) : Below w.heap.size w (fileW w r b) ∧ (fileW w r b).heap[w.heap.size]? = some (.cells #[.int .i64 0, .int .i64 0, .int .i64 0, .int .i64 0, .int .i64 0, .int .i64 0] 33 (0, 0)) ∧
    (fileW w r b).heap[w.heap.size + 1]? = some (.cells (perC (newPer r b)).toArray 92 (0, 0)) ∧ (fileW w r b).heap[w.heap.size + 1 + 1]? = some (.cells #[.int .i64 b.pen, .int .i64 0, .int .i64 b.prin, .int .i64 0, .int .i64 b.exc, .int .i64 0] 33 (0, 0)) ∧ (fileW w r b).heap.size = w.heap.size + 3 := by
  have e2 := blk_new ((w.alloc (.cells #[.int .i64 0, .int .i64 0, .int .i64 0, .int .i64 0, .int .i64 0, .int .i64 0] 33)).alloc (.cells #[.int .i64 r.per, .int .i64 r.due, .int .i64 r.filed, .int .i64 r.inc, .int .i64 r.wh, .int .i64 b.pen, .int .i64 0, .int .i64 b.prin, .int .i64 r.due, .int .i64 0, .int .i64 0] 92)) (.cells #[.int .i64 b.pen, .int .i64 0, .int .i64 b.prin, .int .i64 0, .int .i64 b.exc, .int .i64 0] 33) rfl
  have e1 := blk_alloc (blk_new (w.alloc (.cells #[.int .i64 0, .int .i64 0, .int .i64 0, .int .i64 0, .int .i64 0, .int .i64 0] 33)) (.cells #[.int .i64 r.per, .int .i64 r.due, .int .i64 r.filed, .int .i64 r.inc, .int .i64 r.wh, .int .i64 b.pen, .int .i64 0, .int .i64 b.prin, .int .i64 r.due, .int .i64 0, .int .i64 0] 92) rfl) (.cells #[.int .i64 b.pen, .int .i64 0, .int .i64 b.prin, .int .i64 0, .int .i64 b.exc, .int .i64 0] 33)
  simp only [World.size_alloc] at e1 e2
  exact ⟨(((Below.refl _ _).alloc (Nat.le_refl _) _).alloc (by simp) _).alloc (by simp; omega) _, blk_alloc (blk_alloc (blk_new w _ rfl) _) _, e1, e2, by simp⟩
set_option maxHeartbeats 6400000 in
set_option maxRecDepth 100000 in
theorem file1_any (gb B gr gl : Nat) (S : Ac) (r : Ret) (b : Bl) (w : World) (h : OwnAt w B gb S) (hB : B ≤ w.heap.size) (hr : w.heap[gr]? = some (.cells #[.int .i64 r.per, .int .i64 r.due, .int .i64 r.filed, .int .i64 r.inc, .int .i64 r.wh] 37 (0, 0))) (hl : w.heap[gl]? = some (.cells #[.int .i64 b.tax, .int .i64 b.prin, .int .i64 b.pen, .int .i64 b.exc] 85 (0, 0)))
    (hG : Good S) (hrd : 0 ≤ r.due ∧ r.due ≤ 3652058) (hrp : 0 ≤ r.per ∧ r.per ≤ 1000000) (hb : 0 ≤ b.prin ∧ b.prin ≤ 1125899906842624) :
    Calls Tryz.prog 38 #[.pointer (some ⟨gb, 0, none⟩), .pointer (some ⟨gr, 0, none⟩), .pointer (some ⟨gl, 0, none⟩)] w (StepOf w B gb (file1 S r b)) := by
  obtain ⟨vp, vq, qs, h⟩ := h
  have hgl := blk_lt h.hg
  obtain ⟨r0, r1, r2, r3, r4, r5⟩ := cells5U hr
  obtain ⟨l0, l1, l2, l3, l4⟩ := cells4G hl
  have hrl := blk_lt hr; have hll := blk_lt hl
  have HV := Lib.hid h; have HR := Lib.hid hr; have HL := Lib.hid hl
  have n1 : gr ≠ w.heap.size := by omega
  have n2 : gl ≠ w.heap.size := by omega
  have n3 : gr ≠ w.heap.size + 1 := by omega
  have n4 : gl ≠ w.heap.size + 1 := by omega
  obtain ⟨hb0, hm0, hp0, hm2, hz0⟩ := fileW_facts w r b
  have hv0 := h.below hb0
  have hBg := h.hB
  have hib := interest_bd S.day S.bp (newPer r b)
  have HS := Lib.hid (settle_any gb (w.heap.size + 1) 0 S.day S.bp (.int .i64 S.cr) vp vq 83 (newPer r b) (fileW w r b) hv0.hg (cells11 hp0) hG.day (by show 0 ≤ r.due ∧ r.due ≤ 3652058; exact hrd) (by show _ ≤ _ - 0 ∧ _ - 0 ≤ _; omega))
  have HM0 := Lib.hid hm0; have HP0 := Lib.hid hp0; have HM2 := Lib.hid hm2; have HB0 := Lib.hid hb0; have HZ0 := Lib.hid hz0
  obtain ⟨c0, more, p1, hset⟩ : ∃ c0 more p1, settleS S.day S.bp (newPer r b) = (c0, more, p1) := ⟨_, _, _, rfl⟩
  have hpi := settle_is S.day S.bp (newPer r b)
  have HF : Hid (file1 S r b = if c0 ≠ 0 then (S, Mv.zero, c0) else if (addS S.cr b.exc).2 ≠ 0 then (S, Mv.zero, 2) else ({ S with ps := insP S.ps (aheadP r.per S.ps) p1, cr := (addS S.cr b.exc).1 }, ⟨b.pen, more, b.prin, 0, b.exc, 0⟩, 0)) := Lib.hid (by unfold file1; rw [hset])
  rw [hset] at HS hpi
  simp only at hpi
  have HPI := Lib.hid hpi
  have hnp := hG.np; have hris := hG.rise
  have hper : ∀ p ∈ S.ps, 0 ≤ p.ret.per ∧ p.ret.per ≤ 1000000 := fun p hp => by have := (retB_yes (hG.per p hp).ret).1; omega
  have HRI := Lib.hid hris; have HPER := Lib.hid hper
  clear h hr hl hb0 hm0 hp0 hm2 hv0 hib hpi hset hris hper hz0 hG
  go_enter Tryz.func38, Tryz.ntmps38
  go_wp2_with fail
  refine HS.out.mono ?_; rintro e w2 (⟨hne, rfl, hw2⟩ | ⟨h0, rfl, hp2⟩)
  · simp only at hne hw2 ⊢
    refine ⟨rfl, (HB0.out.mono hB).trans (hw2.mono (Nat.le_trans hB HB0.out.size)), ?_⟩
    rw [HF.out, if_pos hne]
    exact .inr ⟨hne, .inr rfl⟩
  simp only at h0 hp2
  subst h0
  have hbw2 : Below w.heap.size w w2 := HB0.out.trans (hp2.toBelow (by omega) HB0.out.size)
  have hpb2 : w2.heap[w.heap.size + 1]? = some (.cells (perC p1).toArray 92 (0, 0)) := settle_put HP0.out hp2 HPI.out
  have hm02 : w2.heap[w.heap.size]? = _ := (hp2.far w.heap.size (by have := HZ0.out; omega) (by omega)).trans HM0.out
  have hm22 : w2.heap[w.heap.size + 1 + 1]? = _ := (hp2.far (w.heap.size + 1 + 1) (by have := HZ0.out; omega) (by omega)).trans HM2.out
  have hov2 := HV.out.below hbw2
  have hr2 := blk_below HR.out hbw2 hrl
  have hl2 := blk_below HL.out hbw2 hll
  obtain ⟨x0, x1, x2, x3, x4, x5, x6⟩ := cells6U hm22
  have p3 : Puts w2 (w.heap.size + 1 + 1) [(1, .int .i64 more)] (w2.setCell ⟨w.heap.size + 1 + 1, 1, none⟩ (.int .i64 more)) := (Puts.start (Below.refl _ _)).set 1 _
  have hbw3 : Below w.heap.size w (w2.setCell ⟨w.heap.size + 1 + 1, 1, none⟩ (.int .i64 more)) := hbw2.setCell (by show w.heap.size ≤ w.heap.size + 1 + 1; omega) _
  have hm23 : (w2.setCell ⟨w.heap.size + 1 + 1, 1, none⟩ (.int .i64 more)).heap[w.heap.size + 1 + 1]? = some (.cells #[.int .i64 b.pen, .int .i64 more, .int .i64 b.prin, .int .i64 0, .int .i64 b.exc, .int .i64 0] 33 (0, 0)) := p3.near _ _ _ hm22
  have hm03 : (w2.setCell ⟨w.heap.size + 1 + 1, 1, none⟩ (.int .i64 more)).heap[w.heap.size]? = some (.cells #[.int .i64 0, .int .i64 0, .int .i64 0, .int .i64 0, .int .i64 0, .int .i64 0] 33 (0, 0)) := (p3.far w.heap.size (blk_lt hm02) (by omega)).trans hm02
  have hpb3 : (w2.setCell ⟨w.heap.size + 1 + 1, 1, none⟩ (.int .i64 more)).heap[w.heap.size + 1]? = some (.cells (perC p1).toArray 92 (0, 0)) := (p3.far (w.heap.size + 1) (blk_lt hpb2) (by omega)).trans hpb2
  have hlt2 := blk_lt hm22
  have HBW3 := Lib.hid hbw3; have HM23 := Lib.hid hm23; have HM03 := Lib.hid hm03; have HPB3 := Lib.hid hpb3
  clear hp2 hbw2 hpb2 hm02 hm22 hr2 hl2 hov2 p3 hbw3 hm23 hm03 hpb3
  go_upto_region 4 with fail
  generalize hX : w2.setCell ⟨w.heap.size + 1 + 1, 1, none⟩ (.int .i64 more) = X at *
  clear hX x0 x1 x2 x3 x4 x5 x6 hlt2
  have hovX := HV.out.below HBW3.out
  have hrX := blk_below HR.out HBW3.out hrl
  obtain ⟨A, c, rfl, hcA, hrd2⟩ := hovX.rdp
  have HBS := Lib.hid (bsPer_any A S.ps.length c S.ps r.per X.drew rfl (hrd2.below (Below.refl _ _).drew) (by omega) HRI.out HPER.out hrp)
  obtain ⟨a0, a1, a2, a3, a4, a5⟩ := cells5U hovX.hg
  obtain ⟨q0, q1, q2, q3, q4, q5⟩ := cells5U hrX
  have HOX := Lib.hid hovX
  clear hovX hrX hrd2 r0 r1 r2 r3 r4 r5 l0 l1 l2 l3 l4
  go_cut [8] from 28 to 37 (fun v8 wc => v8 = .int .i64 (aheadP r.per S.ps) ∧ Below X.heap.size X wc)
  case first =>
    go_region_law (first
      | (refine step_call3R rfl 40 (.tmp 32) (.tmp 34) (.func 41) _ _ _ rfl (.slice A S.ps.length c) (.int .i64 r.per) (.func (.func 41) #[] #[]) rfl rfl rfl (bs_enter _ _ _) ?_
         refine HBS.out.mono ?_; rintro e w3 ⟨⟨bb, rfl⟩, hw3⟩; refine ⟨_, rfl, ?_⟩
         have HW3 := Lib.hid hw3; clear hw3))
    all_goals go_wp2_with fail
    all_goals go_meet
    all_goals exact ⟨rfl, (Below.refl _ _).drew.trans HW3.out⟩
  case rest =>
    obtain ⟨rfl, hbc⟩ := hcut
    have hbwc : Below w.heap.size w wc := HBW3.out.trans (hbc.mono HBW3.out.size)
    have hovc := HOX.out.below hbc
    have hlc := blk_below HL.out hbwc hll
    have hm0c := blk_below HM03.out hbc (blk_lt HM03.out)
    have hm2c := blk_below HM23.out hbc (blk_lt HM23.out)
    have hpbc := blk_below HPB3.out hbc (blk_lt HPB3.out)
    obtain ⟨z0, z1, z2, z3, z4, z5⟩ := cells5U hovc.hg
    obtain ⟨i0, hi0, hz0', hz1', hz2'⟩ := info_parts info_per
    have hlen : (insP S.ps (aheadP r.per S.ps) p1).length = S.ps.length + 1 := insP_len _ _ _ (aheadP_le _ _)
    have hpc : ∀ j, j < 11 → wc.cell? ⟨w.heap.size + 1, j, none⟩ = (perC p1)[j]? := fun j hj => (blk_cell hpbc j).trans (by simp)
    have y0 := hpc 0 (by omega); have y1 := hpc 1 (by omega); have y2 := hpc 2 (by omega); have y3 := hpc 3 (by omega); have y4 := hpc 4 (by omega); have y5 := hpc 5 (by omega); have y6 := hpc 6 (by omega); have y7 := hpc 7 (by omega); have y8 := hpc 8 (by omega); have y9 := hpc 9 (by omega); have y10 := hpc 10 (by omega)
    simp only [perC, List.getElem?_cons_zero, List.getElem?_cons_succ] at y0 y1 y2 y3 y4 y5 y6 y7 y8 y9 y10
    have hpl := blk_lt hpbc
    have hglc := blk_lt hovc.hg
    have n5 : w.heap.size + 1 ≠ wc.heap.size := by omega
    have n6 : gb ≠ wc.heap.size := by omega
    have hovd := (hovc.below (Below.refl _ _).drew).below (bnewU wc.drew (.cells (perC p1).toArray 92))
    have hpd := blk_new wc.drew (.cells (perC p1).toArray 92) rfl
    have HIN := Lib.hid (insert_any A B S.ps.length c (aheadP r.per S.ps) wc.heap.size S.ps p1 (wc.drew.alloc (.cells (perC p1).toArray 92)) rfl hovd.hp hpd (fun a ha => by
        obtain ⟨_, cs, hcs⟩ := own_block_type hovc.hp (b := a.block) (by rw [ha]; rfl)
        have := blk_lt hcs; omega) (by have h1 := hbwc.size; simp; omega) (by omega) (aheadP_le _ _))
    have HOD := Lib.hid hovd; have HBWC := Lib.hid hbwc
    have HBD : Hid (B ≤ (wc.drew.alloc (.cells (perC p1).toArray 92)).heap.size) := Lib.hid (by have h1 := hbwc.size; simp; omega)
    have hbcd : Below wc.heap.size wc (wc.drew.alloc (.cells (perC p1).toArray 92)) := (Below.refl _ _).drew.alloc (Nat.le_refl _) _
    have HBCD := Lib.hid hbcd
    have HL0 := Lib.hid (blk_below hlc hbcd (blk_lt hlc)); have HM0C := Lib.hid (blk_below hm0c hbcd (blk_lt hm0c)); have HM2C := Lib.hid (blk_below hm2c hbcd (blk_lt hm2c))
    have n7 : w.heap.size ≠ gb := by omega
    have n8 : w.heap.size + 1 + 1 ≠ gb := by omega
    have n9 : gl ≠ gb := fun e => by rw [e] at hlc; exact ne_of_type' hovc.hg hlc (by decide) rfl
    have HLEN := Lib.hid hlen
    obtain ⟨at_, hat⟩ : ∃ k, aheadP r.per S.ps = k := ⟨_, rfl⟩
    rw [hat] at HIN HLEN ⊢
    have HAT := Lib.hid hat
    clear hbc hbwc hovc hlc hm0c hm2c hpbc hpc hovd hpd hbcd hat hlen hi0 hz0' hz1' hz2'
    go_upto_region 5 with fail
    go_cut [] from 38 to 48 (fun wd => OwnAt wd B gb { S with ps := insP S.ps at_ p1 } ∧ Below B wc wd ∧ wd.heap[w.heap.size]? = some (.cells #[.int .i64 0, .int .i64 0, .int .i64 0, .int .i64 0, .int .i64 0, .int .i64 0] 33 (0, 0)) ∧ wd.heap[w.heap.size + 1 + 1]? = some (.cells #[.int .i64 b.pen, .int .i64 more, .int .i64 b.prin, .int .i64 0, .int .i64 b.exc, .int .i64 0] 33 (0, 0)) ∧ wd.heap[gl]? = some (.cells #[.int .i64 b.tax, .int .i64 b.prin, .int .i64 b.pen, .int .i64 b.exc] 85 (0, 0)))
    case first =>
      go_region_law (first
        | (refine step_call3R rfl 42 (.tmp 42) (.tmp 43) (.tmp 45) _ _ _ rfl (.slice A S.ps.length c) (.int .i64 (at_ : Int)) (.slice (some ⟨wc.heap.size, 0, none⟩) 1 1) rfl rfl rfl (ins_enter _ _ _) ?_
           refine HIN.out.mono ?_; rintro e w5 ⟨v5, rfl, ho5, hg5⟩; refine ⟨_, rfl, ?_⟩
           have hE := own_ins_end HOD.out hg5 ho5 HLEN.out HBD.out
           have hgb5 := own_far_type HOD.out.hp (by rw [← own_map]; exact hg5) HOD.out.hg (by decide)
           obtain ⟨d0, d1, d2, d3, d4, d5⟩ := cells5U hgb5
           have hgl5 := blk_lt hgb5
           obtain ⟨A5, c5, rfl, _⟩ := own_form ho5
           have HE := Lib.hid hE
           clear ho5 hg5 hE hgb5))
      all_goals go_wp2_with fail
      all_goals go_meet
      all_goals exact ⟨HE.out.1, (HBCD.out.mono (by have h1 := HBWC.out.size; omega)).trans HE.out.2.1, HE.out.2.2 _ _ _ _ HM0C.out (by decide) n7, HE.out.2.2 _ _ _ _ HM2C.out (by decide) n8, HE.out.2.2 _ _ _ _ HL0.out (by decide) n9⟩
    case rest =>
      obtain ⟨hod, hbd, hm0d, hm2d, hld⟩ := hcut
      have hbw : Below B w wc := (HBWC.out.mono hB).trans hbd
      obtain ⟨vpd, vqd, qsd, hovd⟩ := hod
      obtain ⟨d0, d1, d2, d3, d4, d5⟩ := cells5U hovd.hg
      obtain ⟨x0, x1, x2, x3, x4, x5, x6⟩ := cells6U hm2d
      obtain ⟨e0, e1, e2, e3, e4⟩ := cells4G hld
      have hgld := blk_lt hovd.hg; have hlld := blk_lt hld; have hm2l := blk_lt hm2d
      have hne1 : gb ≠ gl := ne_of_type' hovd.hg hld (by decide)
      have HOV := Lib.hid hovd; have HBW := Lib.hid hbw; have HM0D := Lib.hid hm0d; have HM2D := Lib.hid hm2d; have HLD := Lib.hid hld
      obtain ⟨cr', er, hadd⟩ : ∃ cr' er, addS S.cr b.exc = (cr', er) := ⟨_, _, rfl⟩
      have HO := HF.out
      rw [if_neg (by simp), hadd, HAT.out] at HO
      simp only at HO
      clear hovd hbd hbw hm0d hm2d hld d0 d1 d3 d4 z0 z1 z2 z3 z4 z5 y0 y1 y2 y3 y4 y5 y6 y7 y8 y9 y10 a0 a1 a2 a3 a4 a5 q0 q1 q2 q3 q4 q5
      by_cases h0 : er = 0
      · subst h0
        have HA := Lib.hid (fun wx => uadd_yes S.cr b.exc wx (by rw [hadd]))
        rw [hadd] at HA
        rw [if_neg (by simp)] at HO
        have HOO := Lib.hid HO
        clear hadd HO
        go_wp2_with fail
        go_region_law (first
          | (refine step_call2R rfl 43 (.tmp 53) (.tmp 55) 2 2 rfl (.int .i64 S.cr) (.int .i64 b.exc) rfl rfl (add_enter _ _) ?_
             refine (HA.out _).mono ?_; rintro e w6 ⟨rfl, hw6⟩; refine ⟨_, rfl, ?_⟩
             have hov6 := (HOV.out.below (Below.refl _ _).drew).below hw6
             obtain ⟨f0, f1, f2, f3, f4, f5⟩ := cells5U hov6.hg
             have hm26 := blk_below (w := wc.drew) HM2D.out hw6 (blk_lt HM2D.out)
             have hm06 := blk_below (w := wc.drew) HM0D.out hw6 (blk_lt HM0D.out)
             obtain ⟨g0, g1, g2, g3, g4, g5, g6⟩ := cells6U hm26
             obtain ⟨h0, h1, h2, h3, h4, h5, h6⟩ := cells6U hm06
             have hgl6 := blk_lt hov6.hg; have hml6 := blk_lt hm26; have hml7 := blk_lt hm06
             have HOV6 := Lib.hid hov6; have HM26 := Lib.hid hm26; have HM06 := Lib.hid hm06
             have HBW6 : Hid (Below B w w6) := Lib.hid (HBW.out.trans ((Below.refl _ _).drew.trans hw6 |>.mono (Nat.le_trans hB HBW.out.size)))
             clear hw6 hov6 hm26 hm06 f0 f1 f3 f4))
        all_goals go_wp2_with fail
        all_goals
          have p6 := (Puts.start (b := gb) (Below.refl w6.heap.size w6)).set 2 (.int .i64 cr')
          have hov7 := HOV6.out.setCr p6
          have hm07 := (p6.far w.heap.size hml7 n7).trans HM06.out
          obtain ⟨E1, E2⟩ := step_last0 { S with ps := insP S.ps at_ p1, cr := cr' } ⟨b.pen, more, b.prin, 0, b.exc, 0⟩ (HBW6.out.setCell hBg (.int .i64 cr')) ⟨_, _, _, hov7⟩ hm07 hB
          rw [HOO.out]
          exact mv_ret ⟨b.pen, more, b.prin, 0, b.exc, 0⟩ 0 w.heap.size rfl rfl rfl E1 E2
      · have HA := Lib.hid (fun wx => uadd_no S.cr b.exc wx (by rw [hadd]; exact h0))
        rw [if_pos h0] at HO
        have HOO := Lib.hid HO
        clear hadd HO
        go_wp2_with fail
        have HBB := Lib.hid (fun (w6 : World) (hw : Below wc.drew.heap.size wc.drew w6) => (HBW.out.trans (((Below.refl _ _).drew.trans hw).mono (Nat.le_trans hB HBW.out.size)) : Below B w w6))
        go_region_law (refine step_call2P rfl 43 (.tmp 53) (.tmp 55) 2 2 rfl (.int .i64 S.cr) (.int .i64 b.exc) rfl rfl (add_enter _ _) ((HA.out _).mono ?_) ?_
                       · rintro e w6 ⟨rfl, hw6⟩; exact ⟨_, rfl, rfl, HBB.out w6 hw6, by rw [HOO.out]; exact .inr ⟨by show (2 : Int) ≠ 0; decide, .inr rfl⟩⟩)
        all_goals trivial
end Go.Proofs.YtbjjgnaojoaoiaaGreat
