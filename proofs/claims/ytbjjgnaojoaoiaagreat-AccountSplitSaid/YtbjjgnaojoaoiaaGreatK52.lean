/- Load: the walk. -/
import Derived.Test.YtbjjgnaojoaoiaaGreatK51
import Derived.Test.YtbjjgnaojoaoiaaGreatK50
import Derived.Test.YtbjjgnaojoaoiaaGreatK34
import Derived.Deep.QuietTactic
import Derived.BigQuiet
import Derived.Deep.RegionHeld
namespace Go.Proofs.YtbjjgnaojoaoiaaGreat
open Go.RowKit Go
set_option linter.unusedVariables false
set_option linter.unusedSimpArgs false

theorem saveN_eq (S : Ac) : saveN S = S.day :: S.bp :: S.cr :: (S.ps.length : Int) :: (S.ps.flatMap perN ++ ((S.ms.length : Int) :: S.ms.flatMap pmN)) := by unfold saveN; simp
/-- What is left to be read behind k periods, behind k payments. -/
def left1 (S : Ac) (k : Nat) : List Int := (S.ps.drop k).flatMap perN ++ ((S.ms.length : Int) :: S.ms.flatMap pmN)
def left2 (S : Ac) (k : Nat) : List Int := (S.ms.drop k).flatMap pmN
theorem left1_next {S : Ac} {k : Nat} (h : k < S.ps.length) : left1 S k = perN S.ps[k] ++ left1 S (k + 1) := by
  unfold left1; rw [List.drop_eq_getElem_cons h, List.flatMap_cons, List.append_assoc]
theorem left1_last (S : Ac) : left1 S S.ps.length = (S.ms.length : Int) :: left2 S 0 := by unfold left1 left2; simp
theorem left2_next {S : Ac} {k : Nat} (h : k < S.ms.length) : left2 S k = pmN S.ms[k] ++ left2 S (k + 1) := by
  unfold left2; rw [List.drop_eq_getElem_cons h, List.flatMap_cons]
theorem left2_last (S : Ac) : left2 S S.ms.length = [] := by unfold left2; simp
theorem PerOk.interest {day bp : Int} {p : Per} (h : PerOk day bp p) : interestS day bp p = (p.acc, 0) := by
  by_cases h1 : p.since ≤ day
  · exact h.int h1
  · have := h.none_ (by omega)
    unfold interestS; rw [if_pos (by omega), this.2]
theorem PmOk.num {day bp : Int} {ps : List Per} {m : Pm} (hp : ∀ p ∈ ps, PerOk day bp p) (h : PmOk ps m) : PmNum m := by
  have h7 := opens_nn (l := m.parts) (fun x hx => by have := (h.placed x hx).2.2; omega)
  have := h.sum; have := h.amt
  exact ⟨h.id, h.day, h.amt, h.len, fun x hx => ⟨part_okI hp (h.placed x hx), (h.placed x hx).2.2.1⟩, h.rest, by omega⟩
/-- An account of which some is there. -/
@[reducible] def Ac.with1 (S : Ac) (k : Nat) : Ac := { day := S.day, bp := S.bp, cr := S.cr, ps := S.ps.take k, ms := [] }
@[reducible] def Ac.with2 (S : Ac) (k : Nat) : Ac := { day := S.day, bp := S.bp, cr := S.cr, ps := S.ps, ms := S.ms.take k }
theorem opens_takeV {l : List Dq} {k : Nat} (h : k < l.length) : opens (l.take (k + 1)) = opens (l.take k) + l[k].opn := by
  rw [List.take_succ_eq_append_getElem h, opens_app]; simp [opens]
theorem opens_leV {l : List Dq} (h : ∀ x ∈ l, 0 ≤ x.opn) (k : Nat) (hk : k < l.length) : 0 ≤ opens (l.take k) ∧ opens (l.take k) + l[k].opn ≤ opens l := by
  have h1 := opens_nn (l := l.take k) (fun x hx => h x (List.mem_of_mem_take hx))
  have h2 := opens_nn (l := l.drop (k + 1)) (fun x hx => h x (List.mem_of_mem_drop hx))
  have h3 : opens l = opens (l.take (k + 1)) + opens (l.drop (k + 1)) := by rw [← opens_app, List.take_append_drop]
  have h4 := opens_takeV hk
  omega
theorem part_found {S : Ac} (h : Good S) {m : Pm} (hm : PmOk S.ps m) {x : Dq} (hx : x ∈ m.parts) : ∃ i, ∃ hi : i < S.ps.length, S.place x.per = (i : Int) ∧ S.ps[i].ret.due = x.due := by
  obtain ⟨⟨⟨i, hi, hp⟩, _⟩, ⟨p, hpp, e1, e2⟩, _⟩ := hm.placed x hx
  obtain ⟨_, hper⟩ := place_is hp
  have := h.rise.mem hpp hi (e1.trans hper.symm)
  subst this
  exact ⟨i, hi, hp, e2⟩
theorem ls_last {w0 w : World} {gr g ga : Nat} {xs : List Int} {S : Ac} {vp vq : Value} {qs : List PmE} (h : LS w ga gr g ga xs S vp vq qs) (hb : Below ga w0 w) :
    ((w.setCell ⟨ga, 0, none⟩ (.pointer (some ⟨g, 0, none⟩))).setCell ⟨ga + 1, 0, none⟩ (.int .i64 0)).heap[ga]? = some (.cells #[.pointer (some ⟨g, 0, none⟩)] 27 (0, 0)) ∧
    ((w.setCell ⟨ga, 0, none⟩ (.pointer (some ⟨g, 0, none⟩))).setCell ⟨ga + 1, 0, none⟩ (.int .i64 0)).heap[ga + 1]? = some (.cells #[.int .i64 0] 28 (0, 0)) ∧
    OwnAt ((w.setCell ⟨ga, 0, none⟩ (.pointer (some ⟨g, 0, none⟩))).setCell ⟨ga + 1, 0, none⟩ (.int .i64 0)) 0 g S ∧ Below ga w0 ((w.setCell ⟨ga, 0, none⟩ (.pointer (some ⟨g, 0, none⟩))).setCell ⟨ga + 1, 0, none⟩ (.int .i64 0)) := by
  have p1 : Puts w ga [(0, .pointer (some ⟨g, 0, none⟩))] (w.setCell ⟨ga, 0, none⟩ (.pointer (some ⟨g, 0, none⟩))) := (Puts.start (Below.refl _ _)).set 0 _
  have a1 := p1.near _ _ _ h.ba
  have a2 := (p1.far (ga + 1) (blk_lt h.be) (by omega)).trans h.be
  have hb1 : Below ga w0 (w.setCell ⟨ga, 0, none⟩ (.pointer (some ⟨g, 0, none⟩))) := hb.setCell (Nat.le_refl _) _
  have o1 : OwnV (w.setCell ⟨ga, 0, none⟩ (.pointer (some ⟨g, 0, none⟩))) ga g S vp vq qs := h.own.types fun k cs t hk ht => (p1.far k (blk_lt hk) (ne_of_type' hk h.ba (by rcases ht with rfl | rfl | rfl | rfl <;> decide))).trans hk
  generalize w.setCell ⟨ga, 0, none⟩ (.pointer (some ⟨g, 0, none⟩)) = Y at *
  have p2 : Puts Y (ga + 1) [(0, .int .i64 0)] (Y.setCell ⟨ga + 1, 0, none⟩ (.int .i64 0)) := (Puts.start (Below.refl _ _)).set 0 _
  have o2 : OwnV (Y.setCell ⟨ga + 1, 0, none⟩ (.int .i64 0)) ga g S vp vq qs := o1.types fun k cs t hk ht => (p2.far k (blk_lt hk) (ne_of_type' hk a2 (by rcases ht with rfl | rfl | rfl | rfl <;> decide))).trans hk
  exact ⟨(p2.far ga (blk_lt a1) (by omega)).trans a1, p2.near _ _ _ a2, ⟨vp, vq, qs, o2.mono (Nat.zero_le _)⟩, hb1.setCell (by show ga ≤ ga + 1; omega) _⟩
theorem pay_none {S : Ac} (h : Good S) {k : Nat} (hk : k < S.ms.length) : (S.with2 k).pay S.ms[k].id = -1 := by
  unfold Ac.pay
  rcases idxI_spec (fun p : Pm => decide (p.id = S.ms[k].id)) (S.ms.take k) 0 with ⟨h1, _⟩ | ⟨i, hi, h1, h2, _⟩
  · exact h1
  · exfalso
    have hik : i < k := by have := hi; rw [List.length_take] at this; omega
    have h3 : (S.ms.take k)[i].id = S.ms[k].id := by simpa using h2
    rw [List.getElem_take] at h3
    have hnd := h.ids
    have h4 : (S.ms.map Pm.id)[i]'(by simp; omega) = (S.ms.map Pm.id)[k]'(by simpa using hk) := by simpa using h3
    have := (List.getElem_inj hnd).1 h4
    omega
set_option maxHeartbeats 25600000 in
set_option maxRecDepth 100000 in
theorem load_any (A : Option Addr) (c nb : Nat) (S : Ac) (w : World) (hG : Good S) (hnb : (saveB S).length = nb) (h : w.ownsRow 0 5 1 (.slice A nb c) nb (bys (saveB S))) (hnc : nb ≤ c) :
    Calls Tryz.prog 32 #[.slice A nb c] w fun e w' => ∃ g, e = .returned (.tuple #[.pointer (some ⟨g, 0, none⟩), .int .i64 0]) ∧ w.heap.size ≤ g ∧ OwnAt w' 0 g S ∧ Below w.heap.size w w' := by
  have hmf : ∀ (fn : Fn) (first cap : Array Value) (w : World), (Instr.makeFunc fn first cap).run Tryz.prog w = .ok (.func fn first cap) w := fun _ _ _ _ => rfl
  obtain ⟨i0, hi, hz0, hz1, hz2⟩ := info_parts info_per
  obtain ⟨j0, hj, hw0, hw1, hw2⟩ := info_parts info_pm
  have HI := Lib.hid hi; have HJ := Lib.hid hj
  have hlen := (pre_ok hG (P := saveN S) ⟨[], by simp⟩).2
  have hlb : nb ≤ 130000 := by rw [← hnb]; exact hlen
  obtain ⟨np, hnp⟩ : ∃ np, S.ps.length = np := ⟨_, rfl⟩
  obtain ⟨nm, hnm⟩ : ∃ nm, S.ms.length = nm := ⟨_, rfl⟩
  have hb0 : Below w.heap.size w (((w.alloc (.cells #[.pointer none] 27)).alloc (.cells #[.int .i64 0] 28)).alloc (.cells #[.slice A nb c] 129)) := (((Below.refl _ _).alloc (Nat.le_refl _) _).alloc (by simp) _).alloc (by simp; omega) _
  have hr0 : RdrN (((w.alloc (.cells #[.pointer none] 27)).alloc (.cells #[.int .i64 0] 28)).alloc (.cells #[.slice A nb c] 129)) 0 (w.heap.size + 2) (saveN S) :=
    ⟨A, c, by rw [show numsB (saveN S) = saveB S from rfl, hnb]; exact blk_new _ _ (by simp), Nat.zero_le _, by rw [show numsB (saveN S) = saveB S from rfl, hnb]; exact hnc, by rw [show numsB (saveN S) = saveB S from rfl, hnb]; omega, by rw [show numsB (saveN S) = saveB S from rfl, hnb]; exact own_below h hb0⟩
  rw [saveN_eq, hnp, hnm] at hr0
  have ha0 : (((w.alloc (.cells #[.pointer none] 27)).alloc (.cells #[.int .i64 0] 28)).alloc (.cells #[.slice A nb c] 129)).heap[w.heap.size]? = some (.cells #[.pointer none] 27 (0, 0)) := blk_alloc (blk_alloc (blk_new w _ rfl) _) _
  have he0 : (((w.alloc (.cells #[.pointer none] 27)).alloc (.cells #[.int .i64 0] 28)).alloc (.cells #[.slice A nb c] 129)).heap[w.heap.size + 1]? = some (.cells #[.int .i64 0] 28 (0, 0)) := blk_alloc (blk_new _ _ (by simp)) _
  have hnp20 := hG.np; have hnm50 := hG.nm
  rw [hnp] at hnp20; rw [hnm] at hnm50
  have H1 := Lib.hid (rday_any 0 (w.heap.size + 2) S.day _ _ hr0 hG.day)
  have HG := Lib.hid hG; have HNP := Lib.hid hnp; have HNM := Lib.hid hnm
  have HB0 := Lib.hid hb0; have HA0 := Lib.hid ha0; have HE0 := Lib.hid he0
  clear hG hnb h hnc hi hj hlen hnp hnm hb0 hr0 ha0 he0
  go_enter_defers Tryz.func32, Tryz.ntmps32
  go_wp2_with fail
  refine H1.out.mono ?_; rintro e w1 ⟨rfl, hr1, he1⟩
  have H2 := Lib.hid (rnumber_any 0 (w.heap.size + 2) 0 100000 S.bp _ w1 hr1 (by decide) HG.out.bp (by decide))
  have HA1 := Lib.hid (he1.blk HA0.out (by omega)); have HE1 := Lib.hid (he1.blk HE0.out (by omega))
  have hbw1 := he1.bel HB0.out (by omega) HB0.out.size
  have HB1 := Lib.hid hbw1
  clear hr1 he1 H1 hbw1
  go_wp2_with fail
  refine H2.out.mono ?_; rintro e w2 ⟨rfl, hr2, he2⟩
  have H3 := Lib.hid (ramount_any 0 (w.heap.size + 2) S.cr _ w2 hr2 HG.out.cr)
  have HA2 := Lib.hid (he2.blk HA1.out (by omega)); have HE2 := Lib.hid (he2.blk HE1.out (by omega))
  have hbw2 := he2.bel HB1.out (by omega) HB1.out.size
  have HB2 := Lib.hid hbw2
  clear hr2 he2 H2 hbw2
  go_wp2_with fail
  refine H3.out.mono ?_; rintro e w3 ⟨rfl, hr3, he3⟩
  have ha3 := he3.blk HA2.out (by omega)
  have hee3 := he3.blk HE2.out (by omega)
  have hbw3 := he3.bel HB2.out (by omega) HB2.out.size
  have p3 : Puts w3 w.heap.size [(0, .pointer (some ⟨w3.heap.size, 0, none⟩))] (w3.setCell ⟨w.heap.size, 0, none⟩ (.pointer (some ⟨w3.heap.size, 0, none⟩))) := (Puts.start (Below.refl _ _)).set 0 (.pointer (some ⟨w3.heap.size, 0, none⟩))
  have hry := hr3.far p3 ha3 (by decide) (by decide)
  have hay := p3.near _ _ _ ha3
  have hey := (p3.far _ (blk_lt hee3) (by omega)).trans hee3
  have hby : Below w.heap.size w (w3.setCell ⟨w.heap.size, 0, none⟩ (.pointer (some ⟨w3.heap.size, 0, none⟩))) := hbw3.setCell (Nat.le_refl _) _
  have hys : (w3.setCell ⟨w.heap.size, 0, none⟩ (.pointer (some ⟨w3.heap.size, 0, none⟩))).heap.size = w3.heap.size := by simp [World.setCell]
  have hls : LS ((w3.setCell ⟨w.heap.size, 0, none⟩ (.pointer (some ⟨w3.heap.size, 0, none⟩))).alloc (.cells #[.int .i64 S.day, .int .i64 S.bp, .int .i64 S.cr, .slice none 0 0, .slice none 0 0] 83)) w.heap.size (w.heap.size + 2) w3.heap.size w.heap.size ((np : Int) :: left1 S 0) (S.with1 0) (.slice none 0 0) (.slice none 0 0) [] := by
    generalize w3.setCell ⟨w.heap.size, 0, none⟩ (.pointer (some ⟨w3.heap.size, 0, none⟩)) = Y at *
    have hg4 := blk_new Y (.cells #[.int .i64 S.day, .int .i64 S.bp, .int .i64 S.cr, .slice none 0 0, .slice none 0 0] 83) (g := w3.heap.size) hys.symm
    refine ⟨?_, ⟨hg4, hbw3.size, World.ownsRow_nil _ _ _ _, World.ownsRow_nil _ _ _ _, rfl, fun q hq => by cases hq⟩, blk_alloc hay _, blk_alloc hey _⟩
    have := hry.below (bnewU Y (.cells #[.int .i64 S.day, .int .i64 S.bp, .int .i64 S.cr, .slice none 0 0, .slice none 0 0] 83))
    unfold left1
    rw [HNM.out]
    exact this
  have hbl : Below w.heap.size w ((w3.setCell ⟨w.heap.size, 0, none⟩ (.pointer (some ⟨w3.heap.size, 0, none⟩))).alloc (.cells #[.int .i64 S.day, .int .i64 S.bp, .int .i64 S.cr, .slice none 0 0, .slice none 0 0] 83)) := hby.trans ((bnewU _ _).mono hby.size)
  obtain ⟨c0, c1⟩ : w3.cell? ⟨w.heap.size, 0, none⟩ = some (.pointer none) ∧ w3.frozen? ⟨w.heap.size, 0, none⟩ = false := ⟨(blk_cell ha3 0).trans rfl, blk_free ha3 0⟩
  have hga3 := blk_lt ha3
  have hge3 := blk_lt hee3
  have HLS := Lib.hid hls; have HBL := Lib.hid hbl
  have hwg : w.heap.size ≤ w3.heap.size := hbw3.size
  clear hr3 he3 H3 ha3 hee3 hbw3 hls hbl p3 hry hay hey hby hys
  go_wp2_with fail
  clear c0 c1
  obtain ⟨g, hg⟩ : ∃ g, w3.heap.size = g := ⟨_, rfl⟩
  rw [hg] at HLS HBL hwg hga3 ⊢
  generalize (w3.setCell ⟨w.heap.size, 0, none⟩ (.pointer (some ⟨g, 0, none⟩))).alloc (.cells #[.int .i64 S.day, .int .i64 S.bp, .int .i64 S.cr, .slice none 0 0, .slice none 0 0] 83) = X at *
  have H5 := Lib.hid (rnumber_any 0 (w.heap.size + 2) 0 20 (np : Int) _ X HLS.out.r (by decide) (by omega) (by decide))
  obtain ⟨ga, hga⟩ : ∃ ga, w.heap.size = ga := ⟨_, rfl⟩
  rw [hga] at HLS HBL hwg hga3 hge3 H5 ⊢
  have HGA := Lib.hid hga
  clear hg HA0 HE0 HA1 HE1 HA2 HE2 HB0 HB1 HB2
  (with_reducible refine H5.out.mono ?_); rintro e w5 ⟨rfl, hr5, he5⟩
  have HLS5 := Lib.hid (HLS.out.eat he5 hr5)
  have HBL5 := Lib.hid (he5.bel HBL.out (by omega) (by have h1 := HBL.out.size; have h2 := HGA.out; omega))
  clear hr5 he5 H5 HLS HBL
  have hn1 : g ≠ ga := by omega
  have hn2 : g ≠ ga + 1 + 1 := ne_of_type' HLS5.out.own.hg HLS5.out.r.choose_spec.choose_spec.hg (by decide)
  go_upto_block 0 with fail
  go_cut [5, 6, 7, 8] from 28 to 104 (fun v5 v6 v7 v8 wc => ∃ vp, LS wc ga (ga + 1 + 1) g ga ((nm : Int) :: left2 S 0) (S.with2 0) vp (.slice none 0 0) [] ∧ Below ga w wc)
  case first =>
    go_wp2_with fail
    -- <heavy>
    go_loopg [5, 28] np (fun gh v5 v28 wr => ∃ (k : Nat) (last : Int) (vp : Value), gh = np - k ∧ k ≤ np ∧ v5 = .int .i64 last ∧ v28 = .int .i64 k ∧ (∀ j (hj : j < S.ps.length), k ≤ j → last < S.ps[j].ret.per) ∧ LS wr ga (ga + 1 + 1) g ga (left1 S k) (S.with1 k) vp (.slice none 0 0) [] ∧ Below ga w wr)
    case atStart => exact ⟨0, 0, _, rfl, by omega, rfl, rfl, fun j hj _ => by have := (retB_yes (HG.out.per _ (List.getElem_mem hj)).ret).1; omega, HLS5.out, HBL5.out⟩
    case round =>
      obtain ⟨k, last, vp, hgk, hk, rfl, rfl, hla, hls, hbl⟩ := hrel
      have HGK := Lib.hid hgk; have HLS := Lib.hid hls; have HBL := Lib.hid hbl; have HLA := Lib.hid hla
      by_cases hlt : k < np
      · have hkl : k < S.ps.length := by have := HNP.out; omega
        have hpo := HG.out.per _ (List.getElem_mem hkl)
        have hlk := hla k hkl (Nat.le_refl _)
        rw [left1_next hkl] at hls
        have HR := Lib.hid (rperiod_any 0 (ga + 1 + 1) S.ps[k] (left1 S (k + 1)) wr hls.r hpo.nums)
        have HTK : Hid (S.ps.take (k + 1) = S.ps.take k ++ [S.ps[k]]) := Lib.hid (List.take_succ_eq_append_getElem hkl)
        have HRI : Hid (∀ j (hj : j < S.ps.length), k + 1 ≤ j → S.ps[k].ret.per < S.ps[j].ret.per) := Lib.hid (fun j hj hkj => List.pairwise_iff_getElem.1 HG.out.rise k j hkl hj (by omega))
        have HTL : Hid ((S.ps.take k).length = k) := Lib.hid (by rw [List.length_take]; omega)
        generalize S.ps[k] = p at *
        have HPO := Lib.hid hpo
        have i1 : (0 : Int) ≤ (k : Int) := by omega
        have i2 : (k : Int) < (np : Int) := by omega
        clear hgk hls hbl hla hpo
        go_wp2_with fail
        (with_reducible refine HR.out.mono ?_); rintro e w6 ⟨rfl, hr6, he6⟩
        have hls6 : LS w6 ga (ga + 1 + 1) g ga (left1 S (k + 1)) (S.with1 k) vp (.slice none 0 0) [] := HLS.out.eat he6 hr6
        have hbl6 := he6.bel HBL.out (by omega) (by have h1 := HBL.out.size; have h2 := HGA.out; omega)
        have hvb : ∀ b, vp.ownBlock = some b → b < w6.heap.size := fun b hb => by obtain ⟨_, cs, hcs⟩ := own_block_type hls6.own.hp hb; exact blk_lt hcs
        have HVB := Lib.hid hvb; clear hvb
        have hX := blk_new w6 (perO p) rfl
        have hXb : Below w6.heap.size w6 (w6.alloc (perO p)) := bnewU _ _
        have hls7 := hls6.below hXb
        have hbl7 : Below ga w (w6.alloc (perO p)) := hbl6.trans (hXb.mono (by have h1 := hbl6.size; have h2 := HGA.out; omega))
        have HIN := Lib.hid (interest_any g w6.heap.size 0 S.day S.bp (.int .i64 S.cr) vp (.slice none 0 0) 83 p (w6.alloc (perO p)) hls7.own.hg (cells11 hX) HG.out.day HPO.out.since0)
        rw [HPO.out.interest] at HIN
        obtain ⟨a0, a1⟩ : (w6.alloc (perO p)).cell? ⟨ga, 0, none⟩ = some (.pointer (some ⟨g, 0, none⟩)) ∧ (w6.alloc (perO p)).frozen? ⟨ga, 0, none⟩ = false := ⟨(blk_cell hls7.ba 0).trans rfl, blk_free hls7.ba 0⟩
        have hga7 := blk_lt hls7.ba
        have HLS7 := Lib.hid hls7; have HBL7 := Lib.hid hbl7; have HX7 := Lib.hid hX
        clear hr6 he6 hls6 hbl6 hX hXb hls7 hbl7 HR
        go_wp2_with fail
        (with_reducible refine HIN.out.mono ?_); rintro e w8 ⟨rfl, hb8⟩
        have HB8 : Hid (LS w8 ga (ga + 1 + 1) g ga (left1 S (k + 1)) (S.with1 k) vp (.slice none 0 0) [] ∧ w8.heap[w6.heap.size]? = some (perO p) ∧ Below ga w w8) := Lib.hid ⟨HLS7.out.below hb8, blk_below HX7.out hb8 (blk_lt HX7.out), HBL7.out.trans (hb8.mono (by have h1 := HBL7.out.size; have h2 := HGA.out; omega))⟩
        obtain ⟨gp, hgp⟩ : ∃ gp, w6.heap.size = gp := ⟨_, rfl⟩
        rw [hgp] at HB8 HVB
        clear hb8 HIN HLS7 HBL7 HX7 a0 a1
        go_upto_region 9 with fail
        clear hgp
        go_cut [] from 37 to 67 (fun wc => LS wc ga (ga + 1 + 1) g ga (left1 S (k + 1)) (S.with1 k) vp (.slice none 0 0) [] ∧ wc.heap[gp]? = some (perO p) ∧ Below ga w wc)
        case first =>
          obtain ⟨hl, hx, hb⟩ := HB8.out
          obtain ⟨y0, y1, y2, y3, y4, y5, y6, y7, y8, y9, y10⟩ := cells11E hx
          obtain ⟨z0, z1, z2, z3, z4, z5⟩ := cells5U hl.own.hg
          have a0 : w8.cell? ⟨ga, 0, none⟩ = some (.pointer (some ⟨g, 0, none⟩)) := (blk_cell hl.ba 0).trans rfl
          have l1 := blk_lt hl.ba; have l2 := blk_lt hl.own.hg; have l3 := blk_lt hx
          have d1 : decide (p.ret.per > last) = true := by simpa using hlk
          have d2 : decide (p.since ≥ p.ret.due) = true := by have := HPO.out.since; simp; omega
          have hst := HPO.out.at_
          clear hl hx hb
          by_cases hsd : p.since = p.ret.due
          · have d3 : (p.since == p.ret.due) = true := by simpa using hsd
            clear hst hsd
            go_wp2_with fail
            go_quiet ((go_at_call 85; exact Calls.quiet_of_same (form_yes _)))
            all_goals go_wp2_with fail
            all_goals go_meet
            all_goals exact ⟨HB8.out.1.below (below_drewN (Below.refl _ _) _), HB8.out.2.1, below_drewN HB8.out.2.2 _⟩
          · have d3 : (p.since == p.ret.due) = false := by simpa using hsd
            have d4 : decide (p.since ≤ S.day) = true := by
              rcases hst with e | e
              · exact absurd e hsd
              · simpa using e
            clear hst hsd
            go_wp2_with fail
            go_quiet ((go_at_call 85; exact Calls.quiet_of_same (form_yes _)))
            all_goals go_wp2_with fail
            all_goals go_meet
            all_goals exact ⟨HB8.out.1.below (below_drewN (Below.refl _ _) _), HB8.out.2.1, below_drewN HB8.out.2.2 _⟩
        case rest =>
          have HBC := Lib.hid hcut
          clear hcut HB8
          go_upto_region 10 with fail
          go_cut [] from 68 to 90 (fun wc => LS wc ga (ga + 1 + 1) g ga (left1 S (k + 1)) (S.with1 k) vp (.slice none 0 0) [] ∧ wc.heap[gp]? = some (perO p) ∧ Below ga w wc)
          case first =>
            obtain ⟨hl, hx, hb⟩ := HBC.out
            obtain ⟨y0, y1, y2, y3, y4, y5, y6, y7, y8, y9, y10⟩ := cells11E hx
            obtain ⟨z0, z1, z2, z3, z4, z5⟩ := cells5U hl.own.hg
            have a0 : wc.cell? ⟨ga, 0, none⟩ = some (.pointer (some ⟨g, 0, none⟩)) := (blk_cell hl.ba 0).trans rfl
            have l1 := blk_lt hl.ba; have l2 := blk_lt hl.own.hg; have l3 := blk_lt hx
            have hnn := HPO.out.none_
            clear hl hx hb
            by_cases hsd : p.since ≤ S.day
            · have d3 : decide (S.day ≥ p.since) = true := by simpa using hsd
              clear hnn hsd
              go_wp2_with fail
              go_quiet ((go_at_call 85; exact Calls.quiet_of_same (form_yes _)))
              all_goals go_wp2_with fail
              all_goals go_meet
              all_goals exact ⟨HBC.out.1.below (below_drewN (Below.refl _ _) _), HBC.out.2.1, below_drewN HBC.out.2.2 _⟩
            · have d3 : decide (S.day ≥ p.since) = false := by simp; omega
              have d4 : (p.done == 0) = true := by have := (hnn (by omega)).1; simpa using this
              clear hnn hsd
              go_wp2_with fail
              go_quiet ((go_at_call 85; exact Calls.quiet_of_same (form_yes _)))
              all_goals go_wp2_with fail
              all_goals go_meet
              all_goals exact ⟨HBC.out.1.below (below_drewN (Below.refl _ _) _), HBC.out.2.1, below_drewN HBC.out.2.2 _⟩
          case rest =>
            obtain ⟨hl, hx, hb⟩ := hcut
            obtain ⟨y0, y1, y2, y3, y4, y5, y6, y7, y8, y9, y10⟩ := cells11E hx
            have l3 := blk_lt hx
            have HL := Lib.hid hl; have HXX := Lib.hid hx; have HBB := Lib.hid hb
            clear hl hx hb HBC
            go_upto_region 12 with fail
            have hlx : LS wc.drew ga (ga + 1 + 1) g ga (left1 S (k + 1)) (S.with1 k) vp (.slice none 0 0) [] := HL.out.below (Below.refl _ _).drew
            obtain ⟨Ap, kp, rfl, _⟩ := own_form hlx.own.hp
            have e1 : (S.with1 k).ps.length = k := HTL.out
            have hrow : wc.drew.ownsRow ga 92 11 (.slice Ap k kp) k (perCs (S.ps.take k)) := by
              have := hlx.own.hp
              rw [e1] at this; exact this
            obtain ⟨z0, z1, z2, z3, z4, z5⟩ := cells5U (w := wc) hlx.own.hg
            rw [e1] at z3
            have a0 : wc.cell? ⟨ga, 0, none⟩ = some (.pointer (some ⟨g, 0, none⟩)) := (blk_cell (w := wc) hlx.ba 0).trans rfl
            have l1 : ga < wc.heap.size := blk_lt hlx.ba; have l2 : g < wc.heap.size := blk_lt hlx.own.hg
            have hBs : ga ≤ wc.heap.size := by omega
            have HNE : Hid (ga ≠ g ∧ gp ≠ g) := Lib.hid ⟨ne_of_type' hlx.ba hlx.own.hg (by decide), ne_of_type' (w := wc) HXX.out hlx.own.hg (by decide)⟩
            have HLX := Lib.hid hlx; have HRW := Lib.hid hrow; have HE1 := Lib.hid e1
            clear hlx hrow e1
            refine Code.wp_mono (noPan_le _) ?_
            have hne1 : ga ≠ g := HNE.out.1
            have hne2 : gp ≠ g := HNE.out.2
            refine wp_region_held_drew (S := fun w' => w'.cell? ⟨ga, 0, none⟩ = some (.pointer (some ⟨g, 0, none⟩)) ∧ w'.cell? ⟨gp, 0, none⟩ = some (.int .i64 p.ret.per) ∧ w'.cell? ⟨gp, 1, none⟩ = some (.int .i64 p.ret.due) ∧ w'.cell? ⟨gp, 2, none⟩ = some (.int .i64 p.ret.filed) ∧ w'.cell? ⟨gp, 3, none⟩ = some (.int .i64 p.ret.inc) ∧ w'.cell? ⟨gp, 4, none⟩ = some (.int .i64 p.ret.wh) ∧ w'.cell? ⟨gp, 5, none⟩ = some (.int .i64 p.o0) ∧ w'.cell? ⟨gp, 6, none⟩ = some (.int .i64 p.o1) ∧ w'.cell? ⟨gp, 7, none⟩ = some (.int .i64 p.o2) ∧ w'.cell? ⟨gp, 8, none⟩ = some (.int .i64 p.since) ∧ w'.cell? ⟨gp, 9, none⟩ = some (.int .i64 p.done) ∧ w'.cell? ⟨gp, 10, none⟩ = some (.int .i64 p.acc)) (by kernel_rfl) ⟨a0, y0, y1, y2, y3, y4, y5, y6, y7, y8, y9, y10⟩ (fun hHeld => ?_)
            refine wpAnyH_take (i := 0) (v := ?va1) rfl (by kernel_rfl) (by kernel_rfl) (by kernel_rfl) (fun _ _ _ h => h) (Or.inl ⟨by rfl, ?ha1⟩) (by assumption) ?_
            case ha1 => intro w hSw; (try dsimp only at hSw); go_simp; first | done | with_reducible rfl
            simp only [Act.put, List.setIfInBounds_toArray, List.set_cons_zero, List.set_cons_succ]
            refine wpAnyH_take (i := 1) (v := ?va2) rfl (by kernel_rfl) (by kernel_rfl) (by kernel_rfl) (fun _ _ _ h => h) (Or.inl ⟨by rfl, ?ha2⟩) (by assumption) ?_
            case ha2 => intro w hSw; (try dsimp only at hSw); go_simp; first | done | with_reducible rfl
            simp only [Act.put, List.setIfInBounds_toArray, List.set_cons_zero, List.set_cons_succ]
            refine wpAnyH_take (i := 2) (v := ?va3) rfl (by kernel_rfl) (by kernel_rfl) (by kernel_rfl) (fun _ _ _ h => h) (Or.inl ⟨by rfl, ?ha3⟩) (by assumption) ?_
            case ha3 => intro w hSw; (try dsimp only at hSw); go_simp; first | done | with_reducible rfl
            simp only [Act.put, List.setIfInBounds_toArray, List.set_cons_zero, List.set_cons_succ]
            refine wpAnyH_take (i := 3) (v := ?va4) rfl (by kernel_rfl) (by kernel_rfl) (by kernel_rfl) (fun _ _ _ h => h) (Or.inl ⟨by rfl, ?ha4⟩) (by assumption) ?_
            case ha4 => intro w hSw; (try dsimp only at hSw); go_simp; first | done | with_reducible rfl
            simp only [Act.put, List.setIfInBounds_toArray, List.set_cons_zero, List.set_cons_succ]
            refine wpAnyH_take (i := 5) (v := ?va5) rfl (by kernel_rfl) (by kernel_rfl) (by kernel_rfl) (fun _ _ _ h => h) (Or.inl ⟨by rfl, ?ha5⟩) (by assumption) ?_
            case ha5 => intro w hSw; (try dsimp only at hSw); go_simp; first | done | with_reducible rfl
            simp only [Act.put, List.setIfInBounds_toArray, List.set_cons_zero, List.set_cons_succ]
            refine wpAnyH_ready (rs := [4, 6]) (by kernel_rfl) (by simp) ?_
            refine AllReadyH.cons rfl (fun K hK => ?_) (AllReadyH.cons rfl (fun K hK => ?_) AllReadyH.nil)
            · go_simp
              refine hK.out _ _ ⟨a0, y0, y1, y2, y3, y4, y5, y6, y7, y8, y9, y10⟩ (fun hHeld => ?_)
              clear hK K
              refine wpAnyH_ready (rs := [6]) (by kernel_rfl) (by simp) ?_
              refine AllReadyH.cons rfl (fun K hK => ?_) AllReadyH.nil
              go_simp
              refine hK.out _ _ ⟨(blk_cell (blk_alloc (w := wc.drew) HLX.out.ba _) 0).trans rfl, cells11E (blk_alloc (w := wc.drew) HXX.out _)⟩ (fun hHeld => ?_)
              clear hK K
              refine wpAnyH_ready (rs := [7]) (by kernel_rfl) (by simp) ?_
              refine AllReadyH.cons rfl (fun K hK => ?_) AllReadyH.nil
              refine step_app rfl (.tmp 98) (.tmp 100) 80 rfl ga 92 i0 _ 11 88 Tryz.underlying80 HI.out hz0 hz1 hz2 rfl (by omega) (.slice Ap k kp) k (perCs (S.ps.take k)) rfl (HRW.out.alloc _) _ (some ⟨wc.heap.size, 0, none⟩) 1 1 _ rfl (Rd.new (w := wc.drew) (cs := #[.int .i64 p.ret.per, .int .i64 p.ret.due, .int .i64 p.ret.filed, .int .i64 p.ret.inc, .int .i64 p.ret.wh, .int .i64 p.o0, .int .i64 p.o1, .int .i64 p.o2, .int .i64 p.since, .int .i64 p.done, .int .i64 p.acc]) (t := 92) rfl rfl) (perC_one p) (by unfold maxLen; omega) (by omega) (by simp; omega) ?_
              intro v5 w5 hO hgr hat
              have hE := ls_per (p := p) HLX.out hBs (by rw [HE1.out]; exact hgr) (by rw [HE1.out]; exact hO)
              have hg5 := own_far_type (HRW.out.alloc _) hgr (blk_alloc HLX.out.own.hg _) (by decide)
              have ha5 := own_far_type (HRW.out.alloc _) hgr (blk_alloc HLX.out.ba _) (by decide)
              have hx5 := (hgr.block gp (Nat.lt_of_lt_of_le l3 (by simp)) (fun e => absurd (HVB.out gp (by rw [HE1.out]; exact e.symm)) (Nat.lt_irrefl _))).trans (blk_alloc (w := wc.drew) HXX.out _)
              obtain ⟨f0, f1, f2, f3, f4, f5⟩ := cells5U hg5
              have f6 : w5.cell? ⟨ga, 0, none⟩ = some (.pointer (some ⟨g, 0, none⟩)) := (blk_cell ha5 0).trans rfl
              have f7 := blk_lt hg5; have f8 := blk_lt ha5
              obtain ⟨A5, k5, rfl, _⟩ := own_form hO
              have HEND := Lib.hid hE; have HA5 := Lib.hid ha5; have HX5 := Lib.hid hx5
              clear hO hgr hat hE hg5 ha5 hx5
              refine hK.out _ _ ⟨f6, cells11E HX5.out⟩ (fun hHeld => ?_)
              clear hK K
              refine wpAnyH_take (i := 8) (v := ?va6) rfl (by kernel_rfl) (by kernel_rfl) (by kernel_rfl) (fun _ _ _ h => h) (Or.inl ⟨by rfl, ?ha6⟩) (by assumption) ?_
              case ha6 => intro w hSw; (try dsimp only at hSw); go_simp; first | done | with_reducible rfl
              simp only [Act.put, List.setIfInBounds_toArray, List.set_cons_zero, List.set_cons_succ]
              refine wpAnyH_take (i := 9) (v := ?va7) rfl (by kernel_rfl) (by kernel_rfl) (by kernel_rfl) (fun _ _ _ h => h) (Or.inl ⟨by rfl, ?ha7⟩) (by assumption) ?_
              case ha7 => intro w hSw; (try dsimp only at hSw); go_simp; first | done | with_reducible rfl
              simp only [Act.put, List.setIfInBounds_toArray, List.set_cons_zero, List.set_cons_succ]
              refine wpAnyH_ready (rs := [10]) (by kernel_rfl) (by simp) ?_
              refine AllReadyH.cons rfl (fun K hK => ?_) AllReadyH.nil
              go_simp
              refine hK.out _ _ ⟨(blk_cell (blk_far HA5.out hne1 _) 0).trans rfl, cells11E (blk_far HX5.out hne2 _)⟩ (fun hHeld => ?_)
              clear hK K
              refine wpAnyH_done (by kernel_rfl) ?_ _
              clear hHeld
              simp only [noPan]
              clear y0 y1 y2 y3 y4 y5 y6 y7 y8 y9 y10 z0 z1 z2 z3 z4 z5 a0 f0 f1 f2 f3 f4 f5 f6
              go_wp2_with fail
              all_goals go_roundg (np - (k + 1))
              all_goals first
                | exact ⟨k + 1, p.ret.per, _, rfl, by omega, rfl, by go_num, HRI.out, by rw [show S.with1 (k + 1) = { S.with1 k with ps := (S.with1 k).ps ++ [p] } by show ({ day := S.day, bp := S.bp, cr := S.cr, ps := S.ps.take (k + 1), ms := [] } : Ac) = _; rw [HTK.out]]; exact HEND.out.1, HBB.out.drew.trans HEND.out.2⟩
                | (have := HGK.out; omega)
            · go_simp
              refine hK.out _ _ ⟨(blk_cell (blk_alloc (w := wc.drew) HLX.out.ba _) 0).trans rfl, cells11E (blk_alloc (w := wc.drew) HXX.out _)⟩ (fun hHeld => ?_)
              clear hK K
              refine wpAnyH_ready (rs := [4]) (by kernel_rfl) (by simp) ?_
              refine AllReadyH.cons rfl (fun K hK => ?_) AllReadyH.nil
              go_simp
              refine hK.out _ _ ⟨(blk_cell (blk_alloc (w := wc.drew) HLX.out.ba _) 0).trans rfl, cells11E (blk_alloc (w := wc.drew) HXX.out _)⟩ (fun hHeld => ?_)
              clear hK K
              refine wpAnyH_ready (rs := [7]) (by kernel_rfl) (by simp) ?_
              refine AllReadyH.cons rfl (fun K hK => ?_) AllReadyH.nil
              refine step_app rfl (.tmp 98) (.tmp 100) 80 rfl ga 92 i0 _ 11 88 Tryz.underlying80 HI.out hz0 hz1 hz2 rfl (by omega) (.slice Ap k kp) k (perCs (S.ps.take k)) rfl (HRW.out.alloc _) _ (some ⟨wc.heap.size, 0, none⟩) 1 1 _ rfl (Rd.new (w := wc.drew) (cs := #[.int .i64 p.ret.per, .int .i64 p.ret.due, .int .i64 p.ret.filed, .int .i64 p.ret.inc, .int .i64 p.ret.wh, .int .i64 p.o0, .int .i64 p.o1, .int .i64 p.o2, .int .i64 p.since, .int .i64 p.done, .int .i64 p.acc]) (t := 92) rfl rfl) (perC_one p) (by unfold maxLen; omega) (by omega) (by simp; omega) ?_
              intro v5 w5 hO hgr hat
              have hE := ls_per (p := p) HLX.out hBs (by rw [HE1.out]; exact hgr) (by rw [HE1.out]; exact hO)
              have hg5 := own_far_type (HRW.out.alloc _) hgr (blk_alloc HLX.out.own.hg _) (by decide)
              have ha5 := own_far_type (HRW.out.alloc _) hgr (blk_alloc HLX.out.ba _) (by decide)
              have hx5 := (hgr.block gp (Nat.lt_of_lt_of_le l3 (by simp)) (fun e => absurd (HVB.out gp (by rw [HE1.out]; exact e.symm)) (Nat.lt_irrefl _))).trans (blk_alloc (w := wc.drew) HXX.out _)
              obtain ⟨f0, f1, f2, f3, f4, f5⟩ := cells5U hg5
              have f6 : w5.cell? ⟨ga, 0, none⟩ = some (.pointer (some ⟨g, 0, none⟩)) := (blk_cell ha5 0).trans rfl
              have f7 := blk_lt hg5; have f8 := blk_lt ha5
              obtain ⟨A5, k5, rfl, _⟩ := own_form hO
              have HEND := Lib.hid hE; have HA5 := Lib.hid ha5; have HX5 := Lib.hid hx5
              clear hO hgr hat hE hg5 ha5 hx5
              refine hK.out _ _ ⟨f6, cells11E HX5.out⟩ (fun hHeld => ?_)
              clear hK K
              refine wpAnyH_take (i := 8) (v := ?va8) rfl (by kernel_rfl) (by kernel_rfl) (by kernel_rfl) (fun _ _ _ h => h) (Or.inl ⟨by rfl, ?ha8⟩) (by assumption) ?_
              case ha8 => intro w hSw; (try dsimp only at hSw); go_simp; first | done | with_reducible rfl
              simp only [Act.put, List.setIfInBounds_toArray, List.set_cons_zero, List.set_cons_succ]
              refine wpAnyH_take (i := 9) (v := ?va9) rfl (by kernel_rfl) (by kernel_rfl) (by kernel_rfl) (fun _ _ _ h => h) (Or.inl ⟨by rfl, ?ha9⟩) (by assumption) ?_
              case ha9 => intro w hSw; (try dsimp only at hSw); go_simp; first | done | with_reducible rfl
              simp only [Act.put, List.setIfInBounds_toArray, List.set_cons_zero, List.set_cons_succ]
              refine wpAnyH_ready (rs := [10]) (by kernel_rfl) (by simp) ?_
              refine AllReadyH.cons rfl (fun K hK => ?_) AllReadyH.nil
              go_simp
              refine hK.out _ _ ⟨(blk_cell (blk_far HA5.out hne1 _) 0).trans rfl, cells11E (blk_far HX5.out hne2 _)⟩ (fun hHeld => ?_)
              clear hK K
              refine wpAnyH_done (by kernel_rfl) ?_ _
              clear hHeld
              simp only [noPan]
              clear y0 y1 y2 y3 y4 y5 y6 y7 y8 y9 y10 z0 z1 z2 z3 z4 z5 a0 f0 f1 f2 f3 f4 f5 f6
              go_wp2_with fail
              all_goals go_roundg (np - (k + 1))
              all_goals first
                | exact ⟨k + 1, p.ret.per, _, rfl, by omega, rfl, by go_num, HRI.out, by rw [show S.with1 (k + 1) = { S.with1 k with ps := (S.with1 k).ps ++ [p] } by show ({ day := S.day, bp := S.bp, cr := S.cr, ps := S.ps.take (k + 1), ms := [] } : Ac) = _; rw [HTK.out]]; exact HEND.out.1, HBB.out.drew.trans HEND.out.2⟩
                | (have := HGK.out; omega)
      · have hkn : k = np := by omega
        subst hkn
        have hlast : left1 S k = (nm : Int) :: left2 S 0 := by rw [← HNP.out, left1_last, HNM.out]
        have htk : S.with1 k = S.with2 0 := by
          show ({ day := S.day, bp := S.bp, cr := S.cr, ps := S.ps.take k, ms := [] } : Ac) = { day := S.day, bp := S.bp, cr := S.cr, ps := S.ps, ms := S.ms.take 0 }
          rw [List.take_of_length_le (by rw [HNP.out]; exact Nat.le_refl _)]; rfl
        rw [hlast, htk] at HLS
        clear hgk hls hbl hla hlast htk
        go_wp2_with fail
        all_goals go_meet
        all_goals exact ⟨vp, HLS.out, HBL.out⟩
    -- </heavy>
  case rest =>
    obtain ⟨vp, hls, hbl⟩ := hcut
    have H6 := Lib.hid (rnumber_any 0 (ga + 1 + 1) 0 50 (nm : Int) _ wc hls.r (by decide) (by omega) (by decide))
    have HLS6 := Lib.hid hls; have HBL6 := Lib.hid hbl
    clear hls hbl HLS5 HBL5
    go_wp2_with fail
    (with_reducible refine H6.out.mono ?_); rintro e w7 ⟨rfl, hr7, he7⟩
    have HLS7 := Lib.hid (HLS6.out.eat he7 hr7)
    have HBL7 := Lib.hid (he7.bel HBL6.out (by omega) (by have h1 := HBL6.out.size; have h2 := HGA.out; omega))
    clear hr7 he7 H6 HLS6 HBL6
    go_upto_block 2 with fail
    go_cut [9, 10, 12, 13] from 107 to 169 (fun v9 v10 v12 v13 wc => ∃ vp vq qs, LS wc ga (ga + 1 + 1) g ga [] S vp vq qs ∧ Below ga w wc)
    case first =>
      go_wp2_with fail
      go_loopg [107] nm (fun gh v107 wr => ∃ (k : Nat) (vq : Value) (qs : List PmE), gh = nm - k ∧ k ≤ nm ∧ v107 = .int .i64 k ∧ LS wr ga (ga + 1 + 1) g ga (left2 S k) (S.with2 k) vp vq qs ∧ Below ga w wr)
      case atStart => exact ⟨0, _, _, rfl, by omega, rfl, HLS7.out, HBL7.out⟩
      case round =>
        obtain ⟨k, vq, qs, hgk, hk, rfl, hls, hbl⟩ := hrel
        have HGK := Lib.hid hgk; have HLS := Lib.hid hls; have HBL := Lib.hid hbl
        by_cases hlt : k < nm
        · have hkl : k < S.ms.length := by have := HNM.out; omega
          have hpm := HG.out.pm _ (List.getElem_mem hkl)
          rw [left2_next hkl] at hls
          have HR := Lib.hid (rpayment_any 0 (ga + 1 + 1) S.ms[k] (left2 S (k + 1)) wr hls.r (hpm.num HG.out.per))
          have HTK : Hid (S.ms.take (k + 1) = S.ms.take k ++ [S.ms[k]]) := Lib.hid (List.take_succ_eq_append_getElem hkl)
          have HTL : Hid ((S.ms.take k).length = k) := Lib.hid (by rw [List.length_take]; omega)
          have HPN := Lib.hid (pay_none HG.out hkl)
          have hsz : (S.with2 k).ms.length ≤ 1000 := by show (S.ms.take k).length ≤ _; rw [HTL.out]; omega
          generalize S.ms[k] = m at *
          have HPM := Lib.hid hpm
          have i1 : (0 : Int) ≤ (k : Int) := by omega
          have i2 : (k : Int) < (nm : Int) := by omega
          clear hgk hls hbl hpm
          go_wp2_with fail
          (with_reducible refine HR.out.mono ?_); rintro e w8 ⟨⟨v, rfl, hrow⟩, hr8, he8⟩
          have hls8 : LS w8 ga (ga + 1 + 1) g ga (left2 S (k + 1)) (S.with2 k) vp vq qs := HLS.out.eat he8 hr8
          have hbl8 := he8.bel HBL.out (by omega) (by have h1 := HBL.out.size; have h2 := HGA.out; omega)
          obtain ⟨ni, hni⟩ : ∃ ni, m.parts.length = ni := ⟨_, rfl⟩
          rw [hni] at hrow
          obtain ⟨Ai, ci, rfl, hci⟩ := own_form hrow
          have hpt8 : PartsAt w8 (.slice Ai ni ci) m.parts := PartsAt.of_own (B := wr.heap.size) (by rw [hni]; exact hrow)
          have hvb : ∀ b, vq.ownBlock = some b → b < w8.heap.size := fun b hb => by obtain ⟨_, cs, hcs⟩ := own_block_type hls8.own.hq hb; exact blk_lt hcs
          have HVB := Lib.hid hvb; clear hvb
          have hX := blk_new w8 (.cells #[.int .i64 m.id, .int .i64 m.day, .int .i64 m.amt, .slice Ai ni ci, .int .i64 m.rest, .bool m.rev] 110) rfl
          have hXb : Below w8.heap.size w8 (w8.alloc (.cells #[.int .i64 m.id, .int .i64 m.day, .int .i64 m.amt, .slice Ai ni ci, .int .i64 m.rest, .bool m.rev] 110)) := bnewU _ _
          have hls9 := hls8.below hXb
          have hbl9 : Below ga w (w8.alloc (.cells #[.int .i64 m.id, .int .i64 m.day, .int .i64 m.amt, .slice Ai ni ci, .int .i64 m.rest, .bool m.rev] 110)) := hbl8.trans (hXb.mono (by have h1 := hbl8.size; have h2 := HGA.out; omega))
          have hpt9 := hpt8.below hXb
          have HPA := Lib.hid (payment_any g ga (S.with2 k) vp vq qs m.id _ hls9.own hsz)
          rw [HPN.out] at HPA
          have a0 : (w8.alloc (.cells #[.int .i64 m.id, .int .i64 m.day, .int .i64 m.amt, .slice Ai ni ci, .int .i64 m.rest, .bool m.rev] 110)).cell? ⟨ga, 0, none⟩ = some (.pointer (some ⟨g, 0, none⟩)) := (blk_cell hls9.ba 0).trans rfl
          have hga9 := blk_lt hls9.ba
          have HX9 : Hid (LS _ ga (ga + 1 + 1) g ga (left2 S (k + 1)) (S.with2 k) vp vq qs ∧ _ ∧ PartsAt _ (.slice Ai ni ci) m.parts ∧ Below ga w _) := Lib.hid ⟨hls9, hX, hpt9, hbl9⟩
          have HNI := Lib.hid hni
          have hn60 : ni ≤ 60 := by rw [← hni]; exact HPM.out.len
          clear hr8 he8 hls8 hbl8 hrow hpt8 hX hXb hls9 hbl9 hpt9 hni HR hci
          go_wp2_with fail
          (with_reducible refine HPA.out.mono ?_); rintro e w10 ⟨rfl, hb10⟩
          obtain ⟨gm, hgm⟩ : ∃ gm, w8.heap.size = gm := ⟨_, rfl⟩
          have hx10 : LS w10 ga (ga + 1 + 1) g ga (left2 S (k + 1)) (S.with2 k) vp vq qs ∧ w10.heap[gm]? = some (pm6O m.id m.day m.amt (.slice Ai ni ci) m.rest m.rev) ∧ PartsAt w10 (.slice Ai ni ci) m.parts ∧ Below ga w w10 := by
            obtain ⟨q1, q2, q3, q4⟩ := HX9.out
            exact ⟨q1.below hb10, by rw [← hgm]; exact blk_below q2 hb10 (blk_lt q2), q3.below hb10, q4.trans (hb10.mono (by have h1 := q4.size; have h2 := HGA.out; omega))⟩
          have HX10 := Lib.hid hx10
          rw [hgm] at HVB
          clear hb10 hx10 HPA HX9 a0 hga9
          go_wp2_with fail
          refine (form_yes _).mono ?_; rintro e wx ⟨rfl, rfl⟩
          obtain ⟨y0, y1, y2, y3, y4, y5, y6⟩ := cells6U HX10.out.2.1
          have ygl := blk_lt HX10.out.2.1
          go_upto_block 4 with fail
          clear hgm
          go_cut [10, 12, 13] from 122 to 153 (fun v10 v12 v13 wc => v10 = .int .i64 m.rest ∧ LS wc ga (ga + 1 + 1) g ga (left2 S (k + 1)) (S.with2 k) vp vq qs ∧ wc.heap[gm]? = some (pm6O m.id m.day m.amt (.slice Ai ni ci) m.rest m.rev) ∧ PartsAt wc (.slice Ai ni ci) m.parts ∧ Below ga w wc)
          case first =>
            clear y0 y1 y2 y3 y4 y5 y6
            go_wp2_with fail
            go_loopg [10, 122] ni (fun gh v10 v122 wr => ∃ (j : Nat) (lf : Int), gh = ni - j ∧ j ≤ ni ∧ v10 = .int .i64 lf ∧ lf = m.amt - opens (m.parts.take j) ∧ v122 = .int .i64 j ∧ LS wr ga (ga + 1 + 1) g ga (left2 S (k + 1)) (S.with2 k) vp vq qs ∧ wr.heap[gm]? = some (pm6O m.id m.day m.amt (.slice Ai ni ci) m.rest m.rev) ∧ PartsAt wr (.slice Ai ni ci) m.parts ∧ Below ga w wr)
            case atStart => exact ⟨0, _, rfl, by omega, rfl, by simp [opens], rfl, HX10.out⟩
            case round =>
              obtain ⟨j, lf, hgj, hj, rfl, hlf, rfl, hP⟩ := hrel
              have HGJ := Lib.hid hgj; have HP := Lib.hid hP; have HLF := Lib.hid hlf
              by_cases hjt : j < ni
              · have hjl : j < m.parts.length := by have := HNI.out; omega
                obtain ⟨fi, hfi, hfp, hfd⟩ := part_found HG.out HPM.out (List.getElem_mem hjl)
                have hop := opens_takeV hjl
                have hle := opens_leV (fun x hx => (by have := (HPM.out.placed x hx).2.2; omega : 0 ≤ x.opn)) j hjl
                have hsum := HPM.out.sum; have hrn := HPM.out.rest; have hamt := HPM.out.amt
                have hox := (HPM.out.placed _ (List.getElem_mem hjl)).2.2
                obtain ⟨b2, o2, hA2, hb2, z0, z1, z2, z3⟩ := hP.2.2.1.rd.2.2.2.it hjl
                subst hA2
                have hlb : 0 ≤ lf ∧ m.parts[j].opn ≤ lf ∧ lf ≤ 1125899906842624 := by omega
                have HLF2 : Hid (lf - m.parts[j].opn = m.amt - opens (m.parts.take (j + 1))) := Lib.hid (by omega)
                generalize m.parts[j] = x at *
                have j1 : (0 : Int) ≤ (j : Int) := by omega
                have j2 : (j : Int) < (ni : Int) := by omega
                have hXb : Below wr.heap.size wr (wr.alloc (.cells #[.int .i64 x.due, .int .i64 x.kind, .int .i64 x.per, .int .i64 x.opn] 58)) := bnewU _ _
                have hX := blk_new wr (.cells #[.int .i64 x.due, .int .i64 x.kind, .int .i64 x.per, .int .i64 x.opn] 58) rfl
                have hls1 := hP.1.below hXb
                have hbm1 := blk_below hP.2.1 hXb (blk_lt hP.2.1)
                have hpt1 := hP.2.2.1.below hXb
                have hbl1 : Below ga w (wr.alloc (.cells #[.int .i64 x.due, .int .i64 x.kind, .int .i64 x.per, .int .i64 x.opn] 58)) := hP.2.2.2.trans (hXb.mono (by have h1 := hP.2.2.2.size; have h2 := HGA.out; omega))
                have HF := Lib.hid (find_any g ga (S.with2 k) vp vq qs x.per _ hls1.own (by show S.ps.length ≤ 1000; have := HNP.out; omega))
                have a0 : (wr.alloc (.cells #[.int .i64 x.due, .int .i64 x.kind, .int .i64 x.per, .int .i64 x.opn] 58)).cell? ⟨ga, 0, none⟩ = some (.pointer (some ⟨g, 0, none⟩)) := (blk_cell hls1.ba 0).trans rfl
                have hga1 := blk_lt hls1.ba
                have HX1 := Lib.hid hX; have HLS1 := Lib.hid hls1; have HBM1 := Lib.hid hbm1; have HPT1 := Lib.hid hpt1; have HBL1 := Lib.hid hbl1
                have HFP := Lib.hid hfp; have HFD := Lib.hid hfd
                clear hgj hP hlf hop hle hsum hrn hamt hXb hX hls1 hbm1 hpt1 hbl1 hfp hfd
                go_wp2_with fail
                (with_reducible refine HF.out.mono ?_); rintro e w11 ⟨hb11, hres⟩
                obtain ⟨gp, cap, rfl, hvp, hi2⟩ : ∃ gp cap, e = .returned (.pointer (some ⟨gp, fi * 11, none⟩)) ∧ vp = .slice (some ⟨gp, 0, none⟩) S.ps.length cap ∧ True := by
                  have hfp := HFP.out
                  rcases hres with ⟨h1, _⟩ | ⟨gp, cap, i, h1, h2, h3, h4⟩
                  · have h1' : S.place x.per = -1 := h1
                    omega
                  · have h3' : S.place x.per = (i : Int) := h3
                    have : i = fi := by omega
                    subst this
                    exact ⟨gp, cap, h4, h1, trivial⟩
                obtain ⟨gi, hgi⟩ : ∃ gi, wr.heap.size = gi := ⟨_, rfl⟩
                have hx11 : LS w11 ga (ga + 1 + 1) g ga (left2 S (k + 1)) (S.with2 k) vp vq qs ∧ w11.heap[gm]? = some (pm6O m.id m.day m.amt (.slice (some ⟨b2, o2, none⟩) ni ci) m.rest m.rev) ∧ PartsAt w11 (.slice (some ⟨b2, o2, none⟩) ni ci) m.parts ∧ Below ga w w11 :=
                  ⟨HLS1.out.below hb11, blk_below HBM1.out hb11 (blk_lt HBM1.out), HPT1.out.below hb11, HBL1.out.trans (hb11.mono (by have h1 := HBL1.out.size; have h2 := HGA.out; omega))⟩
                have hi11 : w11.heap[gi]? = some (.cells #[.int .i64 x.due, .int .i64 x.kind, .int .i64 x.per, .int .i64 x.opn] 58 (0, 0)) := by rw [← hgi]; exact blk_below HX1.out hb11 (blk_lt HX1.out)
                obtain ⟨gp', cap', e5, hgpl, _, hpat⟩ := hx11.1.own.per (i := fi) hfi
                have e6 := hvp.symm.trans e5
                injection e6 with e6 _ _; injection e6 with e6; injection e6 with e6 _ _; subst e6
                have p1 : w11.cell? ⟨gp, fi * 11 + 1, none⟩ = some (.int .i64 x.due) := by rw [hpat.c 1 (by omega)]; show some (Value.int .i64 (S.ps[fi]).ret.due) = _; rw [HFD.out]
                obtain ⟨t0, t1, t2, t3, t4⟩ := cells4G hi11
                have hgil := blk_lt hi11
                have HX11 := Lib.hid hx11
                have d1 : decide (x.opn ≤ lf) = true := by simpa using hlb.2.1
                have hw1 : IntKind.i64.wrap (lf - x.opn) = lf - x.opn := IntWalk.i64_in _ (by omega)
                clear hb11 hres hi2 hx11 hi11 e5 hpat HF HX1 HLS1 HBM1 HPT1 HBL1 a0 hga1 hvp
                go_wp2_with fail
                clear hgi
                go_quiet ((go_at_call 85; exact Calls.quiet_of_same (form_yes _)))
                have hbq : Below w11.heap.size w11 (w11.drewN nq) := below_drewN (Below.refl _ _) _
                have HX12 : Hid (LS (w11.drewN nq) ga (ga + 1 + 1) g ga (left2 S (k + 1)) (S.with2 k) vp vq qs ∧ (w11.drewN nq).heap[gm]? = some (pm6O m.id m.day m.amt (.slice (some ⟨b2, o2, none⟩) ni ci) m.rest m.rev) ∧ PartsAt (w11.drewN nq) (.slice (some ⟨b2, o2, none⟩) ni ci) m.parts ∧ Below ga w (w11.drewN nq)) := Lib.hid ⟨HX11.out.1.below hbq, HX11.out.2.1, HX11.out.2.2.1.below hbq, below_drewN HX11.out.2.2.2 _⟩
                clear hbq p1
                all_goals go_wp2_with fail
                all_goals go_roundg (ni - (j + 1))
                all_goals first
                  | exact ⟨j + 1, _, rfl, by omega, rfl, HLF2.out, by go_num, HX12.out⟩
                  | (have := HGJ.out; omega)
              · have hjn : j = ni := by omega
                subst hjn
                have hlr : lf = m.rest := by
                  have h1 := HPM.out.sum
                  rw [HLF.out, List.take_of_length_le (by rw [HNI.out]; exact Nat.le_refl _)]; omega
                clear hgj hP hlf
                subst hlr
                go_wp2_with fail
                all_goals go_meet
                all_goals exact ⟨rfl, HP.out⟩
          case rest =>
            obtain ⟨rfl, hls, hbm, hpt, hbl⟩ := hcut
            obtain ⟨t0, t1, t2, t3, t4, t5, t6⟩ := cells6U hbm
            have hgml := blk_lt hbm
            have HLSC := Lib.hid hls; have HBMC := Lib.hid hbm; have HPTC := Lib.hid hpt; have HBLC := Lib.hid hbl
            clear hls hbm hpt hbl y0 y1 y2 y3 y4 y5 y6 HX10 ygl
            go_wp2_with fail
            refine (form_yes _).mono ?_; rintro e wx ⟨rfl, rfl⟩
            go_upto_region 27 with fail
            clear t0 t1 t2 t3 t4 t5 t6
            have hlx : LS wx.drew ga (ga + 1 + 1) g ga (left2 S (k + 1)) (S.with2 k) vp vq qs := HLSC.out.below (Below.refl _ _).drew
            have hpx : PartsAt wx.drew (.slice Ai ni ci) m.parts := HPTC.out.below (Below.refl _ _).drew
            obtain ⟨Aq, kq, rfl, _⟩ := own_form hlx.own.hq
            have e1 : (S.with2 k).ms.length = k := HTL.out
            have hrow : wx.drew.ownsRow ga 110 6 (.slice Aq k kq) k (pmCs qs) := by
              have := hlx.own.hq
              rw [e1] at this; exact this
            obtain ⟨z0, z1, z2, z3, z4, z5⟩ := cells5U (w := wx) hlx.own.hg
            rw [e1] at z4
            obtain ⟨t0, t1, t2, t3, t4, t5, t6⟩ := cells6U HBMC.out
            have a0 : wx.cell? ⟨ga, 0, none⟩ = some (.pointer (some ⟨g, 0, none⟩)) := (blk_cell (w := wx) hlx.ba 0).trans rfl
            have l1 : ga < wx.heap.size := blk_lt hlx.ba; have l2 : g < wx.heap.size := blk_lt hlx.own.hg
            have hBs : ga ≤ wx.heap.size := by omega
            have HNE : Hid (ga ≠ g ∧ gm ≠ g) := Lib.hid ⟨ne_of_type' hlx.ba hlx.own.hg (by decide), ne_of_type' (w := wx) HBMC.out hlx.own.hg (by decide)⟩
            have HLX := Lib.hid hlx; have HRW := Lib.hid hrow; have HE1 := Lib.hid e1; have HPX := Lib.hid hpx
            clear hlx hrow e1 hpx
            -- <heavy>
            refine Code.wp_mono (noPan_le _) ?_
            have hne1 : ga ≠ g := HNE.out.1
            have hne2 : gm ≠ g := HNE.out.2
            refine wp_region_held_drew (S := fun w' => w'.cell? ⟨ga, 0, none⟩ = some (.pointer (some ⟨g, 0, none⟩)) ∧ w'.cell? ⟨gm, 0, none⟩ = some (.int .i64 m.id) ∧ w'.cell? ⟨gm, 1, none⟩ = some (.int .i64 m.day) ∧ w'.cell? ⟨gm, 2, none⟩ = some (.int .i64 m.amt) ∧ w'.cell? ⟨gm, 3, none⟩ = some (.slice Ai ni ci) ∧ w'.cell? ⟨gm, 4, none⟩ = some (.int .i64 m.rest) ∧ w'.cell? ⟨gm, 5, none⟩ = some (.bool m.rev)) (by kernel_rfl) ⟨a0, t0, t1, t2, t3, t4, t5⟩ (fun hHeld => ?_)
            refine wpAnyH_take (i := 0) (v := ?vb1) rfl (by kernel_rfl) (by kernel_rfl) (by kernel_rfl) (fun _ _ _ h => h) (Or.inl ⟨by rfl, ?hb1⟩) (by assumption) ?_
            case hb1 => intro w hSw; (try dsimp only at hSw); go_simp; first | done | with_reducible rfl
            simp only [Act.put, List.setIfInBounds_toArray, List.set_cons_zero, List.set_cons_succ]
            refine wpAnyH_take (i := 1) (v := ?vb2) rfl (by kernel_rfl) (by kernel_rfl) (by kernel_rfl) (fun _ _ _ h => h) (Or.inl ⟨by rfl, ?hb2⟩) (by assumption) ?_
            case hb2 => intro w hSw; (try dsimp only at hSw); go_simp; first | done | with_reducible rfl
            simp only [Act.put, List.setIfInBounds_toArray, List.set_cons_zero, List.set_cons_succ]
            refine wpAnyH_take (i := 2) (v := ?vb3) rfl (by kernel_rfl) (by kernel_rfl) (by kernel_rfl) (fun _ _ _ h => h) (Or.inl ⟨by rfl, ?hb3⟩) (by assumption) ?_
            case hb3 => intro w hSw; (try dsimp only at hSw); go_simp; first | done | with_reducible rfl
            simp only [Act.put, List.setIfInBounds_toArray, List.set_cons_zero, List.set_cons_succ]
            refine wpAnyH_take (i := 3) (v := ?vb4) rfl (by kernel_rfl) (by kernel_rfl) (by kernel_rfl) (fun _ _ _ h => h) (Or.inl ⟨by rfl, ?hb4⟩) (by assumption) ?_
            case hb4 => intro w hSw; (try dsimp only at hSw); go_simp; first | done | with_reducible rfl
            simp only [Act.put, List.setIfInBounds_toArray, List.set_cons_zero, List.set_cons_succ]
            refine wpAnyH_take (i := 5) (v := ?vb5) rfl (by kernel_rfl) (by kernel_rfl) (by kernel_rfl) (fun _ _ _ h => h) (Or.inl ⟨by rfl, ?hb5⟩) (by assumption) ?_
            case hb5 => intro w hSw; (try dsimp only at hSw); go_simp; first | done | with_reducible rfl
            simp only [Act.put, List.setIfInBounds_toArray, List.set_cons_zero, List.set_cons_succ]
            refine wpAnyH_ready (rs := [4, 6]) (by kernel_rfl) (by simp) ?_
            refine AllReadyH.cons rfl (fun K hK => ?_) (AllReadyH.cons rfl (fun K hK => ?_) AllReadyH.nil)
            · go_simp
              refine hK.out _ _ ⟨a0, t0, t1, t2, t3, t4, t5⟩ (fun hHeld => ?_)
              clear hK K
              refine wpAnyH_ready (rs := [6]) (by kernel_rfl) (by simp) ?_
              refine AllReadyH.cons rfl (fun K hK => ?_) AllReadyH.nil
              go_simp
              refine hK.out _ _ ⟨(blk_cell (blk_alloc (w := wx.drew) HLX.out.ba _) 0).trans rfl, (cells6U (blk_alloc (w := wx.drew) HBMC.out _)).1, (cells6U (blk_alloc (w := wx.drew) HBMC.out _)).2.1, (cells6U (blk_alloc (w := wx.drew) HBMC.out _)).2.2.1, (cells6U (blk_alloc (w := wx.drew) HBMC.out _)).2.2.2.1, (cells6U (blk_alloc (w := wx.drew) HBMC.out _)).2.2.2.2.1, (cells6U (blk_alloc (w := wx.drew) HBMC.out _)).2.2.2.2.2.1⟩ (fun hHeld => ?_)
              clear hK K
              refine wpAnyH_ready (rs := [7]) (by kernel_rfl) (by simp) ?_
              refine AllReadyH.cons rfl (fun K hK => ?_) AllReadyH.nil
              refine step_app rfl (.tmp 163) (.tmp 165) 81 rfl ga 110 j0 _ 6 64 Tryz.underlying81 HJ.out hw0 hw1 hw2 rfl (by omega) (.slice Aq k kq) k (pmCs qs) rfl (HRW.out.alloc _) _ (some ⟨wx.heap.size, 0, none⟩) 1 1 _ rfl (Rd.new (w := wx.drew) (cs := #[.int .i64 m.id, .int .i64 m.day, .int .i64 m.amt, .slice Ai ni ci, .int .i64 m.rest, .bool m.rev]) (t := 110) rfl rfl) (by intro u hu; simp at hu; rcases hu with rfl | rfl | rfl | rfl | rfl | rfl <;> rfl) (by unfold maxLen; omega) (by omega) (by simp; omega) ?_
              intro v5 w5 hO hgr hat
              have hE := ls_pm (pm := m) (v := .slice Ai ni ci) HLX.out HPX.out hBs (by rw [HE1.out]; exact hgr) (by rw [HE1.out]; exact hO)
              have hg5 := own_far_type (HRW.out.alloc _) hgr (blk_alloc HLX.out.own.hg _) (by decide)
              have ha5 := own_far_type (HRW.out.alloc _) hgr (blk_alloc HLX.out.ba _) (by decide)
              have hx5 := (hgr.block gm (Nat.lt_of_lt_of_le hgml (by simp)) (fun e => absurd (HVB.out gm (by rw [HE1.out]; exact e.symm)) (Nat.lt_irrefl _))).trans (blk_alloc (w := wx.drew) HBMC.out _)
              obtain ⟨f0, f1, f2, f3, f4, f5⟩ := cells5U hg5
              have f6 : w5.cell? ⟨ga, 0, none⟩ = some (.pointer (some ⟨g, 0, none⟩)) := (blk_cell ha5 0).trans rfl
              have f7 := blk_lt hg5; have f8 := blk_lt ha5
              obtain ⟨A5, k5, rfl, _⟩ := own_form hO
              have HEND := Lib.hid hE; have HA5 := Lib.hid ha5; have HX5 := Lib.hid hx5
              clear hO hgr hat hE hg5 ha5 hx5
              refine hK.out _ _ ⟨f6, (cells6U HX5.out).1, (cells6U HX5.out).2.1, (cells6U HX5.out).2.2.1, (cells6U HX5.out).2.2.2.1, (cells6U HX5.out).2.2.2.2.1, (cells6U HX5.out).2.2.2.2.2.1⟩ (fun hHeld => ?_)
              clear hK K
              refine wpAnyH_take (i := 8) (v := ?vb6) rfl (by kernel_rfl) (by kernel_rfl) (by kernel_rfl) (fun _ _ _ h => h) (Or.inl ⟨by rfl, ?hb6⟩) (by assumption) ?_
              case hb6 => intro w hSw; (try dsimp only at hSw); go_simp; first | done | with_reducible rfl
              simp only [Act.put, List.setIfInBounds_toArray, List.set_cons_zero, List.set_cons_succ]
              refine wpAnyH_take (i := 9) (v := ?vb7) rfl (by kernel_rfl) (by kernel_rfl) (by kernel_rfl) (fun _ _ _ h => h) (Or.inl ⟨by rfl, ?hb7⟩) (by assumption) ?_
              case hb7 => intro w hSw; (try dsimp only at hSw); go_simp; first | done | with_reducible rfl
              simp only [Act.put, List.setIfInBounds_toArray, List.set_cons_zero, List.set_cons_succ]
              refine wpAnyH_ready (rs := [10]) (by kernel_rfl) (by simp) ?_
              refine AllReadyH.cons rfl (fun K hK => ?_) AllReadyH.nil
              go_simp
              refine hK.out _ _ ⟨(blk_cell (blk_far HA5.out hne1 _) 0).trans rfl, (cells6U (blk_far HX5.out hne2 _)).1, (cells6U (blk_far HX5.out hne2 _)).2.1, (cells6U (blk_far HX5.out hne2 _)).2.2.1, (cells6U (blk_far HX5.out hne2 _)).2.2.2.1, (cells6U (blk_far HX5.out hne2 _)).2.2.2.2.1, (cells6U (blk_far HX5.out hne2 _)).2.2.2.2.2.1⟩ (fun hHeld => ?_)
              clear hK K
              refine wpAnyH_done (by kernel_rfl) ?_ _
              clear hHeld
              simp only [noPan]
              clear t0 t1 t2 t3 t4 t5 t6 z0 z1 z2 z3 z4 z5 a0 f0 f1 f2 f3 f4 f5 f6
              go_wp2_with fail
              all_goals go_wp2_with fail
              all_goals go_roundg (nm - (k + 1))
              all_goals first
                | exact ⟨k + 1, _, _, rfl, by omega, by go_num, by rw [show S.with2 (k + 1) = { S.with2 k with ms := (S.with2 k).ms ++ [m] } by show ({ day := S.day, bp := S.bp, cr := S.cr, ps := S.ps, ms := S.ms.take (k + 1) } : Ac) = _; rw [HTK.out]]; exact HEND.out.1, HBLC.out.drew.trans HEND.out.2⟩
                | (have := HGK.out; omega)
            · go_simp
              refine hK.out _ _ ⟨(blk_cell (blk_alloc (w := wx.drew) HLX.out.ba _) 0).trans rfl, (cells6U (blk_alloc (w := wx.drew) HBMC.out _)).1, (cells6U (blk_alloc (w := wx.drew) HBMC.out _)).2.1, (cells6U (blk_alloc (w := wx.drew) HBMC.out _)).2.2.1, (cells6U (blk_alloc (w := wx.drew) HBMC.out _)).2.2.2.1, (cells6U (blk_alloc (w := wx.drew) HBMC.out _)).2.2.2.2.1, (cells6U (blk_alloc (w := wx.drew) HBMC.out _)).2.2.2.2.2.1⟩ (fun hHeld => ?_)
              clear hK K
              refine wpAnyH_ready (rs := [4]) (by kernel_rfl) (by simp) ?_
              refine AllReadyH.cons rfl (fun K hK => ?_) AllReadyH.nil
              go_simp
              refine hK.out _ _ ⟨(blk_cell (blk_alloc (w := wx.drew) HLX.out.ba _) 0).trans rfl, (cells6U (blk_alloc (w := wx.drew) HBMC.out _)).1, (cells6U (blk_alloc (w := wx.drew) HBMC.out _)).2.1, (cells6U (blk_alloc (w := wx.drew) HBMC.out _)).2.2.1, (cells6U (blk_alloc (w := wx.drew) HBMC.out _)).2.2.2.1, (cells6U (blk_alloc (w := wx.drew) HBMC.out _)).2.2.2.2.1, (cells6U (blk_alloc (w := wx.drew) HBMC.out _)).2.2.2.2.2.1⟩ (fun hHeld => ?_)
              clear hK K
              refine wpAnyH_ready (rs := [7]) (by kernel_rfl) (by simp) ?_
              refine AllReadyH.cons rfl (fun K hK => ?_) AllReadyH.nil
              refine step_app rfl (.tmp 163) (.tmp 165) 81 rfl ga 110 j0 _ 6 64 Tryz.underlying81 HJ.out hw0 hw1 hw2 rfl (by omega) (.slice Aq k kq) k (pmCs qs) rfl (HRW.out.alloc _) _ (some ⟨wx.heap.size, 0, none⟩) 1 1 _ rfl (Rd.new (w := wx.drew) (cs := #[.int .i64 m.id, .int .i64 m.day, .int .i64 m.amt, .slice Ai ni ci, .int .i64 m.rest, .bool m.rev]) (t := 110) rfl rfl) (by intro u hu; simp at hu; rcases hu with rfl | rfl | rfl | rfl | rfl | rfl <;> rfl) (by unfold maxLen; omega) (by omega) (by simp; omega) ?_
              intro v5 w5 hO hgr hat
              have hE := ls_pm (pm := m) (v := .slice Ai ni ci) HLX.out HPX.out hBs (by rw [HE1.out]; exact hgr) (by rw [HE1.out]; exact hO)
              have hg5 := own_far_type (HRW.out.alloc _) hgr (blk_alloc HLX.out.own.hg _) (by decide)
              have ha5 := own_far_type (HRW.out.alloc _) hgr (blk_alloc HLX.out.ba _) (by decide)
              have hx5 := (hgr.block gm (Nat.lt_of_lt_of_le hgml (by simp)) (fun e => absurd (HVB.out gm (by rw [HE1.out]; exact e.symm)) (Nat.lt_irrefl _))).trans (blk_alloc (w := wx.drew) HBMC.out _)
              obtain ⟨f0, f1, f2, f3, f4, f5⟩ := cells5U hg5
              have f6 : w5.cell? ⟨ga, 0, none⟩ = some (.pointer (some ⟨g, 0, none⟩)) := (blk_cell ha5 0).trans rfl
              have f7 := blk_lt hg5; have f8 := blk_lt ha5
              obtain ⟨A5, k5, rfl, _⟩ := own_form hO
              have HEND := Lib.hid hE; have HA5 := Lib.hid ha5; have HX5 := Lib.hid hx5
              clear hO hgr hat hE hg5 ha5 hx5
              refine hK.out _ _ ⟨f6, (cells6U HX5.out).1, (cells6U HX5.out).2.1, (cells6U HX5.out).2.2.1, (cells6U HX5.out).2.2.2.1, (cells6U HX5.out).2.2.2.2.1, (cells6U HX5.out).2.2.2.2.2.1⟩ (fun hHeld => ?_)
              clear hK K
              refine wpAnyH_take (i := 8) (v := ?vb8) rfl (by kernel_rfl) (by kernel_rfl) (by kernel_rfl) (fun _ _ _ h => h) (Or.inl ⟨by rfl, ?hb8⟩) (by assumption) ?_
              case hb8 => intro w hSw; (try dsimp only at hSw); go_simp; first | done | with_reducible rfl
              simp only [Act.put, List.setIfInBounds_toArray, List.set_cons_zero, List.set_cons_succ]
              refine wpAnyH_take (i := 9) (v := ?vb9) rfl (by kernel_rfl) (by kernel_rfl) (by kernel_rfl) (fun _ _ _ h => h) (Or.inl ⟨by rfl, ?hb9⟩) (by assumption) ?_
              case hb9 => intro w hSw; (try dsimp only at hSw); go_simp; first | done | with_reducible rfl
              simp only [Act.put, List.setIfInBounds_toArray, List.set_cons_zero, List.set_cons_succ]
              refine wpAnyH_ready (rs := [10]) (by kernel_rfl) (by simp) ?_
              refine AllReadyH.cons rfl (fun K hK => ?_) AllReadyH.nil
              go_simp
              refine hK.out _ _ ⟨(blk_cell (blk_far HA5.out hne1 _) 0).trans rfl, (cells6U (blk_far HX5.out hne2 _)).1, (cells6U (blk_far HX5.out hne2 _)).2.1, (cells6U (blk_far HX5.out hne2 _)).2.2.1, (cells6U (blk_far HX5.out hne2 _)).2.2.2.1, (cells6U (blk_far HX5.out hne2 _)).2.2.2.2.1, (cells6U (blk_far HX5.out hne2 _)).2.2.2.2.2.1⟩ (fun hHeld => ?_)
              clear hK K
              refine wpAnyH_done (by kernel_rfl) ?_ _
              clear hHeld
              simp only [noPan]
              clear t0 t1 t2 t3 t4 t5 t6 z0 z1 z2 z3 z4 z5 a0 f0 f1 f2 f3 f4 f5 f6
              go_wp2_with fail
              all_goals go_wp2_with fail
              all_goals go_roundg (nm - (k + 1))
              all_goals first
                | exact ⟨k + 1, _, _, rfl, by omega, by go_num, by rw [show S.with2 (k + 1) = { S.with2 k with ms := (S.with2 k).ms ++ [m] } by show ({ day := S.day, bp := S.bp, cr := S.cr, ps := S.ps, ms := S.ms.take (k + 1) } : Ac) = _; rw [HTK.out]]; exact HEND.out.1, HBLC.out.drew.trans HEND.out.2⟩
                | (have := HGK.out; omega)
            -- </heavy>
        · have hkn : k = nm := by omega
          subst hkn
          have hlast : left2 S k = [] := by rw [← HNM.out, left2_last]
          have htk : S.with2 k = S := by
            show ({ day := S.day, bp := S.bp, cr := S.cr, ps := S.ps, ms := S.ms.take k } : Ac) = S
            rw [List.take_of_length_le (by rw [HNM.out]; exact Nat.le_refl _)]
          rw [hlast, htk] at HLS
          clear hgk hls hbl hlast htk
          go_wp2_with fail
          all_goals go_meet
          all_goals exact ⟨vp, vq, qs, HLS.out, HBL.out⟩
    case rest =>
      obtain ⟨vp, vq, qs, hls, hbl⟩ := hcut
      obtain ⟨Ar, cr, hrv⟩ := hls.r
      have hz : (numsB []).length = 0 := rfl
      have q0 := (blk_cell hrv.hg 0)
      have q1 : wc.cell? ⟨ga + 1 + 1, 0, none⟩ = some (.slice Ar 0 cr) := q0.trans rfl
      have q2 := blk_lt hrv.hg
      obtain ⟨a0, a1⟩ : wc.cell? ⟨ga, 0, none⟩ = some (.pointer (some ⟨g, 0, none⟩)) ∧ wc.frozen? ⟨ga, 0, none⟩ = false := ⟨(blk_cell hls.ba 0).trans rfl, blk_free hls.ba 0⟩
      obtain ⟨b0, b1⟩ : wc.cell? ⟨ga + 1, 0, none⟩ = some (.int .i64 0) ∧ wc.frozen? ⟨ga + 1, 0, none⟩ = false := ⟨(blk_cell hls.be 0).trans rfl, blk_free hls.be 0⟩
      have l1 := blk_lt hls.ba; have l2 := blk_lt hls.be
      have HLS := Lib.hid hls; have HBL := Lib.hid hbl
      clear hls hbl hrv hz q0 HLS7 HBL7
      go_wp2_with fail
      refine (form_yes _).mono ?_; rintro e wx ⟨rfl, rfl⟩
      go_wp2_with fail
      obtain ⟨k1, k2, k3, k4⟩ := ls_last HLS.out HBL.out
      refine leaves_cons (f := 79) (args := #[.pointer (some ⟨ga, 0, none⟩), .pointer (some ⟨ga + 1, 0, none⟩)]) (by simp) (by simp [go_sem]) ?_
      refine (catchL_idle ga (ga + 1) _).mono ?_
      rintro e u' w'' ⟨rfl, rfl, rfl⟩
      exact ⟨_, results_load rfl _ _ ga (ga + 1) _ _ rfl rfl (load_acptr _ _ _ k1) (load_errno _ _ _ k2), ⟨g, rfl, by omega, k3, by rw [HGA.out]; exact k4⟩⟩
end Go.Proofs.YtbjjgnaojoaoiaaGreat
