/- Laws. -/
import Derived.Test.YtbjjgnaojoaoiaaGreatZZ21
namespace Go.Proofs.YtbjjgnaojoaoiaaGreat
open Go.RowKit Go
set_option linter.unusedVariables false
set_option linter.unusedSimpArgs false
set_option maxHeartbeats 6400000
set_option maxRecDepth 100000
theorem err_end {w w1 : World} {g B gm : Nat} {S S' : Ac} {m : Mv} {er : Int} {x0 x1 x2 x3 x4 x5 : Value} (hb : Below w.heap.size w w1) (h : OwnAt w B g S) (he : er ≠ 0) (hm : w1.heap[gm]? = some (.cells #[x0, x1, x2, x3, x4, x5] 33 (0, 0))) (hgm : w.heap.size ≤ gm) :
  (put6 w1 gm Mv.zero).heap[gm]? = some (.cells #[.int .i64 Mv.zero.c0, .int .i64 Mv.zero.c1, .int .i64 Mv.zero.c2, .int .i64 Mv.zero.paid, .int .i64 Mv.zero.cr, .int .i64 Mv.zero.cash] 33 (0, 0)) ∧ DoesOf w g S (S', m, er) (.returned (mvR Mv.zero er)) (put6 w1 gm Mv.zero) := by
 have e1 := put6_at hm Mv.zero
 have e2 := DoesOf.wrap (Below.refl _ _) (does_err (S' := S') (m := m) hb h he) hm hgm
 generalize put6 w1 gm Mv.zero = W at *
 exact ⟨e1, e2⟩
theorem pay_any0 (g B : Nat) (S : Ac) (id a : Int) (w : World) (h : OwnAt w B g S) (hG : Good S) :
  Calls Tryz.prog 15 #[.pointer (some ⟨g, 0, none⟩), .int .i64 id, .int .i64 a] w (DoesOf w g S (payS S id a)) := by
 have hgl := h.lt
 have HV := hyd h
 have hb0 : Below w.heap.size w (((w.alloc (.cells #[.int .i64 id] 3)).alloc (.cells #[.int .i64 a] 2)).alloc (.cells #[.int .i64 0, .int .i64 0, .int .i64 0, .int .i64 0, .int .i64 0, .int .i64 0] 33)) := (((Below.refl _ _).alloc (Nat.le_refl _) _).alloc (by simp) _).alloc (by simp; omega) _
 have hbi := blk_alloc (blk_alloc (blk_new w (.cells #[.int .i64 id] 3) rfl) (.cells #[.int .i64 a] 2)) (.cells #[.int .i64 0, .int .i64 0, .int .i64 0, .int .i64 0, .int .i64 0, .int .i64 0] 33)
 have hba := blk_alloc (blk_new (w.alloc (.cells #[.int .i64 id] 3)) (.cells #[.int .i64 a] 2) rfl) (.cells #[.int .i64 0, .int .i64 0, .int .i64 0, .int .i64 0, .int .i64 0, .int .i64 0] 33)
 have hm0 := blk_new ((w.alloc (.cells #[.int .i64 id] 3)).alloc (.cells #[.int .i64 a] 2)) (.cells #[.int .i64 0, .int .i64 0, .int .i64 0, .int .i64 0, .int .i64 0, .int .i64 0] 33) rfl
 simp only [World.size_alloc] at hba hm0
 have hz0 : (((w.alloc (.cells #[.int .i64 id] 3)).alloc (.cells #[.int .i64 a] 2)).alloc (.cells #[.int .i64 0, .int .i64 0, .int .i64 0, .int .i64 0, .int .i64 0, .int .i64 0] 33)).heap.size = w.heap.size + 3 := by simp
 have HM0 := hyd hm0; have HB0 := hyd hb0; have HI0 := hyd hbi; have HA0 := hyd hba; have HZ0 := hyd hz0
 have HG := hyd hG
 obtain ⟨vp, vq, qs, hov⟩ := h
 have hov0 := hov.below hb0
 have HOV := hyd hov
 have HPM := hyd (fun (wx : World) hv => payment_any g B S vp vq qs id wx hv hG.small.1)
 obtain ⟨a0, a1, a2, a3, a4, a5⟩ := cells5U hov.hg
 obtain ⟨Aq, cq, rfl, hqc, _⟩ := hov.rdq
 have hmsl := hG.nm
 have n1 : w.heap.size + 2 ≠ g := by omega
 have n1' : w.heap.size + 1 + 1 ≠ g := by omega
 have n2 : g ≠ w.heap.size := by omega
 have n3 : g ≠ w.heap.size + 1 := by omega
 have n4 : g ≠ w.heap.size + 1 + 1 := by omega
 have hmf : ∀ (fn : Fn) (first cap : Array Value) (w : World), (Instr.makeFunc fn first cap).run Tryz.prog w = .ok (.func fn first cap) w := fun _ _ _ _ => rfl
 have HO : Hid (payS S id a = if ¬ ((1 ≤ id ∧ id ≤ 1099511627776) ∧ 1 ≤ a ∧ a ≤ 1125899906842624) then (S, Mv.zero, 1) else if 0 ≤ S.pay id then (S, Mv.zero, 5) else if 50 ≤ S.ms.length then (S, Mv.zero, 2) else pay1 S id a) := hyd rfl
 have HOA := hyd (HV.out.below hb0)
 clear hov hb0 hbi hba hm0 a0 a1 a2 a3 hG hz0
 by_cases h1 : 1 ≤ id ∧ id ≤ 1099511627776
 · have HY1 := hyd (fun wx => uwithin_yes id 1 1099511627776 wx h1)
   by_cases h2 : 1 ≤ a ∧ a ≤ 1125899906842624
   · have HY2 := hyd (fun wx => uwithin64_yes a 1 1125899906842624 wx h2)
     have HO1 := HO.out
     rw [if_neg (by simp; omega)] at HO1
     have H2 := hyd h2
     clear h1 h2 HO
     by_cases h3 : 0 ≤ S.pay id
     · rw [if_pos h3] at HO1
       have HO2 := hyd HO1
       have h3' : decide (S.pay id ≥ 0) = true := by simpa using h3
       clear HO1 h3
       go_enter Tryz.func15, Tryz.ntmps15
       go_wp2_with fail
       refine (HY1.out _).mono ?_; rintro e w1 ⟨rfl, rfl⟩
       go_wp2_with fail
       refine (HY2.out _).mono ?_; rintro e w1 ⟨rfl, rfl⟩
       go_wp2_with fail
       refine (HPM.out _ hov0).mono ?_; rintro e w1 ⟨rfl, hb1⟩
       have HM1 := hyd (blk_below HM0.out hb1 (blk_lt HM0.out))
       obtain ⟨m0, m1, m2, m3, m4, m5, m6⟩ := cells6U HM1.out
       have HB1 := hyd (HB0.out.trans (hb1.mono (by have := HZ0.out; omega)))
       have hml := blk_lt HM1.out
       clear hb1 hov0
       go_wp2_with fail
       have HE := hyd (err_end (S' := S) (m := Mv.zero) HB1.out HV.out (show (5 : Int) ≠ 0 by decide) HM1.out (by omega))
       rw [HO2.out]
       exact mv_ret Mv.zero 5 (w.heap.size + 1 + 1) rfl rfl rfl HE.out.1 HE.out.2
     · rw [if_neg h3] at HO1
       have h3' : decide (S.pay id ≥ 0) = false := by simp; omega
       by_cases h4 : 50 ≤ S.ms.length
       · rw [if_pos h4] at HO1
         have HO2 := hyd HO1
         have h4' : decide ((S.ms.length : Int) ≥ 50) = true := by simp; omega
         clear HO1 h3
         go_enter Tryz.func15, Tryz.ntmps15
         go_wp2_with fail
         refine (HY1.out _).mono ?_; rintro e w1 ⟨rfl, rfl⟩
         go_wp2_with fail
         refine (HY2.out _).mono ?_; rintro e w1 ⟨rfl, rfl⟩
         go_wp2_with fail
         refine (HPM.out _ hov0).mono ?_; rintro e w1 ⟨rfl, hb1⟩
         have HM1 := hyd (blk_below HM0.out hb1 (blk_lt HM0.out))
         obtain ⟨m0, m1, m2, m3, m4, m5, m6⟩ := cells6U HM1.out
         obtain ⟨_, _, _, _, b4, _⟩ := cells5U (hov0.below hb1).hg
         have HB1 := hyd (HB0.out.trans (hb1.mono (by have := HZ0.out; omega)))
         have hml := blk_lt HM1.out
         clear hb1 hov0
         go_wp2_with fail
         have HE := hyd (err_end (S' := S) (m := Mv.zero) HB1.out HV.out (show (2 : Int) ≠ 0 by decide) HM1.out (by omega))
         rw [HO2.out]
         exact mv_ret Mv.zero 2 (w.heap.size + 1 + 1) rfl rfl rfl HE.out.1 HE.out.2
       · rw [if_neg h4] at HO1
         have HO2 := hyd HO1
         have h4' : decide ((S.ms.length : Int) ≥ 50) = false := by simp; omega
         have HD := hyd (fun (wx : World) (hb : Below (((w.alloc (.cells #[.int .i64 id] 3)).alloc (.cells #[.int .i64 a] 2)).alloc (.cells #[.int .i64 0, .int .i64 0, .int .i64 0, .int .i64 0, .int .i64 0, .int .i64 0] 33)).heap.size (((w.alloc (.cells #[.int .i64 id] 3)).alloc (.cells #[.int .i64 a] 2)).alloc (.cells #[.int .i64 0, .int .i64 0, .int .i64 0, .int .i64 0, .int .i64 0, .int .i64 0] 33)) wx) =>
          does2_any 51 (.pointer (some ⟨w.heap.size + 1, 0, none⟩)) (.pointer (some ⟨w.heap.size, 0, none⟩)) g B S (pay1 S id a) wx (HOA.out.below hb) HG.out.small (fun u wx => by kernel_rfl)
           (fun gb wy hby hBy ho => pay1_any gb _ (w.heap.size + 1) w.heap.size S id a wy ho hBy (blk_below (blk_below HA0.out hb (blk_lt HA0.out)) hby (blk_lt (blk_below HA0.out hb (blk_lt HA0.out)))) (blk_below (blk_below HI0.out hb (blk_lt HI0.out)) hby (blk_lt (blk_below HI0.out hb (blk_lt HI0.out)))) HG.out H2.out))
         clear HO1 h3 h4
         go_enter Tryz.func15, Tryz.ntmps15
         go_wp2_with fail
         refine (HY1.out _).mono ?_; rintro e w1 ⟨rfl, rfl⟩
         go_wp2_with fail
         refine (HY2.out _).mono ?_; rintro e w1 ⟨rfl, rfl⟩
         go_wp2_with fail
         refine (HPM.out _ hov0).mono ?_; rintro e w1 ⟨rfl, hb1⟩
         obtain ⟨_, _, _, _, b4, _⟩ := cells5U (hov0.below hb1).hg
         have HM1 := hyd (blk_below HM0.out hb1 (blk_lt HM0.out))
         have HD1 := hyd (HD.out w1 hb1)
         have HB1 := hyd (HB0.out.trans (hb1.mono (by have := HZ0.out; omega)))
         clear hb1 hov0 HD
         go_wp2_with fail
         refine HD1.out.mono ?_; intro e w2 hd
         obtain ⟨m, er, rfl⟩ := hd.form
         have hm := move_keeps hd HM1.out n1'
         obtain ⟨m0, m1, m2, m3, m4, m5, m6⟩ := cells6U hm
         have HE := hyd (DoesOf.wrap HB1.out hd hm (by omega)); have HM := hyd (put6_at hm m)
         clear hd hm HD1
         go_wp2_with fail
         rw [HO2.out]
         exact mv_ret m er (w.heap.size + 1 + 1) rfl rfl rfl HM.out HE.out
   · have HY2 := hyd (fun wx => uwithin64_no a 1 1125899906842624 wx h2)
     have HO1 := HO.out
     rw [if_pos (by simp; omega)] at HO1
     have HO2 := hyd HO1
     clear h1 h2 HO HO1 hov0
     go_enter Tryz.func15, Tryz.ntmps15
     go_wp2_with fail
     refine (HY1.out _).mono ?_; rintro e w1 ⟨rfl, rfl⟩
     go_wp2_with fail
     refine (HY2.out _).mono ?_; rintro e w1 ⟨rfl, rfl⟩
     go_wp2_with fail
     rw [HO2.out]
     exact mv_ret Mv.zero 1 (w.heap.size + 1 + 1) rfl rfl rfl HM0.out (does_err HB0.out HV.out (by decide))
 · have HY1 := hyd (fun wx => uwithin_no id 1 1099511627776 wx h1)
   have HO1 := HO.out
   rw [if_pos (by simp; omega)] at HO1
   have HO2 := hyd HO1
   clear h1 HO HO1 hov0
   go_enter Tryz.func15, Tryz.ntmps15
   go_wp2_with fail
   refine (HY1.out _).mono ?_; rintro e w1 ⟨rfl, rfl⟩
   go_wp2_with fail
   rw [HO2.out]
   exact mv_ret Mv.zero 1 (w.heap.size + 1 + 1) rfl rfl rfl HM0.out (does_err HB0.out HV.out (by decide))
def Pm.back (m : Pm) : Pm := { m with rev := true }
def reverse1 (S : Ac) (i : Nat) (m : Pm) : Ac × Mv × Int := match giveS S.day 1 S.ps m.parts with
 | some ps => ({ S with ps := ps, cr := S.cr - m.rest, ms := S.ms.set i m.back }, ⟨0, 0, 0, m.rest - m.amt, -m.rest, -m.amt⟩, 0)
 | none => (S, Mv.zero, 2)
def noPm : Pm := ⟨0, 0, 0, [], 0, false⟩
def reverseS (S : Ac) (id : Int) : Ac × Mv × Int := if S.pay id < 0 then (S, Mv.zero, 4) else
 if (S.ms.getD (S.pay id).toNat noPm).rev = true then (S, Mv.zero, 5) else
 if S.cr < (S.ms.getD (S.pay id).toNat noPm).rest then (S, Mv.zero, 2) else reverse1 S (S.pay id).toNat (S.ms.getD (S.pay id).toNat noPm)
theorem OwnV.putq {w w' : World} {B g gq cap : Nat} {S : Ac} {vp : Value} {qs qs' : List PmE} {us : List (Nat × Value)} {ms : List Pm} (h : OwnV w B g S vp (.slice (some ⟨gq, 0, none⟩) S.ms.length cap) qs) (hp : Puts w gq us w')
  (hl : ms.length = S.ms.length) (hm : qs'.map PmE.p = ms) (hu : us.foldl (fun a u => a.set u.1 u.2) (pmCs qs) = pmCs qs') (hq : ∀ q ∈ qs', PartsAt w q.v q.p.parts) (hn : 0 < S.ms.length) : OwnV w' B g { S with ms := ms } vp (.slice (some ⟨gq, 0, none⟩) S.ms.length cap) qs' := by
 obtain ⟨b1, cs, hcs⟩ := own_block_type h.hq (b := gq) rfl
 refine ⟨(hp.far g (blk_lt h.hg) (ne_of_type' h.hg hcs (by decide))).trans h.hg, h.hB, own_apart h.hp hp (fun e => ?_), by rw [hl, ← hu]; exact own_puts h.hq hp, hm, fun q hqq => (hq q hqq).keep fun b cs' hb => hp.far b (blk_lt hb) (ne_of_type' hb hcs (by decide))⟩
 obtain ⟨_, cs', hcs'⟩ := own_block_type h.hp e
 exact ne_of_type' hcs' hcs (by decide) rfl
theorem OwnV.pmAt {w : World} {B g : Nat} {S : Ac} {vp vq : Value} {qs : List PmE} (h : OwnV w B g S vp vq qs) {i : Nat} (hi : i < S.ms.length) : ∃ gq cap, ∃ hq : i < qs.length, vq = .slice (some ⟨gq, 0, none⟩) S.ms.length cap ∧ gq < w.heap.size ∧ B ≤ gq ∧ qs[i].p = S.ms[i] ∧ PartsAt w qs[i].v S.ms[i].parts ∧
  (w.cell? ⟨gq, i * 6, none⟩ = some (.int .i64 S.ms[i].id) ∧ w.cell? ⟨gq, i * 6 + 2, none⟩ = some (.int .i64 S.ms[i].amt) ∧ w.cell? ⟨gq, i * 6 + 3, none⟩ = some qs[i].v ∧ w.cell? ⟨gq, i * 6 + 4, none⟩ = some (.int .i64 S.ms[i].rest) ∧ w.cell? ⟨gq, i * 6 + 5, none⟩ = some (.bool S.ms[i].rev)) ∧ ∀ j, w.frozen? ⟨gq, j, none⟩ = false := by
 obtain ⟨gq, cap, e, hb, hlt⟩ := h.hq.form (by omega)
 have hl : qs.length = S.ms.length := h.len
 have hq : i < qs.length := by omega
 have hp : qs[i].p = S.ms[i] := by
  have := h.hm
  simp only [← this, List.getElem_map]
 subst e
 have key : ∀ j u, j < 6 → (pmC qs[i])[j]? = some u → w.cell? ⟨gq, i * 6 + j, none⟩ = some u := fun j u hj hu => (own_cell h.hq ((pmCs_at hq hj).trans hu)).1
 have k0 := key 0 _ (by omega) rfl; have k2 := key 2 _ (by omega) rfl; have k3 := key 3 _ (by omega) rfl; have k4 := key 4 _ (by omega) rfl; have k5 := key 5 _ (by omega) rfl
 rw [hp] at k0 k2 k4 k5
 have hpt := h.parts _ (List.getElem_mem hq)
 rw [hp] at hpt
 exact ⟨gq, cap, hq, rfl, hlt, hb, hp, hpt, ⟨k0, k2, k3, k4, k5⟩, fun j => by obtain ⟨_, cs, hcs⟩ := own_block_type h.hq (b := gq) rfl; exact blk_free hcs j⟩
theorem reverse_facts {S : Ac} (h : Good S) {i : Nat} (hi : i < S.ms.length) : ∀ k ps (hk : k < S.ms[i].parts.length), giveS S.day 1 S.ps (S.ms[i].parts.take k) = some ps → GoodAt S.day S.bp 1 ps S.ms[i].parts[k] := fun k ps hk hg =>
 good_at h.day h.bp h.rise h.per (fun x hx => ((h.pm _ (List.getElem_mem hi)).placed x hx).1) (fun x hx => by have := ((h.pm _ (List.getElem_mem hi)).placed x hx).2.2; omega) (.inl rfl) k ps hk hg
def openS (ps : List Per) : List Dq := live (ordS (itemsOf ps))
def ItemsOut (w : World) (ps : List Per) (e : Ending) (w' : World) : Prop := ∃ A c, e = .returned (.slice A (openS ps).length c) ∧ w'.ownsRow w.heap.size 58 4 (.slice A (openS ps).length c) (openS ps).length (itCs (openS ps)) ∧ Below w.heap.size w w'
theorem uitems_any (g B : Nat) (S : Ac) (w : World) (h : OwnAt w B g S) (hG : Good S) : Calls Tryz.prog 14 #[.pointer (some ⟨g, 0, none⟩)] w (ItemsOut w S.ps) := by
 obtain ⟨vp, vq, qs, h⟩ := h
 have HI := hyd (items_any g B S vp vq qs w h (by have := hG.np; omega) hG.places)
 have HP := hyd hG.places
 have hnp := hG.np
 obtain ⟨n, hn⟩ : ∃ n, (itemsOf S.ps).length = n := ⟨_, rfl⟩
 have HN := hyd hn
 have hn2 : n ≤ 1000 := by rw [← hn, itemsOf_len]; omega
 clear h hG hn
 go_enter Tryz.func14, Tryz.ntmps14
 go_wp2_with fail
 refine HI.out.mono ?_; rintro e w1 ⟨hb1, A, c, s, rfl, ho1, hs⟩
 rw [HN.out] at ho1 ⊢
 have hse := hs.eq HP.out
 have HD := hyd (delete_any 48 items1_tells w.heap.size A n c s w1 (by rw [hs.len]; exact HN.out) ho1 hb1.size (by omega))
 have HE : Hid (live s = openS S.ps) := hyd (by rw [hse]; rfl)
 rw [HE.out] at HD
 have HB1 := hyd hb1
 obtain ⟨m, hm⟩ : ∃ m, (openS S.ps).length = m := ⟨_, rfl⟩
 have HM := hyd hm
 rw [hm] at HD
 clear hb1 ho1 hs hse hm
 go_wp2_with fail
 refine HD.out.mono ?_; rintro e w2 ⟨A2, c2, rfl, ho2, hb2⟩
 have HO2 := hyd ho2; have HB2 := hyd hb2
 clear ho2 hb2
 go_wp2_with fail
 go_ret
 exact ⟨A2, c2, by rw [HM.out]; rfl, by rw [HM.out]; exact HO2.out, HB1.out.trans HB2.out⟩
def Ac.new (day bp : Int) : Ac := ⟨day, bp, 0, [], []⟩
theorem Good.new {day bp : Int} (hd : 0 ≤ day ∧ day ≤ 3652058) (hb : 0 ≤ bp ∧ bp ≤ 100000) : Good (Ac.new day bp) :=
 ⟨hd, hb, ⟨by show (0 : Int) ≤ 0; decide, by show (0 : Int) ≤ _; decide⟩, by simp [Ac.new], by simp [Ac.new], List.Pairwise.nil, fun p hp => by simp [Ac.new] at hp, fun p hp => by simp [Ac.new] at hp, List.nodup_nil⟩
theorem new_yes (day bp : Int) (w : World) (hd : 0 ≤ day ∧ day ≤ 3652058) (hb : 0 ≤ bp ∧ bp ≤ 100000) : Calls Tryz.prog 10 #[.int .i64 day, .int .i64 bp] w fun e w' => e = .returned (.tuple #[.pointer (some ⟨w.heap.size, 0, none⟩), .int .i64 0]) ∧ OwnAt w' w.heap.size w.heap.size (Ac.new day bp) ∧ Below w.heap.size w w' := by
 have H1 := hyd (fun wx => uwithin_yes day 0 3652058 wx hd)
 have H2 := hyd (fun wx => uwithin_yes bp 0 100000 wx hb)
 clear hd hb
 go_enter Tryz.func10, Tryz.ntmps10
 go_wp2_with fail
 refine (H1.out _).mono ?_; rintro e w1 ⟨rfl, rfl⟩
 go_wp2_with fail
 refine (H2.out _).mono ?_; rintro e w1 ⟨rfl, rfl⟩
 go_wp2_with fail
 go_ret2
 refine ⟨rfl, ⟨.slice none 0 0, .slice none 0 0, [], blk_new _ _ rfl, Nat.le_refl _, World.ownsRow_nil _ _ _ _, World.ownsRow_nil _ _ _ _, rfl, fun q hq => by simp at hq⟩, bnewU _ _⟩
theorem new_no (day bp : Int) (w : World) (h : ¬ ((0 ≤ day ∧ day ≤ 3652058) ∧ 0 ≤ bp ∧ bp ≤ 100000)) : Calls Tryz.prog 10 #[.int .i64 day, .int .i64 bp] w fun e w' => e = .returned (.tuple #[.pointer none, .int .i64 1]) ∧ Below w.heap.size w w' := by
 by_cases hd : 0 ≤ day ∧ day ≤ 3652058
 · have H1 := hyd (fun wx => uwithin_yes day 0 3652058 wx hd)
   have H2 := hyd (fun wx => uwithin_no bp 0 100000 wx (fun hb => h ⟨hd, hb⟩))
   clear hd h
   go_enter Tryz.func10, Tryz.ntmps10
   go_wp2_with fail
   refine (H1.out _).mono ?_; rintro e w1 ⟨rfl, rfl⟩
   go_wp2_with fail
   refine (H2.out _).mono ?_; rintro e w1 ⟨rfl, rfl⟩
   go_wp2_with fail
   go_ret2
   exact ⟨rfl, Below.refl _ _⟩
 · have H1 := hyd (fun wx => uwithin_no day 0 3652058 wx hd)
   clear hd h
   go_enter Tryz.func10, Tryz.ntmps10
   go_wp2_with fail
   refine (H1.out _).mono ?_; rintro e w1 ⟨rfl, rfl⟩
   go_wp2_with fail
   go_ret2
   exact ⟨rfl, Below.refl _ _⟩
end Go.Proofs.YtbjjgnaojoaoiaaGreat
