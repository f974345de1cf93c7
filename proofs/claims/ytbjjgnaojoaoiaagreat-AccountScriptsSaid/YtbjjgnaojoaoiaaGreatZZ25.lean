/- Laws. -/
import Derived.Test.YtbjjgnaojoaoiaaGreatZZ23
import Derived.Test.YtbjjgnaojoaoiaaGreatZZ24
namespace Go.Proofs.YtbjjgnaojoaoiaaGreat
open Go.RowKit Go
set_option linter.unusedVariables false
set_option linter.unusedSimpArgs false
set_option maxHeartbeats 6400000
set_option maxRecDepth 100000
def Ret.onDay (r : Ret) (d : Int) : Ret := { r with filed := d }
noncomputable def fileS (S : Ac) (s : Sch) (r : Ret) : Ac × Mv × Int :=
 if (billS s (r.onDay S.day)).2 ≠ 0 then (S, Mv.zero, (billS s (r.onDay S.day)).2) else if S.place r.per ≠ -1 then (S, Mv.zero, 5) else if 20 ≤ S.ps.length then (S, Mv.zero, 2) else file1 S (r.onDay S.day) (billS s (r.onDay S.day)).1
@[reducible] def fileW0 (w : World) (A : Option Addr) (n c : Nat) (s : Sch) (r : Ret) : World := ((w.alloc (.cells #[.slice A n c, .int .i64 s.ded, .int .i64 s.cred, .int .i64 s.lbp, .int .i64 s.most, .int .i64 s.least] 24)).alloc (.cells #[.int .i64 r.per, .int .i64 r.due, .int .i64 r.filed, .int .i64 r.inc, .int .i64 r.wh] 37)).alloc (.cells #[.int .i64 0, .int .i64 0, .int .i64 0, .int .i64 0, .int .i64 0, .int .i64 0] 33)
theorem fileW0_facts (w : World) (A : Option Addr) (n c : Nat) (s : Sch) (r : Ret) : Below w.heap.size w (fileW0 w A n c s r) ∧ (fileW0 w A n c s r).heap[w.heap.size + 1]? = some (.cells #[.int .i64 r.per, .int .i64 r.due, .int .i64 r.filed, .int .i64 r.inc, .int .i64 r.wh] 37 (0, 0)) ∧
  (fileW0 w A n c s r).heap[w.heap.size + 1 + 1]? = some (.cells #[.int .i64 0, .int .i64 0, .int .i64 0, .int .i64 0, .int .i64 0, .int .i64 0] 33 (0, 0)) ∧ (fileW0 w A n c s r).heap.size = w.heap.size + 3 := by
 have e2 := blk_new ((w.alloc (.cells #[.slice A n c, .int .i64 s.ded, .int .i64 s.cred, .int .i64 s.lbp, .int .i64 s.most, .int .i64 s.least] 24)).alloc (.cells #[.int .i64 r.per, .int .i64 r.due, .int .i64 r.filed, .int .i64 r.inc, .int .i64 r.wh] 37)) (.cells #[.int .i64 0, .int .i64 0, .int .i64 0, .int .i64 0, .int .i64 0, .int .i64 0] 33) rfl
 have e1 := blk_alloc (blk_new (w.alloc (.cells #[.slice A n c, .int .i64 s.ded, .int .i64 s.cred, .int .i64 s.lbp, .int .i64 s.most, .int .i64 s.least] 24)) (.cells #[.int .i64 r.per, .int .i64 r.due, .int .i64 r.filed, .int .i64 r.inc, .int .i64 r.wh] 37) rfl) (.cells #[.int .i64 0, .int .i64 0, .int .i64 0, .int .i64 0, .int .i64 0, .int .i64 0] 33)
 simp only [World.size_alloc] at e1 e2
 exact ⟨(((Below.refl _ _).alloc (Nat.le_refl _) _).alloc (by simp) _).alloc (by simp; omega) _, e1, e2, by simp⟩
theorem file_any (g B : Nat) (S : Ac) (A : Option Addr) (n c : Nat) (s : Sch) (r : Ret) (w : World) (h : OwnAt w B g S) (hG : Good S) (hn : s.bs.length = n) (hr : Rd w w.heap.size 2 A n (brCs s.bs)) :
  Calls Tryz.prog 11 #[.pointer (some ⟨g, 0, none⟩), schV A n c s, retV r] w (DoesOf w g S (fileS S s r)) := by
 have hgl := h.lt
 have HV := hyd h
 obtain ⟨hb0, hr0, hm0, hz0⟩ := fileW0_facts w A n c s (r.onDay S.day)
 have hrd0 := (hr.below hb0).wider hb0.size
 obtain ⟨vp, vq, qs, hov⟩ := h
 have hov0 := hov.below hb0
 obtain ⟨a0, a1, a2, a3, a4, a5⟩ := cells5U hov.hg
 have n1 : g ≠ w.heap.size := by omega
 have n2 : g ≠ w.heap.size + 1 := by omega
 have n3 : g ≠ w.heap.size + 1 + 1 := by omega
 have n4 : g < w.heap.size + 1 := by omega
 have n5 : g < w.heap.size + 1 + 1 := by omega
 have HB0 := hyd hb0; have HR0 := hyd hr0; have HM0 := hyd hm0; have HZ0 := hyd hz0; have HOV0 := hyd hov0; have HG := hyd hG
 have hmf : ∀ (fn : Fn) (first cap : Array Value) (w : World), (Instr.makeFunc fn first cap).run Tryz.prog w = .ok (.func fn first cap) w := fun _ _ _ _ => rfl
 have HBI := hyd (bill_any A n c s (r.onDay S.day) _ hn hrd0)
 obtain ⟨b, er, hbill⟩ : ∃ b er, billS s (r.onDay S.day) = (b, er) := ⟨_, _, rfl⟩
 have HF : Hid (fileS S s r = if er ≠ 0 then (S, Mv.zero, er) else if S.place r.per ≠ -1 then (S, Mv.zero, 5) else if 20 ≤ S.ps.length then (S, Mv.zero, 2) else file1 S (r.onDay S.day) b) := hyd (by unfold fileS; rw [hbill])
 have HBB : Hid (er = 0 → (0 ≤ r.due ∧ r.due ≤ 3652058) ∧ (0 ≤ r.per ∧ r.per ≤ 1000000) ∧ (0 ≤ b.prin ∧ b.prin ≤ 1125899906842624)) := hyd (fun h0 => by
  by_cases hs : OkS s
  · by_cases hrr : retB (r.onDay S.day) = true
    · rw [billS_yes hs hrr] at hbill
      have h1 := retB_yes hrr
      have h2 := dayB_yes h1.2.1
      have h3 := (bill_bd hs hrr).2.1
      injection hbill with hbill _
      rw [hbill] at h3
      have h4 : (1 : Int) ≤ r.per ∧ r.per ≤ 99999 := h1.1
      exact ⟨h2, by omega, h3⟩
    · rw [billS_no2 hrr] at hbill; injection hbill with _ h; omega
  · rw [billS_no1 hs] at hbill; injection hbill with _ h; omega)
 rw [hbill] at HBI
 have hnp := hG.np
 clear hb0 hr0 hm0 hz0 hrd0 hov0 hov hr hG hbill hn a1 a2 a3 a4
 go_enter Tryz.func11, Tryz.ntmps11
 go_wp2_with fail
 refine HBI.out.mono ?_; rintro e w1 ⟨rfl, hb1⟩
 have hr1 := blk_below HR0.out hb1 (blk_lt HR0.out)
 have hm1 := blk_below HM0.out hb1 (blk_lt HM0.out)
 have hov1 := HOV0.out.below hb1
 have hbw1 : Below w.heap.size w w1 := HB0.out.trans (hb1.mono (by have := HZ0.out; omega))
 have hz1 : w.heap.size + 3 ≤ w1.heap.size := by have h2 := HZ0.out; have h3 := hb1.size; omega
 obtain ⟨m0, m1, m2, m3, m4, m5, m6⟩ := cells6U hm1
 have hml1 := blk_lt hm1
 have HR1 := hyd hr1; have HM1 := hyd hm1; have HOV1 := hyd hov1; have HBW1 := hyd hbw1
 clear hb1 HBI hr1 hm1 hov1 hbw1
 have hx0 : w.heap.size < w1.heap.size := by omega
 have hx1 : w.heap.size + 1 < w1.heap.size := by omega
 have hxg : g < w1.heap.size := by omega
 have q1 : w.heap.size + 1 ≠ w1.heap.size := by omega
 have q2 : w.heap.size + 1 + 1 ≠ w1.heap.size := by omega
 have q3 : g ≠ w1.heap.size := by omega
 obtain ⟨b0, b1, b2, b3⟩ := b
 simp only [blR, blV]
 go_upto_region 3 with fail
 have hbx := bnewU w1 (.cells #[.int .i64 b0, .int .i64 b1, .int .i64 b2, .int .i64 b3] 85)
 have hlx := blk_new w1 (.cells #[.int .i64 b0, .int .i64 b1, .int .i64 b2, .int .i64 b3] 85) rfl
 have hrx := blk_below HR1.out hbx (blk_lt HR1.out)
 have hmx := blk_below HM1.out hbx (blk_lt HM1.out)
 have hox := HOV1.out.below hbx
 have hbwx := HBW1.out.trans (hbx.mono HBW1.out.size)
 obtain ⟨gx, hgx⟩ : ∃ gx, w1.heap.size = gx := ⟨_, rfl⟩
 rw [hgx] at hlx ⊢
 have q4 : gx ≠ g := by omega
 have q5 : w.heap.size ≤ gx := by omega
 generalize w1.alloc (.cells #[.int .i64 b0, .int .i64 b1, .int .i64 b2, .int .i64 b3] 85) = X at *
 clear m0 m1 m2 m3 m4 m5 m6 a0 hx0 hx1 hxg q1 q2 q3 hbx hml1 hz1 hgx
 obtain ⟨m0, m1, m2, m3, m4, m5, m6⟩ := cells6U hmx
 have hmlx := blk_lt hmx
 have HLX := hyd hlx; have HRX := hyd hrx; have HMX := hyd hmx; have HOX := hyd hox; have HBX := hyd hbwx
 clear HR1 HM1 HOV1 HBW1 HR0 HM0 HZ0 HOV0 HB0
 by_cases h0 : er = 0
 · subst h0
   have hbb := HBB.out rfl
   have HO1 := HF.out
   rw [if_neg (by simp)] at HO1
   have HFI := hyd (find_any g B S vp vq qs r.per X hox (by omega))
   have r1' : X.cell? ⟨w.heap.size + 1, 0, none⟩ = some (.int .i64 r.per) := (blk_cell hrx 0).trans rfl
   have HBB2 := hyd hbb; have HOO1 := hyd HO1
   clear hlx hrx hmx hox hbwx HBB HF HO1 hbb
   go_wp2_with fail
   refine HFI.out.mono ?_; rintro e w2 ⟨hb2, hh⟩
   have hm2 := blk_below HMX.out hb2 (blk_lt HMX.out)
   have hox2 := HOX.out.below hb2
   have hbw2 := HBX.out.trans (hb2.mono HBX.out.size)
   have hlx2 := blk_below HLX.out hb2 (blk_lt HLX.out)
   have hrx2 := blk_below HRX.out hb2 (blk_lt HRX.out)
   clear m0 m1 m2 m3 m4 m5 m6 r1' hmlx
   obtain ⟨m0, m1, m2, m3, m4, m5, m6⟩ := cells6U hm2
   have hml2 := blk_lt hm2
   rcases hh with ⟨hpl, rfl⟩ | ⟨gp, cap, i, _, hi, hpl, rfl⟩
   · have HO1 := HOO1.out
     rw [if_neg (by simpa using hpl)] at HO1
     obtain ⟨Ap, cp, rfl, hcp, _⟩ := hox2.rdp
     obtain ⟨d0, d1, d2, d3, d4, d5⟩ := cells5U hox2.hg
     have hgl2 := blk_lt hox2.hg
     by_cases h4 : 20 ≤ S.ps.length
     · rw [if_pos h4] at HO1
       have h4' : decide ((S.ps.length : Int) ≥ 20) = true := by simp; omega
       have HOO := hyd HO1
       have HE := hyd (err_end (S' := S) (m := Mv.zero) hbw2 HV.out (show (2 : Int) ≠ 0 by decide) hm2 (by omega))
       clear hb2 hm2 hox2 hbw2 hlx2 hrx2 HO1
       go_wp2_with fail
       rw [HOO.out]
       exact mv_ret Mv.zero 2 (w.heap.size + 1 + 1) rfl rfl rfl HE.out.1 HE.out.2
     · rw [if_neg h4] at HO1
       have h4' : decide ((S.ps.length : Int) ≥ 20) = false := by simp; omega
       have HOO := hyd HO1
       have HD := hyd (does2_any 38 (.pointer (some ⟨w.heap.size + 1, 0, none⟩)) (.pointer (some ⟨gx, 0, none⟩)) g B S (file1 S (r.onDay S.day) ⟨b0, b1, b2, b3⟩) w2 ⟨_, _, _, hox2⟩ HG.out.small (fun u wx => by kernel_rfl)
        (fun gb wy hby hBy ho => file1_any gb _ (w.heap.size + 1) gx S (r.onDay S.day) ⟨b0, b1, b2, b3⟩ wy ho hBy (blk_below hrx2 hby (blk_lt hrx2)) (blk_below hlx2 hby (blk_lt hlx2)) HG.out HBB2.out.1 HBB2.out.2.1 HBB2.out.2.2))
       have HM2 := hyd hm2; have HBW2 := hyd hbw2
       clear hb2 hm2 hox2 hbw2 hlx2 hrx2 HO1 m0 m1 m2 m3 m4 m5 m6 d0 d1 d2 d4
       go_wp2_with fail
       refine HD.out.mono ?_; intro e w3 hd
       obtain ⟨m, er, rfl⟩ := hd.form
       have hm := move_keeps hd HM2.out (by omega)
       obtain ⟨m0, m1, m2, m3, m4, m5, m6⟩ := cells6U hm
       have HE := hyd (DoesOf.wrap HBW2.out hd hm (by omega)); have HM := hyd (put6_at hm m)
       clear hd hm HD
       go_wp2_with fail
       rw [HOO.out]
       exact mv_ret m er (w.heap.size + 1 + 1) rfl rfl rfl HM.out HE.out
   · have HO1 := HOO1.out
     rw [if_pos (by rw [hpl]; omega)] at HO1
     have HOO := hyd HO1
     have HE := hyd (err_end (S' := S) (m := Mv.zero) hbw2 HV.out (show (5 : Int) ≠ 0 by decide) hm2 (by omega))
     clear hb2 hm2 hox2 hbw2 hlx2 hrx2 HO1 hi hpl
     go_wp2_with fail
     rw [HOO.out]
     exact mv_ret Mv.zero 5 (w.heap.size + 1 + 1) rfl rfl rfl HE.out.1 HE.out.2
 · have HO1 := HF.out
   rw [if_pos h0] at HO1
   have hne : (er != 0) = true := by simpa using h0
   have HOO := hyd HO1
   have HE := hyd (err_end (S' := S) (m := Mv.zero) hbwx HV.out h0 hmx (by omega))
   clear HF h0 HO1 hlx hrx hmx hox hbwx HBB
   go_wp2_with fail
   rw [HOO.out]
   exact mv_ret Mv.zero er (w.heap.size + 1 + 1) rfl rfl rfl HE.out.1 HE.out.2
section
theorem placed_mem {ps : List Per} (h : RiseP ps) {x : Dq} (hp : ∃ p ∈ ps, p.ret.per = x.per) (hk : x.kind = 0 ∨ x.kind = 1 ∨ x.kind = 2) : Placed ps x := by
 obtain ⟨p, hp, e⟩ := hp
 obtain ⟨i, hi, rfl⟩ := List.mem_iff_getElem.1 hp
 exact ⟨⟨i, hi, by rw [← e]; exact place_at h hi⟩, hk⟩
theorem PmOk.more {ps qs : List Per} {m : Pm} (h : PmOk ps m) (hr : RiseP qs) (hs : ∀ p ∈ ps, ∃ q ∈ qs, q.ret = p.ret) : PmOk qs m :=
 ⟨h.id, h.day, h.amt, fun x hx => by
   obtain ⟨h1, ⟨p, hp, e1, e2⟩, h3⟩ := h.placed x hx
   obtain ⟨q, hq, e⟩ := hs p hp
   exact ⟨placed_mem hr ⟨q, hq, by rw [e]; exact e1⟩ h1.2, ⟨q, hq, by rw [e]; exact e1, by rw [e]; exact e2⟩, h3⟩, h.len, h.rest, h.sum⟩
theorem ret_mem {ps qs : List Per} (e : qs.map Per.ret = ps.map Per.ret) : ∀ p ∈ ps, ∃ q ∈ qs, q.ret = p.ret := fun p hp => by
 have : p.ret ∈ qs.map Per.ret := by rw [e]; exact List.mem_map_of_mem hp
 obtain ⟨q, hq, h⟩ := List.mem_map.1 this
 exact ⟨q, hq, h⟩
theorem opens_live (l : List Dq) : opens (live l) = opens l := by
 induction l with
 | nil => rfl
 | cons x l ih =>
   unfold live at ih ⊢
   rw [List.filter_cons]
   split
   · rw [opens_cons, opens_cons, ih]
   · rename_i h
     have h0 : x.opn = 0 := by simpa [nil0] using h
     rw [ih, opens_cons, h0]; omega
theorem opens_parts {its : List Dq} (h : placesE its = 0) {a : Int} (ha : 0 ≤ a ∧ a ≤ 4611686018427387904) : opens (partsOf its a) + leftI its a = a := by
 have ho := ordS_is h
 have hs := ho.places h
 obtain ⟨_, hok, hnd⟩ := placesE_ok hs
 unfold partsOf
 rw [opens_live]
 have e1 : opens (paidRow (ordS its) a) = (payL (ordS its) a).sum := by
  unfold opens paidRow payL
  rw [List.map_map]; rfl
 have hrise : (ordS its).Pairwise fun a b => keyI a < keyI b := ho.2
 obtain ⟨d, hd, hri⟩ : ∃ d, Pl (ordS its).length d ∧ Rise (ordS its) d := by
  refine ⟨(List.range (ordS its).length).map fun (i : Nat) => (i : Int), List.Perm.refl _, ?_⟩
  unfold Rise
  have : inOrd (ordS its) ((List.range (ordS its).length).map fun (i : Nat) => (i : Int)) = ordS its := by
   unfold inOrd
   apply List.ext_getElem (by simp)
   intro i h1 h2
   simp [h2]
  rw [this]; exact hrise
 rw [e1, paidSum hok hd hri ha.1, leftI_perm ho.1]
 omega
theorem parts_len {its : List Dq} (h : placesE its = 0) (a : Int) : (partsOf its a).length ≤ its.length := by
 unfold partsOf live
 exact Nat.le_trans (List.length_filter_le _ _) (by rw [paidRow_len, (ordS_is h).len]; exact Nat.le_refl _)
theorem ret_len {ps qs : List Per} (e : qs.map Per.ret = ps.map Per.ret) : qs.length = ps.length := by have := congrArg List.length e; simpa using this
theorem Good.refund {S : Ac} (h : Good S) (a : Int) : Good (refundS S a).1 := by
 unfold refundS
 split
 · exact h
 · split
   · exact h
   · rename_i h1 h2
     have h1' : 1 ≤ a ∧ a ≤ 1125899906842624 := by simpa using h1
     exact ⟨h.day, h.bp, by have := h.cr; show 0 ≤ S.cr - a ∧ S.cr - a ≤ _; omega, h.np, h.nm, h.rise, h.per, h.pm, h.ids⟩
theorem Good.paid {S : Ac} (h : Good S) {a : Int} (ha : 0 ≤ a) : ∃ ps, giveS S.day (-1) S.ps (partsOf (itemsOf S.ps) a) = some ps ∧ itemsOf ps = restI (itemsOf S.ps) a ∧ ps.map Per.ret = S.ps.map Per.ret ∧ (∀ p ∈ ps, PerOk S.day S.bp p) ∧ RiseP ps :=
 (pay_facts h.day h.bp h.rise h.per (by have := h.np; omega) ha).2
theorem Good.offset {S : Ac} (h : Good S) (a : Int) : Good (offsetS S a).1 := by
 unfold offsetS
 split
 · exact h
 · split
   · exact h
   · rename_i h1 h2
     have h1' : 1 ≤ a ∧ a ≤ 1125899906842624 := by simpa using h1
     obtain ⟨ps, e, hi, hr, hp, hri⟩ := h.paid (a := a) (by omega)
     have hl := leftI_bd h.places (show 0 ≤ a by omega)
     unfold offset1
     rw [e]
     exact ⟨h.day, h.bp, by have := h.cr; show 0 ≤ S.cr - _ ∧ S.cr - _ ≤ _; omega, by show ps.length ≤ 20; rw [ret_len hr]; exact h.np, h.nm, hri, hp, fun m hm => (h.pm m hm).more hri (ret_mem hr), h.ids⟩
theorem pay_new {S : Ac} {n : Int} (h : ¬ 0 ≤ S.pay n) : ∀ m ∈ S.ms, m.id ≠ n := by
 unfold Ac.pay at h
 rcases idxI_spec (fun p : Pm => decide (p.id = n)) S.ms 0 with ⟨_, h2⟩ | ⟨i, hi, h1, _⟩
 · intro m hm e; have := h2 m hm; simp [e] at this
 · omega
theorem Good.pay {S : Ac} (h : Good S) (id a : Int) : Good (payS S id a).1 := by
 unfold payS
 split
 · exact h
 · split
   · exact h
   · split
     · exact h
     · rename_i h1 h2 h3
       have h1' : (1 ≤ id ∧ id ≤ 1099511627776) ∧ 1 ≤ a ∧ a ≤ 1125899906842624 := by simp at h1; omega
       obtain ⟨ps, e, hi, hr, hp, hri⟩ := h.paid (a := a) (by omega)
       have hl := leftI_bd h.places (show 0 ≤ a by omega)
       unfold pay1
       rw [e]
       simp only
       by_cases h4 : (addS S.cr (leftI (itemsOf S.ps) a)).2 = 0
       · rw [if_pos h4]
         obtain ⟨e1, e2, e3⟩ := add_ok h4
         rw [e1]
         have hcr := h.cr
         refine ⟨h.day, h.bp, by show 0 ≤ S.cr + _ ∧ S.cr + _ ≤ _; omega, by show ps.length ≤ 20; rw [ret_len hr]; exact h.np, by simp; omega, hri, hp, fun m hm => ?_, ?_⟩
         · rcases List.mem_append.1 hm with hm | hm
           · exact (h.pm m hm).more hri (ret_mem hr)
           · rw [List.mem_singleton.1 hm]
             refine ⟨h1'.1, h.day, h1'.2, fun x hx => ?_, ?_, hl.1, opens_parts h.places (by omega)⟩
             · obtain ⟨y, hy, ex, k1, k2⟩ := parts_of h.places hx
               obtain ⟨p, hpp, f1, f2, f3, f4⟩ := items_opn hy
               obtain ⟨q, hq, eq⟩ := ret_mem hr p hpp
               have hyo := okI_yes (List.all_eq_true.1 (placesE_ok h.places).2.1 y hy)
               have x1 : x.per = y.per := by rw [ex]
               have x2 : x.kind = y.kind := by rw [ex]
               have x3 : x.due = y.due := by rw [ex]
               exact ⟨placed_mem hri ⟨q, hq, by rw [eq, x1, f1]⟩ (by rw [x2]; exact f3), ⟨q, hq, by rw [eq, x1, f1], by rw [eq, x3, f2]⟩, by omega, by omega⟩
             · refine Nat.le_trans (parts_len h.places a) ?_
               rw [itemsOf_len]; have := h.np; omega
         · rw [List.map_append, List.nodup_append]
           refine ⟨h.ids, by simp, ?_⟩
           intro x hx y hy e
           obtain ⟨m, hm, rfl⟩ := List.mem_map.1 hx
           simp at hy
           exact pay_new h2 m hm (e.trans hy)
       · rw [if_neg h4]; exact h
theorem simple_nn {p bp d : Int} : 0 ≤ (simpleS p bp d).1 := by
 unfold simpleS
 split
 · rename_i h
   simp only [Bool.and_eq_true] at h
   have h1 := okP_yes h.1.1; have h2 := okR_yes h.1.2; have h3 := okD_yes h.2
   have : 0 ≤ p * (bp * d) / 3650000 := Int.ediv_nonneg (Int.mul_nonneg h1.1 (Int.mul_nonneg h2.1 h3.1)) (by omega)
   unfold told; split
   · exact this
   · simp
 · simp
theorem insP_mem {ps : List Per} {i : Nat} {p x : Per} : x ∈ insP ps i p ↔ x = p ∨ x ∈ ps := by
 unfold insP
 have : x ∈ ps ↔ x ∈ ps.take i ∨ x ∈ ps.drop i := by rw [← List.mem_append, List.take_append_drop]
 rw [List.mem_append, List.mem_cons, this]
 constructor
 · rintro (h | h | h)
   · exact .inr (.inl h)
   · exact .inl h
   · exact .inr (.inr h)
 · rintro (h | h | h)
   · exact .inr (.inl h)
   · exact .inl h
   · exact .inr (.inr h)
theorem aheadP_at {ps : List Per} (h : RiseP ps) (t : Int) : (∀ k (hk : k < ps.length), k < aheadP t ps → ps[k].ret.per < t) ∧ ∀ k (hk : k < ps.length), aheadP t ps ≤ k → t ≤ ps[k].ret.per := by
 induction ps with
 | nil => exact ⟨fun k hk => by simp at hk, fun k hk => by simp at hk⟩
 | cons p ps ih =>
   have h' : (∀ q ∈ ps, p.ret.per < q.ret.per) ∧ RiseP ps := List.pairwise_cons.1 h
   obtain ⟨i1, i2⟩ := ih h'.2
   by_cases hp : p.ret.per < t
   · have e : aheadP t (p :: ps) = aheadP t ps + 1 := by unfold aheadP; rw [List.countP_cons_of_pos (by simpa using hp)]
     rw [e]
     refine ⟨fun k hk hlt => ?_, fun k hk hle => ?_⟩
     · cases k with
       | zero => exact hp
       | succ k => exact i1 k (by simpa using hk) (by omega)
     · cases k with
       | zero => omega
       | succ k => exact i2 k (by simpa using hk) (by omega)
   · have e0 : aheadP t ps = 0 := List.countP_eq_zero.2 fun q hq => by have := h'.1 q hq; simp; omega
     have e : aheadP t (p :: ps) = 0 := by unfold aheadP at e0 ⊢; rw [List.countP_cons_of_neg (by simpa using hp)]; exact e0
     rw [e]
     refine ⟨fun k hk hlt => by omega, fun k hk _ => ?_⟩
     cases k with
     | zero => simpa using hp
     | succ k => exact i2 k (by simpa using hk) (by rw [e0]; omega)
theorem insP_rise {ps : List Per} (h : RiseP ps) {p : Per} (hn : ∀ q ∈ ps, q.ret.per ≠ p.ret.per) : RiseP (insP ps (aheadP p.ret.per ps) p) := by
 obtain ⟨h1, h2⟩ := aheadP_at h p.ret.per
 unfold insP RiseP
 rw [List.pairwise_append, List.pairwise_cons]
 have ha : ∀ x ∈ ps.take (aheadP p.ret.per ps), x.ret.per < p.ret.per := fun x hx => by
  obtain ⟨k, hk, rfl⟩ := List.mem_iff_getElem.1 hx
  simp only [List.length_take] at hk
  rw [List.getElem_take]
  exact h1 k (by omega) (by omega)
 have hd : ∀ x ∈ ps.drop (aheadP p.ret.per ps), p.ret.per < x.ret.per := fun x hx => by
  have hne := hn x (List.mem_of_mem_drop hx)
  obtain ⟨k, hk, rfl⟩ := List.mem_iff_getElem.1 hx
  simp only [List.length_drop] at hk
  rw [List.getElem_drop] at hne ⊢
  have := h2 (aheadP p.ret.per ps + k) (by omega) (by omega)
  omega
 refine ⟨List.Pairwise.sublist (List.take_sublist _ _) h, ⟨hd, List.Pairwise.sublist (List.drop_sublist _ _) h⟩, fun x hx y hy => ?_⟩
 rcases List.mem_cons.1 hy with rfl | hy
 · exact ha x hx
 · have := ha x hx; have := hd y hy; omega
theorem interest_eq (day bp : Int) {p q : Per} (h1 : q.o2 = p.o2) (h2 : q.since = p.since) (h3 : q.done = p.done) : interestS day bp q = interestS day bp p := by
 unfold interestS; rw [h1, h2, h3]
theorem add_zero_any (s : Int) (h : (addS 0 s).2 = 0) : (addS 0 s).1 = s ∧ -4611686018427387904 ≤ s ∧ s ≤ 4611686018427387904 := by
 obtain ⟨h1, h2, h3⟩ := add_ok h; omega
theorem newPer_ok {S : Ac} (h : Good S) {r : Ret} {b : Bl} (hr : retB r = true) (hp : 0 ≤ b.prin ∧ b.prin ≤ 1125899906842624) (hq : 0 ≤ b.pen ∧ b.pen ≤ b.prin) (hs : (settleS S.day S.bp (newPer r b)).1 = 0) :
  PerOk S.day S.bp (settleS S.day S.bp (newPer r b)).2.2 ∧ (settleS S.day S.bp (newPer r b)).2.2.ret = r ∧ 0 ≤ (settleS S.day S.bp (newPer r b)).2.1 ∧ (settleS S.day S.bp (newPer r b)).2.2.o0 = b.pen ∧ (settleS S.day S.bp (newPer r b)).2.2.o1 = (settleS S.day S.bp (newPer r b)).2.1 ∧ (settleS S.day S.bp (newPer r b)).2.2.o2 = b.prin := by
 have hd := dayB_yes (retB_yes hr).2.1
 obtain ⟨n, e0, hi⟩ : ∃ n e0, interestS S.day S.bp (newPer r b) = (n, e0) := ⟨_, _, rfl⟩
 unfold settleS at hs ⊢
 rw [hi] at hs ⊢
 simp only at hs ⊢
 by_cases h0 : e0 ≠ 0
 · rw [if_pos h0] at hs; exact absurd hs h0
 · rw [if_neg h0] at hs ⊢
   have h0' : e0 = 0 := by omega
   subst h0'
   have hn : 0 ≤ n ∧ n ≤ 4611686018427387904 := by
    have hb := interest_bd S.day S.bp (newPer r b)
    rw [hi] at hb
    refine ⟨?_, hb.2⟩
    unfold interestS at hi
    split at hi
    · injection hi with hi _; omega
    · split at hi
      · have h2 := congrArg Prod.snd hi
        have h3 := congrArg Prod.fst hi
        simp only at h2 h3
        have h4 := add_zero_any _ h2
        have h5 := @simple_nn (newPer r b).o2 S.bp (S.day - (newPer r b).since)
        have : (newPer r b).done = 0 := rfl
        rw [this] at h3
        omega
      · rename_i hx
        have h2 := congrArg Prod.snd hi
        exact absurd h2 hx
   have ha : addS (newPer r b).o1 (n - (newPer r b).acc) = (n, 0) := by
    show addS 0 (n - 0) = (n, 0)
    rw [Int.sub_zero, add_yes (by simp [amt]; omega) (by omega), Int.zero_add]
   rw [ha] at hs ⊢
   simp only [ne_eq, not_true_eq_false, if_false] at hs ⊢
   refine ⟨⟨hr, ⟨hq.1, by show b.pen ≤ _; omega⟩, hn, ⟨hp.1, by show b.prin ≤ _; omega⟩, ⟨Int.le_refl _, hd.2⟩, .inl rfl, ⟨Int.le_refl _, by show (0 : Int) ≤ _; decide⟩, hn, fun hle => ?_, fun hlt => ⟨rfl, ?_⟩⟩, rfl, by show 0 ≤ n - 0; omega, rfl, by show n = n - 0; omega, rfl⟩
   · exact (interest_eq S.day S.bp (p := newPer r b) rfl rfl rfl).trans hi
   · show n = 0
     have hlt' : S.day < (newPer r b).since := hlt
     unfold interestS at hi
     rw [if_pos hlt'] at hi
     injection hi with hi _
     exact hi.symm
theorem place_new {ps : List Per} {n : Int} (h : ¬ placeP n ps ≠ -1) : ∀ q ∈ ps, q.ret.per ≠ n := by
 have h : placeP n ps = -1 := by omega
 unfold placeP at h
 rcases idxI_spec (fun p : Per => decide (p.ret.per = n)) ps 0 with ⟨_, h2⟩ | ⟨i, hi, h1, _⟩
 · intro q hq e; have := h2 q hq; simp [e] at this
 · omega
theorem Good.file {S : Ac} (h : Good S) (s : Sch) (r : Ret) : Good (fileS S s r).1 := by
 unfold fileS
 by_cases h0 : (billS s (r.onDay S.day)).2 ≠ 0
 · rw [if_pos h0]; exact h
 · rw [if_neg h0]
   by_cases h1 : S.place r.per ≠ -1
   · rw [if_pos h1]; exact h
   · rw [if_neg h1]
     by_cases h2 : 20 ≤ S.ps.length
     · rw [if_pos h2]; exact h
     · rw [if_neg h2]
       obtain ⟨b, er, hb⟩ : ∃ b er, billS s (r.onDay S.day) = (b, er) := ⟨_, _, rfl⟩
       rw [hb] at h0 ⊢
       simp only at h0 ⊢
       have hbb : retB (r.onDay S.day) = true ∧ (0 ≤ b.prin ∧ b.prin ≤ 1125899906842624) ∧ (0 ≤ b.pen ∧ b.pen ≤ b.prin) ∧ (0 ≤ b.exc ∧ b.exc ≤ 1125899906842624) := by
        by_cases hs : OkS s
        · by_cases hrr : retB (r.onDay S.day) = true
          · rw [billS_yes hs hrr] at hb
            have h3 := bill_bd hs hrr
            injection hb with hb _
            rw [hb] at h3
            exact ⟨hrr, h3.2.1, h3.2.2.1, h3.2.2.2.1⟩
          · rw [billS_no2 hrr] at hb; injection hb with _ h; omega
        · rw [billS_no1 hs] at hb; injection hb with _ h; omega
       obtain ⟨hrr, hpr, hpe, hex⟩ := hbb
       unfold file1
       by_cases h3 : (settleS S.day S.bp (newPer (r.onDay S.day) b)).1 ≠ 0
       · rw [if_pos h3]; exact h
       · rw [if_neg h3]
         by_cases h4 : (addS S.cr b.exc).2 ≠ 0
         · rw [if_pos h4]; exact h
         · rw [if_neg h4]
           obtain ⟨e1, e2, e3⟩ := add_ok (by omega : (addS S.cr b.exc).2 = 0)
           obtain ⟨k1, k2, _⟩ := newPer_ok h hrr hpr hpe (by omega)
           generalize (settleS S.day S.bp (newPer (r.onDay S.day) b)).2.2 = p1 at *
           have hper : (r.onDay S.day).per = p1.ret.per := by rw [k2]
           have hri : RiseP (insP S.ps (aheadP (r.onDay S.day).per S.ps) p1) := by
            rw [hper]
            exact insP_rise h.rise (fun q hq => by rw [← hper]; exact place_new h1 q hq)
           rw [e1]
           have hcr := h.cr
           exact ⟨h.day, h.bp, by show 0 ≤ S.cr + _ ∧ S.cr + _ ≤ _; omega, by show (insP _ _ _).length ≤ 20; rw [insP_len _ _ _ (aheadP_le _ _)]; omega, h.nm, hri, fun p hp => by
            rcases insP_mem.1 hp with rfl | hp
            · exact k1
            · exact h.per p hp, fun m hm => (h.pm m hm).more hri (fun p hp => ⟨p, insP_mem.2 (.inr hp), rfl⟩), h.ids⟩
end
end Go.Proofs.YtbjjgnaojoaoiaaGreat
