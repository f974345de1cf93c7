/- Laws. -/
import Derived.Test.YtbjjgnaojoaoiaaGreatZZ14
import Derived.Test.YtbjjgnaojoaoiaaGreatZZ28
import Derived.StillTailTactics
namespace Go.Proofs.YtbjjgnaojoaoiaaGreat
open Go.RowKit Go
set_option linter.unusedVariables false
set_option linter.unusedSimpArgs false
set_option maxHeartbeats 6400000
set_option maxRecDepth 100000
section
variable {P : Program} {w : World} {ops : Array Oper} {o : Oper} {a : Act} {K : Act → World → Prop} {Q : Exit → Act → World → Prop} {E : Prop}
theorem step_callV1 (hgd : o.guard = none) (f : FuncId) (t x : Operand) (s : TypeId)
  (ho : o.op = .call { callee := .value t, args := #[x], argTypes := #[s] }) (u c : Value) (ht : a.eval t = .func (.func f) #[] #[c]) (hu : a.eval x = u)
  (hcf : ∀ w, (callFunc f #[u, c]).run P w = .ok (.enter f #[u, c]) w)
  (hc : Calls P f #[u, c] w fun e w' => ∃ u, e = .returned u ∧ K (a.put o.dst u) w') :
  if Region.wanted o (yielded ops a.tmps) = true then Oper.wp P o a w K Q else E := by
 have hw : Region.wanted o (yielded ops a.tmps) = true := by simp [Region.wanted, hgd]
 rw [if_pos hw]
 unfold Oper.wp
 have hrun : (execOp a.eval o).run P w = .ok (.enter f #[u, c]) w := by
  subst hu
  simp [execOp, ho, resolve, invoke, ht, Deferred.ofValue, hcf]
 rw [hrun, Oper.upon_enter]
 exact hc.mono (by rintro e w' ⟨u, rfl, h⟩; exact h)
end
theorem put_enter (A : Option Addr) (n c : Nat) (v : Value) (w : World) : (callFunc 61 #[.slice A n c, v]).run Tryz.prog w = .ok (.enter 61 #[.slice A n c, v]) w := by kernel_rfl
theorem put_fresh (B gb gx : Nat) (l : List Nat) (xs : List Int) (n : Nat) (cs : Array Value) (w : World) (hgx : gx = w.heap.size) (h : PutAt w B gb l) (hn : xs.length = n) (hcs : cs.toList = xs.map (Value.int .i64)) (hB : B ≤ w.heap.size) (hm : l.length + n * 10 ≤ 10000000) (hok : ∀ x ∈ xs, okN x) :
  Calls Tryz.prog 61 #[.slice (some ⟨gx, 0, none⟩) n n, .pointer (some ⟨gb, 0, none⟩)] (w.alloc (.cells cs 2)) fun e w' => (∃ x, e = .returned x) ∧ PutAt w' B gb (l ++ numsB xs) ∧ Kept w B w' := by
 subst hgx
 have hb : Below w.heap.size w (w.alloc (.cells cs 2)) := bnewU _ _
 have hx : Nums (w.alloc (.cells cs 2)) w.heap.size 0 xs := by
  have hbk : (w.alloc (.cells cs 2)).heap[w.heap.size]? = some (.cells cs 2 (0, 0)) := blk_new w (.cells cs 2) rfl
  refine ⟨⟨cs, _, _, hbk, by decide, by decide⟩, fun j hj => ?_⟩
  rw [Nat.zero_add]
  refine (blk_cell hbk j).trans ?_
  rw [← Array.getElem?_toList, hcs, List.getElem?_map, List.getElem?_eq_getElem hj]; rfl
 exact (put_any B gb w.heap.size 0 n l xs n _ hn (h.below hb) hx (Nat.le_trans hB hb.size) hm hok).mono fun e w' ⟨h1, h2, h3⟩ => ⟨h1, h2, (Kept.below hb hB).trans h3⟩
theorem cells11E {w : World} {b : Nat} {p : Per} (h : w.heap[b]? = some (.cells (perC p).toArray 92 (0, 0))) :
  w.cell? ⟨b, 0, none⟩ = some (.int .i64 p.ret.per) ∧ w.cell? ⟨b, 1, none⟩ = some (.int .i64 p.ret.due) ∧ w.cell? ⟨b, 2, none⟩ = some (.int .i64 p.ret.filed) ∧ w.cell? ⟨b, 3, none⟩ = some (.int .i64 p.ret.inc) ∧ w.cell? ⟨b, 4, none⟩ = some (.int .i64 p.ret.wh) ∧
  w.cell? ⟨b, 5, none⟩ = some (.int .i64 p.o0) ∧ w.cell? ⟨b, 6, none⟩ = some (.int .i64 p.o1) ∧ w.cell? ⟨b, 7, none⟩ = some (.int .i64 p.o2) ∧ w.cell? ⟨b, 8, none⟩ = some (.int .i64 p.since) ∧ w.cell? ⟨b, 9, none⟩ = some (.int .i64 p.done) ∧ w.cell? ⟨b, 10, none⟩ = some (.int .i64 p.acc) :=
 ⟨blk_cell h 0, blk_cell h 1, blk_cell h 2, blk_cell h 3, blk_cell h 4, blk_cell h 5, blk_cell h 6, blk_cell h 7, blk_cell h 8, blk_cell h 9, blk_cell h 10⟩
def per5 (p : Per) : List Int := [p.ret.per, p.ret.due, p.ret.filed, p.ret.inc, p.ret.wh]
def per3o (p : Per) : List Int := [p.o0, p.o1, p.o2]
def per3s (p : Per) : List Int := [p.since, p.done, p.acc]
theorem perN_split (p : Per) : perN p = per5 p ++ per3o p ++ per3s p := rfl
theorem perN_parts {p : Per} (h : ∀ n ∈ perN p, okN n) : (∀ n ∈ per5 p, okN n) ∧ (∀ n ∈ per3o p, okN n) ∧ (∀ n ∈ per3s p, okN n) := by
 rw [perN_split] at h
 exact ⟨fun n hn => h n (by simp [hn]), fun n hn => h n (by simp [hn]), fun n hn => h n (by simp [hn])⟩
@[reducible] def perO (p : Per) : Obj := .cells #[.int .i64 p.ret.per, .int .i64 p.ret.due, .int .i64 p.ret.filed, .int .i64 p.ret.inc, .int .i64 p.ret.wh, .int .i64 p.o0, .int .i64 p.o1, .int .i64 p.o2, .int .i64 p.since, .int .i64 p.done, .int .i64 p.acc] 92
theorem pmN_parts {m : Pm} (h : ∀ n ∈ pmN m, okN n) : (∀ n ∈ pmH m, okN n) ∧ (∀ n ∈ m.parts.flatMap itN, okN n) ∧ (∀ n ∈ [m.rest, revN m.rev], okN n) := by
 rw [pmN_eq] at h
 exact ⟨fun n hn => h n (by simp [hn]), fun n hn => h n (by rw [List.mem_append, List.mem_append]; exact .inl (.inr hn)), fun n hn => h n (by rw [List.mem_append]; exact .inr hn)⟩
theorem PartsAt.keepK {w w' : World} {B : Nat} {v : Value} {l : List Dq} (h : PartsAt w v l) (hk : Kept w B w') : PartsAt w' v l :=
 h.keep fun b cs hc => (hk.keep b cs _ _ hc (by decide) (by decide)).trans hc.symm
def BytesOut (w : World) (l : List Nat) (e : Ending) (w' : World) : Prop :=
 ∃ A c, e = .returned (.slice A l.length c) ∧ w'.ownsRow w.heap.size 5 1 (.slice A l.length c) l.length (bys l) ∧ Below w.heap.size w w'
theorem save_any (g B : Nat) (S : Ac) (w : World) (h : OwnAt w B g S) (hG : Good S) :
  Calls Tryz.prog 26 #[.pointer (some ⟨g, 0, none⟩)] w (BytesOut w (saveB S)) := by
 have hmf : ∀ (fn : Fn) (first cap : Array Value) (w : World), (Instr.makeFunc fn first cap).run Tryz.prog w = .ok (.func fn first cap) w := fun _ _ _ _ => rfl
 obtain ⟨vp, vq, qs, hv⟩ := h
 obtain ⟨Ap, kp, rfl, hkp, _⟩ := hv.rdp
 obtain ⟨Aq, kq, rfl, hkq, _⟩ := hv.rdq
 obtain ⟨a0, a1, a2, a3, a4, a5⟩ := cells5U hv.hg
 have hgl := blk_lt hv.hg
 have hnp := hG.np; have hnm := hG.nm
 obtain ⟨np, hNP⟩ : ∃ np, S.ps.length = np := ⟨_, rfl⟩
 obtain ⟨nm, hNM⟩ : ∃ nm, S.ms.length = nm := ⟨_, rfl⟩
 have hb0 : Below w.heap.size w (w.alloc (.cells #[.slice none 0 0] 66)) := bnewU _ _
 have hp0 : PutAt (w.alloc (.cells #[.slice none 0 0] 66)) w.heap.size w.heap.size [] := ⟨_, blk_new w (.cells #[.slice none 0 0] 66) rfl, Nat.le_refl _, World.ownsRow_nil _ _ _ _⟩
 have hpo := pre_ok hG (pre1_ok (S := S) 0)
 have e0 : pre1 S 0 = [S.day, S.bp, S.cr, (np : Int)] := by unfold pre1 hdrN; rw [hNP]; simp
 rw [e0] at hpo
 have HP0 := hyd (put_fresh w.heap.size w.heap.size (w.heap.size + 1) [] [S.day, S.bp, S.cr, (np : Int)] 4 #[.int .i64 S.day, .int .i64 S.bp, .int .i64 S.cr, .int .i64 (np : Int)] (w.alloc (.cells #[.slice none 0 0] 66)).drew (by simp) (hp0.below (Below.refl _ _).drew) rfl rfl hb0.size (by simp) hpo.1)
 rw [hNP] at a3 hnp; rw [hNM] at a4 hnm
 have hg2 : g ≠ w.heap.size := by omega
 have HV := hyd hv; have HG := hyd hG; have HNP := hyd hNP; have HNM := hyd hNM; have HB0 := hyd hb0; have HE0 := hyd e0
 clear hv hG hkp hkq hNP hNM hb0 hp0 hpo e0
 go_enter Tryz.func26, Tryz.ntmps26
 go_upto_region 3 with fail
 go_cut [] from 13 to 32 (fun wc => PutAt wc w.heap.size w.heap.size (numsB (pre1 S 0)) ∧ Below w.heap.size w wc)
 case first =>
  obtain ⟨d0, d1, d2, d3, d4, d5⟩ := cells5U (HV.out.below HB0.out).hg
  rw [HNP.out] at d3; rw [HNM.out] at d4
  have hXs : (w.alloc (.cells #[.slice none 0 0] 66)).heap.size = w.heap.size + 1 := by simp
  clear a0 a1 a2 a3 a4 a5
  generalize w.alloc (.cells #[.slice none 0 0] 66) = X at *
  go_region_law (refine step_callV1 rfl 61 (.tmp 13) (.tmp 31) 26 rfl (.slice (some ⟨w.heap.size + 1, 0, none⟩) 4 4) (.pointer (some ⟨w.heap.size, 0, none⟩)) rfl (by first | rfl | (rw [← hXs]; rfl)) (put_enter _ _ _ _) ?_
                 refine HP0.out.mono ?_; rintro e w1 ⟨⟨u, rfl⟩, hpa, hkp⟩; refine ⟨_, rfl, ?_⟩
                 have HPA := hyd hpa; have HKP := hyd hkp
                 clear hpa hkp)
  all_goals go_wp2_with fail
  all_goals go_meet
  all_goals exact ⟨by rw [HE0.out]; exact HPA.out, HB0.out.drew.trans HKP.out.bel⟩
 case rest =>
  obtain ⟨hpa, hbc⟩ := hcut
  have hvc := HV.out.below hbc
  obtain ⟨c0, c1, c2, c3, c4, c5⟩ := cells5U hvc.hg
  rw [HNP.out] at c3; rw [HNM.out] at c4
  have hglc := blk_lt hvc.hg
  have HPA := hyd hpa; have HBC := hyd hbc
  clear hpa hbc hvc a0 a1 a2 a3 a4 a5
  go_upto_block 0 with fail
  go_cut [6] from 38 to 73 (fun v6 w9 => PutAt w9 w.heap.size w.heap.size (numsB (pre1 S np)) ∧ Below w.heap.size w w9)
  case first =>
   go_wp2_with fail
   go_loopg [38] np (fun gh v38 wr => ∃ k : Nat, gh = np - k ∧ k ≤ np ∧ v38 = .int .i64 k ∧ PutAt wr w.heap.size w.heap.size (numsB (pre1 S k)) ∧ Below w.heap.size w wr)
   case atStart => exact ⟨0, rfl, by omega, rfl, HPA.out, HBC.out⟩
   case round =>
    obtain ⟨k, hgk, hk, rfl, hpa, hbr⟩ := hrel
    have HG2 := hyd hgk; have HPR := hyd hpa; have HB := hyd hbr
    by_cases hlt : k < np
    · have hkl : k < S.ps.length := by rw [HNP.out]; exact hlt
      have hvr := HV.out.below hbr
      obtain ⟨A', c', e', _, hrd⟩ := hvr.rdp
      injection e' with e1 _ e3; subst e1; subst e3
      obtain ⟨b, off, rfl, hb, x0, x1, x2, x3, x4, x5, x6, x7, x8, x9, x10⟩ := hrd.per hkl
      have HNX := hyd (pre1_next hkl)
      obtain ⟨hok, hlen⟩ := pre_ok HG.out (pre1_ok (S := S) k)
      have hper := HG.out.per _ (List.getElem_mem hkl)
      have hpn := perN_ok hper
      generalize S.ps[k] = p at *
      have i1 : (0 : Int) ≤ (k : Int) := by omega
      have i2 : (k : Int) < (np : Int) := by omega
      have hX := blk_new wr (perO p) rfl
      have hXb : Below wr.heap.size wr (wr.alloc (perO p)) := bnewU _ _
      have hrs := hbr.size
      have hpX := hpa.below hXb
      obtain ⟨hn1, hn2, hn3⟩ := perN_parts hpn
      have l1 := numsB_len hn1
      have H1 := hyd (put_fresh w.heap.size w.heap.size (wr.heap.size + 1) (numsB (pre1 S k)) (per5 p) 5 #[.int .i64 p.ret.per, .int .i64 p.ret.due, .int .i64 p.ret.filed, .int .i64 p.ret.inc, .int .i64 p.ret.wh] (wr.alloc (perO p)) (by simp) hpX rfl rfl (Nat.le_trans hrs hXb.size) (by omega) hn1)
      have HX := hyd hX; have HXB := hyd hXb; have HPN := hyd hpn; have HLE := hyd hlen; have HL1 := hyd l1
      have HN2 := hyd hn2; have HN3 := hyd hn3
      clear hgk hpa hbr hvr hrd hok hlen hper hpn hX hXb hpX hn1 hn2 hn3 l1
      go_wp2_with fail
      refine H1.out.mono ?_; rintro e w1 ⟨⟨u1, rfl⟩, hp1, hk1⟩
      have hX1 := hk1.keep _ _ _ _ HX.out (by decide) (by decide)
      obtain ⟨y0, y1, y2, y3, y4, y5, y6, y7, y8, y9, y10⟩ := cells11E hX1
      have hx1l := blk_lt hX1
      have l2 := numsB_len HN2.out
      have hLL : (numsB (pre1 S k) ++ numsB (per5 p)).length ≤ 131000 := by rw [List.length_append]; have h1 := HLE.out; have h2 : _ ≤ 5 * 10 := HL1.out; omega
      have hB1 := hk1.bel.size
      have hNU : Nums w1 wr.heap.size 5 (per3o p) := ⟨⟨_, _, _, hX1, by decide, by decide⟩, fun j hj => by
       have hj3 : j < 3 := hj
       rcases (show j = 0 ∨ j = 1 ∨ j = 2 by omega) with rfl | rfl | rfl
       · exact y5
       · exact y6
       · exact y7⟩
      have H2 := hyd (put_any w.heap.size w.heap.size wr.heap.size 5 3 (numsB (pre1 S k) ++ numsB (per5 p)) (per3o p) 3 w1 rfl hp1 hNU (by have := HXB.out.size; omega) (by omega) HN2.out)
      have HX1 := hyd hX1; have HK1 := hyd hk1; have HLL := hyd hLL; have HL2 := hyd l2
      clear hX1 hk1 hp1 l2 hLL hNU H1
      go_wp2_with fail
      refine H2.out.mono ?_; rintro e w2 ⟨⟨u2, rfl⟩, hp2, hk2⟩
      clear y0 y1 y2 y3 y4 y5 y6 y7 y8 y9 y10
      have hX2 := hk2.keep _ _ _ _ HX1.out (by decide) (by decide)
      obtain ⟨y0, y1, y2, y3, y4, y5, y6, y7, y8, y9, y10⟩ := cells11E hX2
      have hx2l := blk_lt hX2
      have hLM : (numsB (pre1 S k) ++ numsB (per5 p) ++ numsB (per3o p)).length ≤ 132000 := by rw [List.length_append]; have h1 := HLL.out; have h2 : _ ≤ 3 * 10 := HL2.out; omega
      have hB2 := hk2.bel.size
      have H3 := hyd (put_fresh w.heap.size w.heap.size w2.heap.size (numsB (pre1 S k) ++ numsB (per5 p) ++ numsB (per3o p)) (per3s p) 3 #[.int .i64 p.since, .int .i64 p.done, .int .i64 p.acc] w2 rfl hp2 rfl rfl (by have := HXB.out.size; omega) (by omega) HN3.out)
      have HK2 := hyd hk2
      clear hX2 hk2 hp2 hLM H2
      go_wp2_with fail
      refine H3.out.mono ?_; rintro e w3 ⟨⟨u3, rfl⟩, hp3, hk3⟩
      have HP3 : Hid (PutAt w3 w.heap.size w.heap.size (numsB (pre1 S (k + 1)))) := hyd (by
       rw [HNX.out, perN_split, numsB_app, numsB_app, numsB_app, ← List.append_assoc, ← List.append_assoc]; exact hp3)
      have HB3 : Hid (Below w.heap.size w w3) := hyd (HB.out.trans ((HXB.out.mono hrs).trans (HK1.out.bel.trans (HK2.out.bel.trans hk3.bel))))
      clear hp3 hk3 H3
      go_wp2_with fail
      go_roundg (np - (k + 1))
      case measure => have := HG2.out; omega
      case rel => exact ⟨k + 1, rfl, by omega, by go_num, HP3.out, HB3.out⟩
    · have hkn : k = np := by omega
      subst hkn
      clear hgk hpa hbr
      go_wp2_with fail
      all_goals go_meet
      all_goals exact ⟨HPR.out, HB.out⟩
  case rest =>
   obtain ⟨hpd, hbd⟩ := hcut
   have hvd := HV.out.below hbd
   obtain ⟨d0, d1, d2, d3, d4, d5⟩ := cells5U hvd.hg
   rw [HNP.out] at d3; rw [HNM.out] at d4
   have hgld := blk_lt hvd.hg
   have hpo := pre_ok HG.out (pre1_ok (S := S) np)
   have hds := hbd.size
   have HM := hyd (put_fresh w.heap.size w.heap.size wc.heap.size (numsB (pre1 S np)) [(nm : Int)] 1 #[.int .i64 (nm : Int)] wc rfl hpd rfl rfl hds (by omega) (fun x hx => by simp only [List.mem_cons, List.not_mem_nil, or_false] at hx; subst hx; unfold okN; omega))
   have HBD := hyd hbd
   clear hpd hbd hvd hpo c0 c1 c2 c3 c4 c5 HPA HBC
   go_wp2_with fail
   refine HM.out.mono ?_; rintro e we ⟨⟨ue, rfl⟩, hpe, hke⟩
   have HPE : Hid (PutAt we w.heap.size w.heap.size (numsB (pre2 S 0))) := hyd (by
    rw [← pre1_last, numsB_app, HNP.out, HNM.out]; exact hpe)
   have hbe : Below w.heap.size w we := HBD.out.trans hke.bel
   have hve := HV.out.below hbe
   obtain ⟨c0, c1, c2, c3, c4, c5⟩ := cells5U hve.hg
   rw [HNP.out] at c3; rw [HNM.out] at c4
   have hgle := blk_lt hve.hg
   have HBE := hyd hbe
   clear hpe hke hbe hve d0 d1 d2 d3 d4 d5 HM
   go_upto_block 0 with fail
   go_loopg [87] nm (fun gh v87 wr => ∃ k : Nat, gh = nm - k ∧ k ≤ nm ∧ v87 = .int .i64 k ∧ PutAt wr w.heap.size w.heap.size (numsB (pre2 S k)) ∧ Below w.heap.size w wr)
   case atStart => exact ⟨0, rfl, by omega, rfl, HPE.out, HBE.out⟩
   case round =>
    obtain ⟨k, hgk, hk, rfl, hpa, hbr⟩ := hrel
    have HG2 := hyd hgk; have HPR := hyd hpa; have HB := hyd hbr
    by_cases hlt : k < nm
    · have hkl : k < S.ms.length := by rw [HNM.out]; exact hlt
      have hvr := HV.out.below hbr
      have hkq : k < qs.length := by rw [hvr.len]; exact hkl
      obtain ⟨A', c', e', _, hrd⟩ := hvr.rdq
      injection e' with e1 _ e3; subst e1; subst e3
      obtain ⟨b, off, rfl, hb, x0, x1, x2, x3, x4, x5⟩ := hrd.pm hkq
      have hat := hvr.at_ hkl
      have hpt := hvr.parts _ (List.getElem_mem hkq)
      have hq1 : qs[k].p = S.ms[k] := by rw [hat]
      rw [hq1] at x0 x1 x2 x4 x5 hpt
      have HNX := hyd (pre3_last hkl)
      have HP3 := hyd (fun j => pre_ok HG.out (pre3_ok hkl j))
      obtain ⟨hok, hlen⟩ := pre_ok HG.out (pre2_ok (S := S) k)
      have hpm := pmN_ok HG.out.per (HG.out.pm _ (List.getElem_mem hkl))
      have hp60 := (HG.out.pm _ (List.getElem_mem hkl)).len
      generalize qs[k].v = v at *
      generalize S.ms[k] = m at *
      obtain ⟨Ai, ci, rfl⟩ := hpt.form
      obtain ⟨ni, hni⟩ : ∃ ni, m.parts.length = ni := ⟨_, rfl⟩
      rw [hni] at x3 hpt hp60
      have i1 : (0 : Int) ≤ (k : Int) := by omega
      have i2 : (k : Int) < (nm : Int) := by omega
      have hX := blk_new wr (.cells #[.int .i64 m.id, .int .i64 m.day, .int .i64 m.amt, .slice Ai ni ci, .int .i64 m.rest, .bool m.rev] 110) rfl
      have hXb : Below wr.heap.size wr (wr.alloc (.cells #[.int .i64 m.id, .int .i64 m.day, .int .i64 m.amt, .slice Ai ni ci, .int .i64 m.rest, .bool m.rev] 110)) := bnewU _ _
      have hrs := hbr.size
      have hpX := hpa.below hXb
      obtain ⟨hn1, hn2, hn3⟩ := pmN_parts hpm
      have l1 := numsB_len hn1
      have hl1 : (numsB (pmH m)).length ≤ 4 * 10 := l1
      have H1 := hyd (put_fresh w.heap.size w.heap.size (wr.heap.size + 1) (numsB (pre2 S k)) (pmH m) 4 #[.int .i64 m.id, .int .i64 m.day, .int .i64 m.amt, .int .i64 (ni : Int)] (wr.alloc (.cells #[.int .i64 m.id, .int .i64 m.day, .int .i64 m.amt, .slice Ai ni ci, .int .i64 m.rest, .bool m.rev] 110)) (by simp) hpX rfl (by rw [← hni]; rfl) (Nat.le_trans hrs hXb.size) (by omega) hn1)
      have HX := hyd hX; have HXB := hyd hXb; have HLE := hyd hlen; have HPT := hyd (hpt.below hXb); have HNI := hyd hni
      have HN2 := hyd hn2; have HN3 := hyd hn3; have HL1 := hyd hl1
      clear hgk hpa hbr hvr hrd hok hlen hpm hpt hX hXb hpX hn1 hn2 hn3 l1 hl1 hat hq1 hkq hni
      go_wp2_with fail
      refine H1.out.mono ?_; rintro e w1 ⟨⟨u1, rfl⟩, hp1, hk1⟩
      have hX1 := hk1.keep _ _ _ _ HX.out (by decide) (by decide)
      obtain ⟨y0, y1, y2, y3, y4, y5, y6⟩ := cells6U hX1
      have hx1l := blk_lt hX1
      have HP1 : Hid (PutAt w1 w.heap.size w.heap.size (numsB (pre3 S k m 0))) := hyd (by
       have e : pre3 S k m 0 = pre2 S k ++ pmH m := by unfold pre3; simp
       rw [e, numsB_app]; exact hp1)
      have HK1 := hyd hk1; have HX1 := hyd hX1
      clear hp1 hk1 hX1 H1
      go_upto_block 4 with fail
      go_cut [10] from 106 to 121 (fun v10 wz => PutAt wz w.heap.size w.heap.size (numsB (pre3 S k m ni)) ∧ Kept w1 w.heap.size wz)
      case first =>
       go_wp2_with fail
       go_loopg [106] ni (fun gh v106 wz => ∃ j : Nat, gh = ni - j ∧ j ≤ ni ∧ v106 = .int .i64 j ∧ PutAt wz w.heap.size w.heap.size (numsB (pre3 S k m j)) ∧ Kept w1 w.heap.size wz)
       case atStart => exact ⟨0, rfl, by omega, rfl, HP1.out, Kept.refl _ _⟩
       case round =>
        obtain ⟨j, hgj, hj, rfl, hpj, hkj⟩ := hrel
        have HGJ := hyd hgj; have HPJ := hyd hpj; have HKJ := hyd hkj
        by_cases hjt : j < ni
        · have hjl : j < m.parts.length := by rw [HNI.out]; exact hjt
          have hpt := (HPT.out.keepK HK1.out).keepK hkj
          have hrd := hpt.rd.2.2.2
          obtain ⟨b2, o2, rfl, hb2, z0, z1, z2, z3⟩ := hrd.it hjl
          have HNJ := hyd (pre3_next (S := S) (k := k) hjl)
          have hlen := (HP3.out j).2
          have hitn : ∀ n ∈ itN m.parts[j], okN n := fun n hn => HN2.out n (List.mem_flatMap.2 ⟨_, List.getElem_mem hjl, hn⟩)
          generalize m.parts[j] = x at *
          have j1 : (0 : Int) ≤ (j : Int) := by omega
          have j2 : (j : Int) < (ni : Int) := by omega
          have hXb : Below wr.heap.size wr (wr.alloc (.cells #[.int .i64 x.due, .int .i64 x.kind, .int .i64 x.per, .int .i64 x.opn] 58)) := bnewU _ _
          have hzs : w.heap.size ≤ wr.heap.size := by have := hkj.bel.size; have := HK1.out.bel.size; have := HXB.out.size; omega
          have H4 := hyd (put_fresh w.heap.size w.heap.size (wr.heap.size + 1) (numsB (pre3 S k m j)) (itN x) 4 #[.int .i64 x.due, .int .i64 x.kind, .int .i64 x.per, .int .i64 x.opn] (wr.alloc (.cells #[.int .i64 x.due, .int .i64 x.kind, .int .i64 x.per, .int .i64 x.opn] 58)) (by simp) (hpj.below hXb) rfl rfl (Nat.le_trans hzs hXb.size) (by omega) hitn)
          have HXZ := hyd (Kept.below hXb hzs)
          clear hgj hpj hkj hpt hrd hlen hitn hXb
          go_wp2_with fail
          refine H4.out.mono ?_; rintro e w4 ⟨⟨u4, rfl⟩, hp4, hk4⟩
          have HP4 : Hid (PutAt w4 w.heap.size w.heap.size (numsB (pre3 S k m (j + 1)))) := hyd (by rw [HNJ.out, numsB_app]; exact hp4)
          have HK4 := hyd (HKJ.out.trans (HXZ.out.trans hk4))
          clear hp4 hk4 H4
          go_wp2_with fail
          go_roundg (ni - (j + 1))
          case measure => have := HGJ.out; omega
          case rel => exact ⟨j + 1, rfl, by omega, by go_num, HP4.out, HK4.out⟩
        · have hjn : j = ni := by omega
          subst hjn
          clear hgj hpj hkj
          go_wp2_with fail
          all_goals go_meet
          all_goals exact ⟨HPJ.out, HKJ.out⟩
      case rest =>
       obtain ⟨hpc, hkc⟩ := hcut
       have hXc := hkc.keep _ _ _ _ HX1.out (by decide) (by decide)
       clear y0 y1 y2 y3 y4 y5 y6
       obtain ⟨y0, y1, y2, y3, y4, y5, y6⟩ := cells6U hXc
       have hxcl := blk_lt hXc
       have hlen := (HP3.out ni).2
       have hcs : w.heap.size ≤ wc.heap.size := by have := hkc.bel.size; have := HK1.out.bel.size; have := HXB.out.size; omega
       have H5 := hyd (put_fresh w.heap.size w.heap.size wc.heap.size (numsB (pre3 S k m ni)) [m.rest, revN m.rev] 2 #[.int .i64 m.rest, .int .i64 (revN m.rev)] wc rfl hpc rfl rfl hcs (by omega) HN3.out)
       have HKC := hyd hkc
       have HNX2 : Hid (pre3 S k m ni ++ [m.rest, revN m.rev] = pre2 S (k + 1)) := hyd (by rw [← HNX.out, HNI.out])
       clear hpc hkc hXc hlen
       cases hrv : m.rev
       all_goals
        rw [hrv] at y5 H5 HNX2
        clear hrv
        go_wp2_with fail
        refine H5.out.mono ?_; rintro e w6 ⟨⟨u6, rfl⟩, hp6, hk6⟩
        have HP6 : Hid (PutAt w6 w.heap.size w.heap.size (numsB (pre2 S (k + 1)))) := hyd (by rw [← HNX2.out, numsB_app]; exact hp6)
        have HB6 : Hid (Below w.heap.size w w6) := hyd (HB.out.trans ((HXB.out.mono hrs).trans (HK1.out.bel.trans (HKC.out.bel.trans hk6.bel))))
        clear hp6 hk6 H5
        go_wp2_with fail
        go_roundg (nm - (k + 1))
        case measure => have := HG2.out; omega
        case rel => exact ⟨k + 1, rfl, by omega, by go_num, HP6.out, HB6.out⟩
    · have hkn : k = nm := by omega
      subst hkn
      obtain ⟨v, hv⟩ := HPR.out
      obtain ⟨vc0, vc1⟩ : wr.cell? ⟨w.heap.size, 0, none⟩ = some v ∧ wr.frozen? ⟨w.heap.size, 0, none⟩ = false := ⟨(blk_cell hv.hg 0).trans rfl, blk_free hv.hg 0⟩
      have hgr := blk_lt hv.hg
      obtain ⟨A5, c5, rfl, _⟩ := own_form hv.row
      have HVV := hyd hv.row
      clear hgk hpa hbr hv
      go_wp2_with fail
      go_ret
      have e : saveB S = numsB (pre2 S k) := by unfold saveB; rw [← pre2_last, HNM.out]
      rw [e]
      exact ⟨A5, c5, rfl, HVV.out, HB.out⟩
theorem rnums_fresh (gx : Nat) (xs : List Int) (n : Nat) (cs : Array Value) (w : World) (hgx : gx = w.heap.size) (hn : xs.length = n) (hcs : cs.toList = xs.map (Value.int .i64)) (hok : ∀ x ∈ xs, okN x) (h1 : n ≤ 100) :
  Calls Tryz.prog 134 #[.slice (some ⟨gx, 0, none⟩) n n] (w.alloc (.cells cs 2)) fun e w' => ∃ A' c', e = .returned (.slice A' (numsB xs).length c') ∧ w'.ownsRow w.heap.size 5 1 (.slice A' (numsB xs).length c') (numsB xs).length (bys (numsB xs)) ∧ Below w.heap.size w w' := by
 subst hgx
 have hb : Below w.heap.size w (w.alloc (.cells cs 2)) := bnewU _ _
 have hbk : (w.alloc (.cells cs 2)).heap[w.heap.size]? = some (.cells cs 2 (0, 0)) := blk_new w (.cells cs 2) rfl
 have hr : Rd (w.alloc (.cells cs 2)) (w.alloc (.cells cs 2)).heap.size 1 (some ⟨w.heap.size, 0, none⟩) n (ints xs) := by
  refine ⟨by simp [ints, hn], fun h0 => ⟨w.heap.size, 0, rfl, blk_lt hbk, fun j hj => ?_⟩⟩
  rw [Nat.zero_add]
  refine (blk_cell hbk j).trans ?_
  rw [← Array.getElem?_toList, hcs]; rfl
 refine (rnumbers_any _ n n xs _ hn hr hok h1).mono ?_
 rintro e w' ⟨A', c', rfl, ho, hb2⟩
 exact ⟨A', c', rfl, own_mono ho hb.size, hb.trans (hb2.mono hb.size)⟩
def SaveAt (w wr : World) (P : List Int) (v : Value) : Prop := ∃ m, (numsB P).length = m ∧ wr.ownsRow w.heap.size 5 1 v m (bys (numsB P)) ∧ Below w.heap.size w wr
theorem SaveAt.app {w w5 : World} {P Q R : List Int} {m n2 : Nat} {v5 : Value} (hP : (numsB P).length = m) (hQ : (numsB Q).length = n2) (hR : R = P ++ Q) (ho : w5.ownsRow w.heap.size 5 1 v5 (m + n2) (bys (numsB P) ++ bys (numsB Q))) (hb : Below w.heap.size w w5) : SaveAt w w5 R v5 := by
 subst hR
 exact ⟨m + n2, by rw [numsB_app, List.length_append, hP, hQ], by rw [numsB_app, bys_app]; exact ho, hb⟩
theorem rnums_more (gx : Nat) (xs : List Int) (n : Nat) (cs : Array Value) (X : World) (hgx : gx = X.heap.size) (hn : xs.length = n) (hcs : cs.toList = xs.map (Value.int .i64)) (hok : ∀ x ∈ xs, okN x) (h1 : n ≤ 100) :
  Calls Tryz.prog 134 #[.slice (some ⟨gx, 0, none⟩) n n] (X.alloc (.cells cs 2)) fun e w' => ∃ A' n2 c', e = .returned (.slice A' n2 c') ∧ (numsB xs).length = n2 ∧ Rd w' w'.heap.size 1 A' n2 (bys (numsB xs)) ∧ Below X.heap.size X w' :=
 (rnums_fresh gx xs n cs X hgx hn hcs hok h1).mono (by
   rintro e w' ⟨A', c', rfl, ho, hb⟩
   exact ⟨A', _, c', rfl, rfl, Rd.of_own ho, hb⟩)
theorem pre_len {S : Ac} (h : Good S) {P Q R : List Int} (hR : R = P ++ Q) (hp : ∃ T, R ++ T = saveN S) : (∀ x ∈ Q, okN x) ∧ (numsB P).length + (numsB Q).length ≤ 130000 := by
 subst hR
 have h1 := pre_ok h hp
 rw [numsB_app, List.length_append] at h1
 exact ⟨fun x hx => h1.1 x (by simp [hx]), h1.2⟩
theorem ref_pm {qs : List PmE} {ms : List Pm} (h : qs.map PmE.p = ms) {k : Nat} (hk : k < ms.length) (hq : k < qs.length) : qs[k].p = ms[k] := by subst h; simp
@[reducible] def pmX (q : Pm) (v : Value) : Obj := .cells #[.int .i64 q.id, .int .i64 q.day, .int .i64 q.amt, v, .int .i64 q.rest, .bool q.rev] 110
@[reducible] def itX (x : Dq) : Obj := .cells #[.int .i64 x.due, .int .i64 x.kind, .int .i64 x.per, .int .i64 x.opn] 58
theorem rsave_any (g B : Nat) (S : Ac) (w : World) (h : RefAt w B g S) (hG : Good S) :
  Calls Tryz.prog 78 #[.pointer (some ⟨g, 0, none⟩)] w (BytesOut w (saveB S)) := by
 obtain ⟨vp, vq, qs, hv⟩ := h
 obtain ⟨Ap, kp, rfl, hkp, _⟩ := hv.rdp
 obtain ⟨Aq, kq, rfl, hkq, _⟩ := hv.rdq
 obtain ⟨a0, a1, a2, a3, a4, a5⟩ := cells5U hv.hg
 have hgl := blk_lt hv.hg
 have hnp := hG.np; have hnm := hG.nm
 obtain ⟨np, hNP⟩ : ∃ np, S.ps.length = np := ⟨_, rfl⟩
 obtain ⟨nm, hNM⟩ : ∃ nm, S.ms.length = nm := ⟨_, rfl⟩
 rw [hNP] at a3 hnp; rw [hNM] at a4 hnm
 have HV := hyd hv; have HG := hyd hG; have HNP := hyd hNP; have HNM := hyd hNM
 have hpre := pre_ok hG (pre1_ok (S := S) 0)
 have hpre0 : pre1 S 0 = [S.day, S.bp, S.cr, (np : Int)] := by unfold pre1 hdrN; rw [hNP]; simp
 rw [hpre0] at hpre
 have HN1 := hyd (rnums_fresh w.drew.heap.size [S.day, S.bp, S.cr, (np : Int)] 4 #[.int .i64 S.day, .int .i64 S.bp, .int .i64 S.cr, .int .i64 (np : Int)] w.drew rfl rfl rfl hpre.1 (by omega))
 clear hv hG hNP hNM hpre hpre0
 go_enter Tryz.func78, Tryz.ntmps78
 go_upto_region 1 with fail
 go_still_tail 17, (by kernel_rfl)
 change wpList _ _ _ _ _ w.drew
 go_wp2_with fail
 refine HN1.out.mono ?_; rintro e w1 ⟨A1, c1, rfl, ho1, hb1⟩
 have hb1' : Below w.heap.size w w1 := ((Below.refl _ _).drew).trans hb1
 have HP1 : Hid (w1.ownsRow w.heap.size 5 1 (.slice A1 (numsB (pre1 S 0)).length c1) (numsB (pre1 S 0)).length (bys (numsB (pre1 S 0)))) := hyd (by
  have e : pre1 S 0 = [S.day, S.bp, S.cr, (np : Int)] := by unfold pre1 hdrN; rw [HNP.out]; simp
  rw [e]; exact ho1)
 have HB1 := hyd hb1'
 have e0 : numsB [S.day, S.bp, S.cr, (np : Int)] = numsB (pre1 S 0) := by unfold pre1 hdrN; rw [HNP.out]; simp
 rw [e0]
 clear ho1 hb1 hb1' HN1 a0 a1 a2 a3 a4 a5 e0
 have hS0 : Hid (SaveAt w w1 (pre1 S 0) (.slice A1 (numsB (pre1 S 0)).length c1)) := hyd ⟨_, rfl, HP1.out, HB1.out⟩
 obtain ⟨i0, hi, hz0, hz1, hz2⟩ := info_parts info_u8
 go_upto_block 0 with fail
 go_cut [3] from 30 to 81 (fun v3 wc => SaveAt w wc (pre1 S np) v3)
 case first =>
  go_wp2_with fail
  go_loopg [3, 4] np (fun gh v3 v4 wr => ∃ k : Nat, gh = np - k ∧ k ≤ np ∧ v4 = .int .i64 k ∧ SaveAt w wr (pre1 S k) v3)
  case atStart => exact ⟨0, rfl, by omega, rfl, hS0.out⟩
  case round =>
   obtain ⟨k, hgk, hk, rfl, m, hm, hown, hbr⟩ := hrel
   have HGK := hyd hgk; have HO := hyd hown; have HB := hyd hbr; have HM := hyd hm
   have hvr := HV.out.below hbr
   have hzr := hbr.size
   obtain ⟨a0, a1, a2, a3, a4, a5⟩ := cells5U hvr.hg
   rw [HNP.out] at a3
   have hgr := blk_lt hvr.hg
   obtain ⟨A3, k3, rfl, _⟩ := own_form hown
   by_cases hlt : k < np
   · have hkS : k < S.ps.length := by rw [HNP.out]; exact hlt
     obtain ⟨gp, cap, e1, _, _, hper⟩ := hvr.per (i := k) hkS
     injection e1 with e1 _ e3; subst e1; subst e3
     have hgpl := hper.lt
     obtain ⟨⟨c0, c1, c2, c3, c4, c5, c6, c7⟩, c8, c9, c10, c11, c12⟩ := hper.all
     have HNX := hyd (pre1_next hkS)
     obtain ⟨hok, hle⟩ := pre_len HG.out (pre1_next hkS) (pre1_ok (S := S) (k + 1))
     rw [hm] at hle
     generalize S.ps[k] = p at *
     obtain ⟨n2, hn2⟩ : ∃ n2, (numsB (perN p)).length = n2 := ⟨_, rfl⟩
     rw [hn2] at hle
     have hXB : Below wr.heap.size wr (wr.alloc (perYO S.bp (p, p.o2))) := bnewU _ _
     have HX := hyd (blk_new wr (perYO S.bp (p, p.o2)) rfl)
     have HBX := hyd (hbr.trans (hXB.mono hzr)); have HOX := hyd (own_below hown hXB)
     have hzX : w.heap.size ≤ (wr.alloc (perYO S.bp (p, p.o2))).heap.size := Nat.le_trans hzr hXB.size
     have i1 : (0 : Int) ≤ (k : Int) := by omega
     have i2 : (k : Int) < (np : Int) := by omega
     have HOKN := hyd hok; have HN2 := hyd hn2
     clear hgk hown hbr hvr hper hXB hm hok hn2
     go_upto_region 6 with fail
     generalize wr.alloc (perYO S.bp (p, p.o2)) = X at *
     have x0 := blk_cell HX.out 0; have x1 := blk_cell HX.out 1; have x2 := blk_cell HX.out 2; have x3 := blk_cell HX.out 3; have x4 := blk_cell HX.out 4; have x5 := blk_cell HX.out 5; have x6 := blk_cell HX.out 6
     have x7 := blk_cell HX.out 7; have x8 := blk_cell HX.out 8; have x9 := blk_cell HX.out 9; have x10 := blk_cell HX.out 10; have x11 := blk_cell HX.out 11; have x12 := blk_cell HX.out 12
     simp only [List.getElem?_toArray, List.getElem?_cons_succ, List.getElem?_cons_zero] at x0 x1 x2 x3 x4 x5 x6 x7 x8 x9 x10 x11 x12
     have hxl := blk_lt HX.out
     have HNU := hyd (rnums_more X.heap.size (perN p) 11 #[.int .i64 p.ret.per, .int .i64 p.ret.due, .int .i64 p.ret.filed, .int .i64 p.ret.inc, .int .i64 p.ret.wh, .int .i64 p.o0, .int .i64 p.o1, .int .i64 p.o2, .int .i64 p.since, .int .i64 p.done, .int .i64 p.acc] X rfl rfl rfl HOKN.out (by omega))
     rw [HN2.out] at HNU
     clear a0 a1 a2 a3 a4 a5 c0 c1 c2 c3 c4 c5 c6 c7 c8 c9 c10 c11 c12 hgr hgpl
     go_wp2_with fail
     refine HNU.out.mono ?_; rintro e w2 ⟨A2, n2', c2, rfl, rfl, hr2, hb2⟩
     have HO2 := hyd (own_below HOX.out hb2); have HR2 := hyd hr2
     have HB2 := hyd (HBX.out.trans (hb2.mono hzX))
     have hz2w : w.heap.size ≤ w2.heap.size := HB2.out.size
     clear hr2 hb2 HNU x0 x1 x2 x3 x4 x5 x6 x7 x8 x9 x10 x11 x12 hxl
     go_wp2_with (at_builtin; (refine wpList_app rfl (.tmp 46) (.tmp 80) _ rfl w.heap.size 5 i0 _ 1 1 Tryz.underlying66 hi hz0 hz1 hz2 rfl (by omega) (.slice A3 m k3) m _ rfl HO2.out w2.heap.size A2 n2 c2 (bys (numsB (perN p))) rfl HR2.out bys_one (by unfold maxLen; omega) (by omega) hz2w ?_; intro v5 w5 hO hgr hat; have HS5 : Hid (SaveAt w w5 (pre1 S (k + 1)) v5) := hyd (SaveAt.app HM.out HN2.out HNX.out hO (HB2.out.grown hgr hz2w (fun k hk => (own_block_type HO2.out hk).1))); clear hO hgr hat))
     go_roundg (np - (k + 1))
     case measure => have := HGK.out; omega
     case rel => exact ⟨k + 1, rfl, by omega, by go_num, HS5.out⟩
   · have hkn : k = np := by omega
     subst hkn
     clear hgk hown hbr hvr hm
     go_wp2_with fail
     all_goals go_meet
     all_goals exact ⟨m, HM.out, HO.out, HB.out⟩
 case rest =>
  obtain ⟨m, hm, hown, hbr⟩ := hcut
  have hvr := HV.out.below hbr
  have hzr := hbr.size
  obtain ⟨a0, a1, a2, a3, a4, a5⟩ := cells5U hvr.hg
  rw [HNM.out] at a4
  have hgr := blk_lt hvr.hg
  obtain ⟨A3, k3, rfl, _⟩ := own_form hown
  have hnx : pre2 S 0 = pre1 S np ++ [(nm : Int)] := by rw [← pre1_last, HNP.out, HNM.out]
  obtain ⟨hok, hle⟩ := pre_len HG.out hnx (pre2_ok (S := S) 0)
  rw [hm] at hle
  obtain ⟨n2, hn2⟩ : ∃ n2, (numsB [(nm : Int)]).length = n2 := ⟨_, rfl⟩
  rw [hn2] at hle
  have HNU := hyd (rnums_more wc.heap.size [(nm : Int)] 1 #[.int .i64 (nm : Int)] wc rfl rfl rfl hok (by omega))
  rw [hn2] at HNU
  have HO := hyd hown; have HB := hyd hbr; have HM := hyd hm; have HN2 := hyd hn2; have HNX := hyd hnx
  clear hown hbr hvr hm hok hn2 hnx HP1 HB1 hS0
  go_wp2_with fail
  refine HNU.out.mono ?_; rintro e w2 ⟨A2, n2', c2, rfl, rfl, hr2, hb2⟩
  have HO2 := hyd (own_below HO.out hb2); have HR2 := hyd hr2
  have HB2 := hyd (HB.out.trans (hb2.mono hzr))
  have hz2w : w.heap.size ≤ w2.heap.size := HB2.out.size
  clear hr2 hb2 HNU a0 a1 a2 a3 a4 a5 hgr
  go_upto_block 0 with (at_builtin; (refine wpList_app rfl (.tmp 82) (.tmp 89) _ rfl w.heap.size 5 i0 _ 1 1 Tryz.underlying66 hi hz0 hz1 hz2 rfl (by omega) (.slice A3 m k3) m _ rfl HO2.out w2.heap.size A2 n2 c2 (bys (numsB [(nm : Int)])) rfl HR2.out bys_one (by unfold maxLen; omega) (by omega) hz2w ?_; intro v5 w5 hO hgr hat; have HS5 : Hid (SaveAt w w5 (pre2 S 0) v5) := hyd (SaveAt.app HM.out HN2.out HNX.out hO (HB2.out.grown hgr hz2w (fun k hk => (own_block_type HO2.out hk).1))); clear hO hgr hat))
  go_loopg [3, 6] nm (fun gh v3 v6 wr => ∃ k : Nat, gh = nm - k ∧ k ≤ nm ∧ v6 = .int .i64 k ∧ SaveAt w wr (pre2 S k) v3)
  case atStart => exact ⟨0, rfl, by omega, rfl, HS5.out⟩
  case round =>
   clear HS5 HO2 HR2 HB2 HO HB HM HN2 HNX hle hz2w hzr
   obtain ⟨k, hgk, hk, rfl, m, hm, hown, hbr⟩ := hrel
   have HGK := hyd hgk; have HO := hyd hown; have HB := hyd hbr; have HM := hyd hm
   have hvr := HV.out.below hbr
   have hzr := hbr.size
   obtain ⟨a0, a1, a2, a3, a4, a5⟩ := cells5U hvr.hg
   rw [HNM.out] at a4
   have hgr := blk_lt hvr.hg
   obtain ⟨A3, k3, rfl, _⟩ := own_form hown
   by_cases hlt : k < nm
   · have hkl : k < S.ms.length := by rw [HNM.out]; exact hlt
     have hkq : k < qs.length := by rw [hvr.len]; exact hkl
     obtain ⟨A', c', e', _, hrd⟩ := hvr.rdq
     injection e' with e1 _ e3; subst e1; subst e3
     obtain ⟨b, off, rfl, hb, x0, x1, x2, x3, x4, x5⟩ := hrd.pm hkq
     have hpt := HV.out.parts _ (List.getElem_mem hkq)
     have hq1 : qs[k].p = S.ms[k] := ref_pm hvr.hm hkl hkq
     rw [hq1] at x0 x1 x2 x4 x5 hpt
     have HNX := hyd (pre3_last hkl)
     have HP3 := hyd (fun j => pre3_ok hkl j)
     have hx0 : pre3 S k S.ms[k] 0 = pre2 S k ++ pmH S.ms[k] := by unfold pre3; simp
     obtain ⟨hok, hle⟩ := pre_len HG.out hx0 (pre3_ok hkl 0)
     have hokR : ∀ x ∈ [S.ms[k].rest, revN S.ms[k].rev], okN x := fun x hx => pmN_ok HG.out.per (HG.out.pm _ (List.getElem_mem hkl)) x (by rw [pmN_eq]; exact List.mem_append_right _ hx)
     have hleR := (pre_len HG.out (pre3_last hkl).symm (pre2_ok (S := S) (k + 1))).2
     have hp60 := (HG.out.pm _ (List.getElem_mem hkl)).len
     rw [hm] at hle
     generalize qs[k].v = v at *
     generalize S.ms[k] = q at *
     obtain ⟨Ai, ci, rfl⟩ := hpt.form
     obtain ⟨ni, hni⟩ : ∃ ni, q.parts.length = ni := ⟨_, rfl⟩
     rw [hni] at x3 hpt hp60 hleR
     obtain ⟨n2, hn2⟩ : ∃ n2, (numsB (pmH q)).length = n2 := ⟨_, rfl⟩
     rw [hn2] at hle
     have i1 : (0 : Int) ≤ (k : Int) := by omega
     have i2 : (k : Int) < (nm : Int) := by omega
     have hX := blk_new wr (pmX q (.slice Ai ni ci)) rfl
     have hXb : Below wr.heap.size wr (wr.alloc (pmX q (.slice Ai ni ci))) := bnewU _ _
     have HX := hyd hX
     have HBX := hyd (hbr.trans (hXb.mono hzr)); have HOX := hyd (own_below hown hXb); have HPT := hyd hpt
     have hzX : w.heap.size ≤ (wr.alloc (pmX q (.slice Ai ni ci))).heap.size := Nat.le_trans hzr hXb.size
     have HOKN := hyd hok; have HN2 := hyd hn2; have HNI := hyd hni; have HX0 := hyd hx0; have HOKR := hyd hokR; have HLER := hyd hleR
     clear hgk hown hbr hvr hm hok hn2 hpt hq1 hni hX hXb hrd hx0 hokR hleR
     go_upto_region 12 with fail
     obtain ⟨gx, hgx⟩ : ∃ gx, wr.heap.size = gx := ⟨_, rfl⟩
     rw [hgx] at HX ⊢
     generalize wr.alloc (pmX q (.slice Ai ni ci)) = X at *
     clear a0 a1 a2 a3 a4 a5 x0 x1 x2 x3 x4 x5 hgr hgx
     obtain ⟨y0, y1, y2, y3, y4, y5, y6⟩ := cells6U HX.out
     have hxl := blk_lt HX.out
     have HNU := hyd (rnums_more X.heap.size (pmH q) 4 #[.int .i64 q.id, .int .i64 q.day, .int .i64 q.amt, .int .i64 (ni : Int)] X rfl rfl (by unfold pmH; rw [HNI.out]; rfl) HOKN.out (by omega))
     rw [HN2.out] at HNU
     go_wp2_with fail
     refine HNU.out.mono ?_; rintro e w2 ⟨A2, n2', c2, rfl, rfl, hr2, hb2⟩
     have HO2 := hyd (own_below HOX.out hb2); have HR2 := hyd hr2
     have HB2 := hyd (HBX.out.trans (hb2.mono hzX))
     have hz2w : w.heap.size ≤ w2.heap.size := HB2.out.size
     have HX2 := hyd (blk_below HX.out hb2 (blk_lt HX.out))
     clear hr2 hb2 HNU y0 y1 y2 y3 y4 y5 y6 hxl
     go_upto_block 4 with (at_builtin; (refine wpList_app rfl (.tmp 107) (.tmp 118) _ rfl w.heap.size 5 i0 _ 1 1 Tryz.underlying66 hi hz0 hz1 hz2 rfl (by omega) (.slice A3 m k3) m _ rfl HO2.out w2.heap.size A2 n2 c2 (bys (numsB (pmH q))) rfl HR2.out bys_one (by unfold maxLen; omega) (by omega) hz2w ?_; intro v5 w5 hO hgr hat; have HS5 : Hid (SaveAt w w5 (pre3 S k q 0) v5) := hyd (SaveAt.app HM.out HN2.out HX0.out hO (HB2.out.grown hgr hz2w (fun k hk => (own_block_type HO2.out hk).1))); have HX5 := hyd (own_far_type HO2.out hgr HX2.out (by decide)); clear hO hgr hat))
     go_cut [3] from 120 to 143 (fun v3 wz => SaveAt w wz (pre3 S k q ni) v3 ∧ wz.heap[gx]? = some (.cells #[.int .i64 q.id, .int .i64 q.day, .int .i64 q.amt, .slice Ai ni ci, .int .i64 q.rest, .bool q.rev] 110 (0, 0)))
     case first =>
      go_wp2_with fail
      go_loopg [3, 8] ni (fun gh v3 v8 wz => ∃ j : Nat, gh = ni - j ∧ j ≤ ni ∧ v8 = .int .i64 j ∧ SaveAt w wz (pre3 S k q j) v3 ∧ wz.heap[gx]? = some (.cells #[.int .i64 q.id, .int .i64 q.day, .int .i64 q.amt, .slice Ai ni ci, .int .i64 q.rest, .bool q.rev] 110 (0, 0)))
      case atStart => exact ⟨0, rfl, by omega, rfl, HS5.out, HX5.out⟩
      case round =>
       clear HS5 HX5 HO2 HR2 HB2 HX2 hz2w HX HBX HOX hzX hle HM HN2 HOKN HO HB hzr
       obtain ⟨j, hgj, hj, rfl, ⟨m, hm, hown, hbr⟩, hbx⟩ := hrel
       have HGJ := hyd hgj; have HO := hyd hown; have HB := hyd hbr; have HM := hyd hm; have HBX := hyd hbx
       have hzr := hbr.size
       obtain ⟨A4, k4, rfl, _⟩ := own_form hown
       obtain ⟨y0, y1, y2, y3, y4, y5, y6⟩ := cells6U hbx
       have hxl := blk_lt hbx
       by_cases hjt : j < ni
       · have hjl : j < q.parts.length := by rw [HNI.out]; exact hjt
         have hrd := (HPT.out.below hbr).rd.2.2.2
         obtain ⟨b2, o2, rfl, hb2, z0, z1, z2, z3⟩ := hrd.it hjl
         have hnx := pre3_next (S := S) (k := k) hjl
         obtain ⟨hok, hle⟩ := pre_len HG.out hnx (HP3.out (j + 1))
         rw [hm] at hle
         generalize q.parts[j] = x at *
         obtain ⟨n2, hn2⟩ : ∃ n2, (numsB (itN x)).length = n2 := ⟨_, rfl⟩
         rw [hn2] at hle
         have j1 : (0 : Int) ≤ (j : Int) := by omega
         have j2 : (j : Int) < (ni : Int) := by omega
         have hXb : Below wr.heap.size wr (wr.alloc (itX x)) := bnewU _ _
         have hX := blk_new wr (itX x) rfl
         have HBY := hyd (hbr.trans (hXb.mono hzr)); have HOY := hyd (own_below hown hXb); have HXY := hyd (blk_below hbx hXb hxl)
         have hzY : w.heap.size ≤ (wr.alloc (itX x)).heap.size := Nat.le_trans hzr hXb.size
         have HY := hyd hX; have HN2 := hyd hn2; have HNX3 := hyd hnx; have HOKN := hyd hok
         clear hgj hown hbr hm hbx hrd hnx hok hn2 hXb hX
         go_upto_region 17 with fail
         generalize wr.alloc (itX x) = Y at *
         clear y0 y1 y2 y3 y4 y5 y6 hxl z0 z1 z2 z3
         obtain ⟨z0, z1, z2, z3, -⟩ := cells4G HY.out
         have hyl := blk_lt HY.out
         have HNU := hyd (rnums_more Y.heap.size (itN x) 4 #[.int .i64 x.due, .int .i64 x.kind, .int .i64 x.per, .int .i64 x.opn] Y rfl rfl rfl HOKN.out (by omega))
         rw [HN2.out] at HNU
         go_wp2_with fail
         refine HNU.out.mono ?_; rintro e w2 ⟨A2, n2', c2, rfl, rfl, hr2, hb2⟩
         have HO2 := hyd (own_below HOY.out hb2); have HR2 := hyd hr2
         have HB2 := hyd (HBY.out.trans (hb2.mono hzY))
         have hz2w : w.heap.size ≤ w2.heap.size := HB2.out.size
         have HX2 := hyd (blk_below HXY.out hb2 (blk_lt HXY.out))
         clear hr2 hb2 HNU z0 z1 z2 z3 hyl
         go_wp2_with (at_builtin; (refine wpList_app rfl (.tmp 132) (.tmp 142) _ rfl w.heap.size 5 i0 _ 1 1 Tryz.underlying66 hi hz0 hz1 hz2 rfl (by omega) (.slice A4 m k4) m _ rfl HO2.out w2.heap.size A2 n2 c2 (bys (numsB (itN x))) rfl HR2.out bys_one (by unfold maxLen; omega) (by omega) hz2w ?_; intro v5 w5 hO hgr hat; have HS5 : Hid (SaveAt w w5 (pre3 S k q (j + 1)) v5) := hyd (SaveAt.app HM.out HN2.out HNX3.out hO (HB2.out.grown hgr hz2w (fun k hk => (own_block_type HO2.out hk).1))); have HX5 := hyd (own_far_type HO2.out hgr HX2.out (by decide)); clear hO hgr hat))
         go_roundg (ni - (j + 1))
         case measure => have := HGJ.out; omega
         case rel => exact ⟨j + 1, rfl, by omega, by go_num, HS5.out, HX5.out⟩
       · have hjn : j = ni := by omega
         subst hjn
         clear hgj hown hbr hm hbx
         go_wp2_with fail
         all_goals go_meet
         all_goals exact ⟨⟨m, HM.out, HO.out, HB.out⟩, HBX.out⟩
     case rest =>
      clear HS5 HX5 HO2 HR2 HB2 HX2 hz2w HX HBX HOX hzX hle HM HN2 HOKN HO HB hzr
      obtain ⟨⟨m, hm, hown, hbr⟩, hbx⟩ := hcut
      have hzr := hbr.size
      obtain ⟨A4, k4, rfl, _⟩ := own_form hown
      obtain ⟨y0, y1, y2, y3, y4, y5, y6⟩ := cells6U hbx
      have hxl := blk_lt hbx
      obtain ⟨n2, hn2⟩ : ∃ n2, (numsB [q.rest, revN q.rev]).length = n2 := ⟨_, rfl⟩
      have hle := HLER.out
      rw [hm, hn2] at hle
      have hnx : pre2 S (k + 1) = pre3 S k q ni ++ [q.rest, revN q.rev] := by rw [← HNX.out, HNI.out]
      have HNU := hyd (rnums_more wc.heap.size [q.rest, revN q.rev] 2 #[.int .i64 q.rest, .int .i64 (revN q.rev)] wc rfl rfl rfl HOKR.out (by omega))
      rw [hn2] at HNU
      have HO := hyd hown; have HB := hyd hbr; have HM := hyd hm; have HN2 := hyd hn2; have HNX3 := hyd hnx
      clear hown hbr hm hn2 hnx hbx
      cases hrv : q.rev
      all_goals
       rw [hrv] at y5 HNU HN2 HNX3
       simp only [revN] at HNU
       clear hrv
       go_wp2_with fail
       refine HNU.out.mono ?_; rintro e w2 ⟨A2, n2', c2, rfl, rfl, hr2, hb2⟩
       have HO2 := hyd (own_below HO.out hb2); have HR2 := hyd hr2
       have HB2 := hyd (HB.out.trans (hb2.mono hzr))
       have hz2w : w.heap.size ≤ w2.heap.size := HB2.out.size
       clear hr2 hb2 HNU y0 y1 y2 y3 y4 y5 y6 hxl
       go_wp2_with (at_builtin; (refine wpList_app rfl (.tmp 146) (.tmp 151) _ rfl w.heap.size 5 i0 _ 1 1 Tryz.underlying66 hi hz0 hz1 hz2 rfl (by omega) (.slice A4 m k4) m _ rfl HO2.out w2.heap.size A2 n2 c2 _ rfl HR2.out bys_one (by unfold maxLen; omega) (by omega) hz2w ?_; intro v5 w5 hO hgr hat; have HS5 : Hid (SaveAt w w5 (pre2 S (k + 1)) v5) := hyd (SaveAt.app HM.out HN2.out HNX3.out hO (HB2.out.grown hgr hz2w (fun k hk => (own_block_type HO2.out hk).1))); clear hO hgr hat))
       go_roundg (nm - (k + 1))
       case measure => have := HGK.out; omega
       case rel => exact ⟨k + 1, rfl, by omega, by go_num, HS5.out⟩
   · have hkn : k = nm := by omega
     subst hkn
     have hlast : pre2 S k = saveN S := by rw [← pre2_last, HNM.out]
     rw [hlast] at hm hown
     subst hm
     have HO := hyd hown; have HB := hyd hbr
     clear hgk hown hbr hvr hlast HM
     go_wp2_with fail
     go_ret
     exact ⟨A3, k3, rfl, HO.out, HB.out⟩
end Go.Proofs.YtbjjgnaojoaoiaaGreat
