/- Save: the walk. -/
import Derived.Test.YtbjjgnaojoaoiaaGreatK49
import Derived.Test.YtbjjgnaojoaoiaaGreatK48
import Derived.Test.YtbjjgnaojoaoiaaGreatK26
import Derived.Deep.RegionLaw
import Derived.StillTailTactics
import Derived.Test.YtbjjgnaojoaoiaaGreatK47
import Derived.Laws.BytesArg
namespace Go.Proofs.YtbjjgnaojoaoiaaGreat
open Go.RowKit Go
set_option linter.unusedVariables false
set_option linter.unusedSimpArgs false

section
variable {P : Program} {w : World} {ops : Array Oper} {o : Oper} {a : Act} {K : Act → World → Prop} {Q : Exit → Act → World → Prop} {E : Prop}
/-- A call through a value that is a function with one captured variable. -/
theorem step_callV1 (hgd : o.guard = none) (f : FuncId) (t x : Operand) (s : TypeId)
    (ho : o.op = .call { callee := .value t, args := #[x], argTypes := #[s] }) (u c : Value) (ht : a.eval t = .func (.func f) #[] #[c]) (hu : a.eval x = u)
    (hcf : ∀ w, (callFunc f #[u, c]).run P w = .ok (.enter f #[u, c]) w)
    (hc : Calls P f #[u, c] w fun e w' => ∃ u, e = .returned u ∧ K (a.put o.dst u) w') :
    if Region.wanted o (yielded ops a.tmps) = true then Oper.wp P o a w K Q else E := by
  have hw : Region.wanted o (yielded ops a.tmps) = true := by simp [Region.wanted, hgd]
  rw [if_pos hw]
  unfold Oper.wp
  have hrun : (execOp a.eval o).run P w = .ok (.enter f #[u, c]) w := by
    subst hu
    simp [execOp, ho, resolve, invoke, ht, Deferred.ofValue, hcf]
  rw [hrun, Oper.upon_enter]
  exact hc.mono (by rintro e w' ⟨u, rfl, h⟩; exact h)
end
theorem put_enter (A : Option Addr) (n c : Nat) (v : Value) (w : World) : (callFunc 61 #[.slice A n c, v]).run Tryz.prog w = .ok (.enter 61 #[.slice A n c, v]) w := by kernel_rfl
/-- Numbers of a fresh slice are put. -/
theorem put_fresh (B gb gx : Nat) (l : List Nat) (xs : List Int) (n : Nat) (cs : Array Value) (w : World) (hgx : gx = w.heap.size) (h : PutAt w B gb l) (hn : xs.length = n) (hcs : cs.toList = xs.map (Value.int .i64)) (hB : B ≤ w.heap.size) (hm : l.length + n * 10 ≤ 10000000) (hok : ∀ x ∈ xs, okN x) :
    Calls Tryz.prog 61 #[.slice (some ⟨gx, 0, none⟩) n n, .pointer (some ⟨gb, 0, none⟩)] (w.alloc (.cells cs 2)) fun e w' => (∃ x, e = .returned x) ∧ PutAt w' B gb (l ++ numsB xs) ∧ Kept w B w' := by
  subst hgx
  have hb : Below w.heap.size w (w.alloc (.cells cs 2)) := bnewU _ _
  have hx : Nums (w.alloc (.cells cs 2)) w.heap.size 0 xs := by
    have hbk : (w.alloc (.cells cs 2)).heap[w.heap.size]? = some (.cells cs 2 (0, 0)) := blk_new w (.cells cs 2) rfl
    refine ⟨⟨cs, _, _, hbk, by decide, by decide⟩, fun j hj => ?_⟩
    rw [Nat.zero_add]
    refine (blk_cell hbk j).trans ?_
    rw [← Array.getElem?_toList, hcs, List.getElem?_map, List.getElem?_eq_getElem hj]; rfl
  exact (put_any B gb w.heap.size 0 n l xs n _ hn (h.below hb) hx (Nat.le_trans hB hb.size) hm hok).mono fun e w' ⟨h1, h2, h3⟩ => ⟨h1, h2, (Kept.below hb hB).trans h3⟩
theorem cells11E {w : World} {b : Nat} {p : Per} (h : w.heap[b]? = some (.cells (perC p).toArray 92 (0, 0))) :
    w.cell? ⟨b, 0, none⟩ = some (.int .i64 p.ret.per) ∧ w.cell? ⟨b, 1, none⟩ = some (.int .i64 p.ret.due) ∧ w.cell? ⟨b, 2, none⟩ = some (.int .i64 p.ret.filed) ∧ w.cell? ⟨b, 3, none⟩ = some (.int .i64 p.ret.inc) ∧ w.cell? ⟨b, 4, none⟩ = some (.int .i64 p.ret.wh) ∧
    w.cell? ⟨b, 5, none⟩ = some (.int .i64 p.o0) ∧ w.cell? ⟨b, 6, none⟩ = some (.int .i64 p.o1) ∧ w.cell? ⟨b, 7, none⟩ = some (.int .i64 p.o2) ∧ w.cell? ⟨b, 8, none⟩ = some (.int .i64 p.since) ∧ w.cell? ⟨b, 9, none⟩ = some (.int .i64 p.done) ∧ w.cell? ⟨b, 10, none⟩ = some (.int .i64 p.acc) :=
  ⟨blk_cell h 0, blk_cell h 1, blk_cell h 2, blk_cell h 3, blk_cell h 4, blk_cell h 5, blk_cell h 6, blk_cell h 7, blk_cell h 8, blk_cell h 9, blk_cell h 10⟩
def per5 (p : Per) : List Int := [p.ret.per, p.ret.due, p.ret.filed, p.ret.inc, p.ret.wh]
def per3o (p : Per) : List Int := [p.o0, p.o1, p.o2]
def per3s (p : Per) : List Int := [p.since, p.done, p.acc]
theorem perN_split (p : Per) : perN p = per5 p ++ per3o p ++ per3s p := rfl
theorem perN_parts {p : Per} (h : ∀ n ∈ perN p, okN n) : (∀ n ∈ per5 p, okN n) ∧ (∀ n ∈ per3o p, okN n) ∧ (∀ n ∈ per3s p, okN n) := by
  rw [perN_split] at h
  exact ⟨fun n hn => h n (by simp [hn]), fun n hn => h n (by simp [hn]), fun n hn => h n (by simp [hn])⟩
@[reducible] def perO (p : Per) : Obj := .cells #[.int .i64 p.ret.per, .int .i64 p.ret.due, .int .i64 p.ret.filed, .int .i64 p.ret.inc, .int .i64 p.ret.wh, .int .i64 p.o0, .int .i64 p.o1, .int .i64 p.o2, .int .i64 p.since, .int .i64 p.done, .int .i64 p.acc] 92
theorem pmN_parts {m : Pm} (h : ∀ n ∈ pmN m, okN n) : (∀ n ∈ pmH m, okN n) ∧ (∀ n ∈ m.parts.flatMap itN, okN n) ∧ (∀ n ∈ [m.rest, revN m.rev], okN n) := by
  rw [pmN_eq] at h
  exact ⟨fun n hn => h n (by simp [hn]), fun n hn => h n (by rw [List.mem_append, List.mem_append]; exact .inl (.inr hn)), fun n hn => h n (by rw [List.mem_append]; exact .inr hn)⟩
theorem PartsAt.keepK {w w' : World} {B : Nat} {v : Value} {l : List Dq} (h : PartsAt w v l) (hk : Kept w B w') : PartsAt w' v l :=
  h.keep fun b cs hc => (hk.keep b cs _ _ hc (by decide) (by decide)).trans hc.symm
/-- Bytes that come back. -/
def BytesOut (w : World) (l : List Nat) (e : Ending) (w' : World) : Prop :=
  ∃ A c, e = .returned (.slice A l.length c) ∧ w'.ownsRow w.heap.size 5 1 (.slice A l.length c) l.length (bys l) ∧ Below w.heap.size w w'
theorem nums_more {S : Ac} {P Q : List Int} (h : ∃ R, P ++ Q ++ R = saveN S) : ∃ R, P ++ R = saveN S := let ⟨R, h⟩ := h; ⟨Q ++ R, by rw [← h]; simp⟩
set_option maxHeartbeats 6400000 in
set_option maxRecDepth 100000 in
theorem save_any (g B : Nat) (S : Ac) (w : World) (h : OwnAt w B g S) (hG : Good S) :
    Calls Tryz.prog 26 #[.pointer (some ⟨g, 0, none⟩)] w (BytesOut w (saveB S)) := by
  have hmf : ∀ (fn : Fn) (first cap : Array Value) (w : World), (Instr.makeFunc fn first cap).run Tryz.prog w = .ok (.func fn first cap) w := fun _ _ _ _ => rfl
  obtain ⟨vp, vq, qs, hv⟩ := h
  obtain ⟨Ap, kp, rfl, hkp, _⟩ := hv.rdp
  obtain ⟨Aq, kq, rfl, hkq, _⟩ := hv.rdq
  obtain ⟨a0, a1, a2, a3, a4, a5⟩ := cells5U hv.hg
  have hgl := blk_lt hv.hg
  have hnp := hG.np; have hnm := hG.nm
  obtain ⟨np, hNP⟩ : ∃ np, S.ps.length = np := ⟨_, rfl⟩
  obtain ⟨nm, hNM⟩ : ∃ nm, S.ms.length = nm := ⟨_, rfl⟩
  have hb0 : Below w.heap.size w (w.alloc (.cells #[.slice none 0 0] 66)) := bnewU _ _
  have hp0 : PutAt (w.alloc (.cells #[.slice none 0 0] 66)) w.heap.size w.heap.size [] := ⟨_, blk_new w (.cells #[.slice none 0 0] 66) rfl, Nat.le_refl _, World.ownsRow_nil _ _ _ _⟩
  have hpo := pre_ok hG (pre1_ok (S := S) 0)
  have e0 : pre1 S 0 = [S.day, S.bp, S.cr, (np : Int)] := by unfold pre1 hdrN; rw [hNP]; simp
  rw [e0] at hpo
  have HP0 := Lib.hid (put_fresh w.heap.size w.heap.size (w.heap.size + 1) [] [S.day, S.bp, S.cr, (np : Int)] 4 #[.int .i64 S.day, .int .i64 S.bp, .int .i64 S.cr, .int .i64 (np : Int)] (w.alloc (.cells #[.slice none 0 0] 66)).drew (by simp) (hp0.below (Below.refl _ _).drew) rfl rfl hb0.size (by simp) hpo.1)
  rw [hNP] at a3 hnp; rw [hNM] at a4 hnm
  have hg2 : g ≠ w.heap.size := by omega
  have HV := Lib.hid hv; have HG := Lib.hid hG; have HNP := Lib.hid hNP; have HNM := Lib.hid hNM; have HB0 := Lib.hid hb0; have HE0 := Lib.hid e0
  clear hv hG hkp hkq hNP hNM hb0 hp0 hpo e0
  go_enter Tryz.func26, Tryz.ntmps26
  go_upto_region 3 with fail
  go_cut [] from 13 to 32 (fun wc => PutAt wc w.heap.size w.heap.size (numsB (pre1 S 0)) ∧ Below w.heap.size w wc)
  case first =>
    obtain ⟨d0, d1, d2, d3, d4, d5⟩ := cells5U (HV.out.below HB0.out).hg
    rw [HNP.out] at d3; rw [HNM.out] at d4
    have hXs : (w.alloc (.cells #[.slice none 0 0] 66)).heap.size = w.heap.size + 1 := by simp
    clear a0 a1 a2 a3 a4 a5
    generalize w.alloc (.cells #[.slice none 0 0] 66) = X at *
    -- <heavy>
    go_region_law (refine step_callV1 rfl 61 (.tmp 13) (.tmp 31) 26 rfl (.slice (some ⟨w.heap.size + 1, 0, none⟩) 4 4) (.pointer (some ⟨w.heap.size, 0, none⟩)) rfl (by first | rfl | (rw [← hXs]; rfl)) (put_enter _ _ _ _) ?_
                   refine HP0.out.mono ?_; rintro e w1 ⟨⟨u, rfl⟩, hpa, hkp⟩; refine ⟨_, rfl, ?_⟩
                   have HPA := Lib.hid hpa; have HKP := Lib.hid hkp
                   clear hpa hkp)
    all_goals go_wp2_with fail
    all_goals go_meet
    all_goals exact ⟨by rw [HE0.out]; exact HPA.out, HB0.out.drew.trans HKP.out.bel⟩
    -- </heavy>
  case rest =>
    obtain ⟨hpa, hbc⟩ := hcut
    have hvc := HV.out.below hbc
    obtain ⟨c0, c1, c2, c3, c4, c5⟩ := cells5U hvc.hg
    rw [HNP.out] at c3; rw [HNM.out] at c4
    have hglc := blk_lt hvc.hg
    have HPA := Lib.hid hpa; have HBC := Lib.hid hbc
    clear hpa hbc hvc a0 a1 a2 a3 a4 a5
    go_upto_block 0 with fail
    go_cut [6] from 38 to 73 (fun v6 w9 => PutAt w9 w.heap.size w.heap.size (numsB (pre1 S np)) ∧ Below w.heap.size w w9)
    case first =>
      -- <heavy>
      go_wp2_with fail
      go_loopg [38] np (fun gh v38 wr => ∃ k : Nat, gh = np - k ∧ k ≤ np ∧ v38 = .int .i64 k ∧ PutAt wr w.heap.size w.heap.size (numsB (pre1 S k)) ∧ Below w.heap.size w wr)
      case atStart => exact ⟨0, rfl, by omega, rfl, HPA.out, HBC.out⟩
      case round =>
        obtain ⟨k, hgk, hk, rfl, hpa, hbr⟩ := hrel
        have HG2 := Lib.hid hgk; have HPR := Lib.hid hpa; have HB := Lib.hid hbr
        by_cases hlt : k < np
        · have hkl : k < S.ps.length := by rw [HNP.out]; exact hlt
          have hvr := HV.out.below hbr
          obtain ⟨A', c', e', _, hrd⟩ := hvr.rdp
          injection e' with e1 _ e3; subst e1; subst e3
          obtain ⟨b, off, rfl, hb, x0, x1, x2, x3, x4, x5, x6, x7, x8, x9, x10⟩ := hrd.per hkl
          have HNX := Lib.hid (pre1_next hkl)
          obtain ⟨hok, hlen⟩ := pre_ok HG.out (pre1_ok (S := S) k)
          have hper := HG.out.per _ (List.getElem_mem hkl)
          have hpn := perN_ok hper
          generalize S.ps[k] = p at *
          have i1 : (0 : Int) ≤ (k : Int) := by omega
          have i2 : (k : Int) < (np : Int) := by omega
          have hX := blk_new wr (perO p) rfl
          have hXb : Below wr.heap.size wr (wr.alloc (perO p)) := bnewU _ _
          have hrs := hbr.size
          have hpX := hpa.below hXb
          obtain ⟨hn1, hn2, hn3⟩ := perN_parts hpn
          have l1 := numsB_len hn1
          have H1 := Lib.hid (put_fresh w.heap.size w.heap.size (wr.heap.size + 1) (numsB (pre1 S k)) (per5 p) 5 #[.int .i64 p.ret.per, .int .i64 p.ret.due, .int .i64 p.ret.filed, .int .i64 p.ret.inc, .int .i64 p.ret.wh] (wr.alloc (perO p)) (by simp) hpX rfl rfl (Nat.le_trans hrs hXb.size) (by omega) hn1)
          have HX := Lib.hid hX; have HXB := Lib.hid hXb; have HPN := Lib.hid hpn; have HLE := Lib.hid hlen; have HL1 := Lib.hid l1
          have HN2 := Lib.hid hn2; have HN3 := Lib.hid hn3
          clear hgk hpa hbr hvr hrd hok hlen hper hpn hX hXb hpX hn1 hn2 hn3 l1
          go_wp2_with fail
          refine H1.out.mono ?_; rintro e w1 ⟨⟨u1, rfl⟩, hp1, hk1⟩
          have hX1 := hk1.keep _ _ _ _ HX.out (by decide) (by decide)
          obtain ⟨y0, y1, y2, y3, y4, y5, y6, y7, y8, y9, y10⟩ := cells11E hX1
          have hx1l := blk_lt hX1
          have l2 := numsB_len HN2.out
          have hLL : (numsB (pre1 S k) ++ numsB (per5 p)).length ≤ 131000 := by rw [List.length_append]; have h1 := HLE.out; have h2 : _ ≤ 5 * 10 := HL1.out; omega
          have hB1 := hk1.bel.size
          have hNU : Nums w1 wr.heap.size 5 (per3o p) := ⟨⟨_, _, _, hX1, by decide, by decide⟩, fun j hj => by
            have hj3 : j < 3 := hj
            rcases (show j = 0 ∨ j = 1 ∨ j = 2 by omega) with rfl | rfl | rfl
            · exact y5
            · exact y6
            · exact y7⟩
          have H2 := Lib.hid (put_any w.heap.size w.heap.size wr.heap.size 5 3 (numsB (pre1 S k) ++ numsB (per5 p)) (per3o p) 3 w1 rfl hp1 hNU (by have := HXB.out.size; omega) (by omega) HN2.out)
          have HX1 := Lib.hid hX1; have HK1 := Lib.hid hk1; have HLL := Lib.hid hLL; have HL2 := Lib.hid l2
          clear hX1 hk1 hp1 l2 hLL hNU H1
          go_wp2_with fail
          refine H2.out.mono ?_; rintro e w2 ⟨⟨u2, rfl⟩, hp2, hk2⟩
          clear y0 y1 y2 y3 y4 y5 y6 y7 y8 y9 y10
          have hX2 := hk2.keep _ _ _ _ HX1.out (by decide) (by decide)
          obtain ⟨y0, y1, y2, y3, y4, y5, y6, y7, y8, y9, y10⟩ := cells11E hX2
          have hx2l := blk_lt hX2
          have hLM : (numsB (pre1 S k) ++ numsB (per5 p) ++ numsB (per3o p)).length ≤ 132000 := by rw [List.length_append]; have h1 := HLL.out; have h2 : _ ≤ 3 * 10 := HL2.out; omega
          have hB2 := hk2.bel.size
          have H3 := Lib.hid (put_fresh w.heap.size w.heap.size w2.heap.size (numsB (pre1 S k) ++ numsB (per5 p) ++ numsB (per3o p)) (per3s p) 3 #[.int .i64 p.since, .int .i64 p.done, .int .i64 p.acc] w2 rfl hp2 rfl rfl (by have := HXB.out.size; omega) (by omega) HN3.out)
          have HK2 := Lib.hid hk2
          clear hX2 hk2 hp2 hLM H2
          go_wp2_with fail
          refine H3.out.mono ?_; rintro e w3 ⟨⟨u3, rfl⟩, hp3, hk3⟩
          have HP3 : Hid (PutAt w3 w.heap.size w.heap.size (numsB (pre1 S (k + 1)))) := Lib.hid (by
            rw [HNX.out, perN_split, numsB_app, numsB_app, numsB_app, ← List.append_assoc, ← List.append_assoc]; exact hp3)
          have HB3 : Hid (Below w.heap.size w w3) := Lib.hid (HB.out.trans ((HXB.out.mono hrs).trans (HK1.out.bel.trans (HK2.out.bel.trans hk3.bel))))
          clear hp3 hk3 H3
          go_wp2_with fail
          go_roundg (np - (k + 1))
          case measure => have := HG2.out; omega
          case rel => exact ⟨k + 1, rfl, by omega, by go_num, HP3.out, HB3.out⟩
        · have hkn : k = np := by omega
          subst hkn
          clear hgk hpa hbr
          go_wp2_with fail
          all_goals go_meet
          all_goals exact ⟨HPR.out, HB.out⟩
      -- </heavy>
    case rest =>
      obtain ⟨hpd, hbd⟩ := hcut
      have hvd := HV.out.below hbd
      obtain ⟨d0, d1, d2, d3, d4, d5⟩ := cells5U hvd.hg
      rw [HNP.out] at d3; rw [HNM.out] at d4
      have hgld := blk_lt hvd.hg
      have hpo := pre_ok HG.out (pre1_ok (S := S) np)
      have hds := hbd.size
      have HM := Lib.hid (put_fresh w.heap.size w.heap.size wc.heap.size (numsB (pre1 S np)) [(nm : Int)] 1 #[.int .i64 (nm : Int)] wc rfl hpd rfl rfl hds (by omega) (fun x hx => by simp only [List.mem_cons, List.not_mem_nil, or_false] at hx; subst hx; unfold okN; omega))
      have HBD := Lib.hid hbd
      clear hpd hbd hvd hpo c0 c1 c2 c3 c4 c5 HPA HBC
      go_wp2_with fail
      refine HM.out.mono ?_; rintro e we ⟨⟨ue, rfl⟩, hpe, hke⟩
      have HPE : Hid (PutAt we w.heap.size w.heap.size (numsB (pre2 S 0))) := Lib.hid (by
        rw [← pre1_last, numsB_app, HNP.out, HNM.out]; exact hpe)
      have hbe : Below w.heap.size w we := HBD.out.trans hke.bel
      have hve := HV.out.below hbe
      obtain ⟨c0, c1, c2, c3, c4, c5⟩ := cells5U hve.hg
      rw [HNP.out] at c3; rw [HNM.out] at c4
      have hgle := blk_lt hve.hg
      have HBE := Lib.hid hbe
      clear hpe hke hbe hve d0 d1 d2 d3 d4 d5 HM
      go_upto_block 0 with fail
      go_loopg [87] nm (fun gh v87 wr => ∃ k : Nat, gh = nm - k ∧ k ≤ nm ∧ v87 = .int .i64 k ∧ PutAt wr w.heap.size w.heap.size (numsB (pre2 S k)) ∧ Below w.heap.size w wr)
      case atStart => exact ⟨0, rfl, by omega, rfl, HPE.out, HBE.out⟩
      case round =>
        obtain ⟨k, hgk, hk, rfl, hpa, hbr⟩ := hrel
        have HG2 := Lib.hid hgk; have HPR := Lib.hid hpa; have HB := Lib.hid hbr
        by_cases hlt : k < nm
        · have hkl : k < S.ms.length := by rw [HNM.out]; exact hlt
          have hvr := HV.out.below hbr
          have hkq : k < qs.length := by rw [hvr.len]; exact hkl
          obtain ⟨A', c', e', _, hrd⟩ := hvr.rdq
          injection e' with e1 _ e3; subst e1; subst e3
          obtain ⟨b, off, rfl, hb, x0, x1, x2, x3, x4, x5⟩ := hrd.pm hkq
          have hat := hvr.at_ hkl
          have hpt := hvr.parts _ (List.getElem_mem hkq)
          have hq1 : qs[k].p = S.ms[k] := by rw [hat]
          rw [hq1] at x0 x1 x2 x4 x5 hpt
          have HNX := Lib.hid (pre3_last hkl)
          have HP3 := Lib.hid (fun j => pre_ok HG.out (pre3_ok hkl j))
          obtain ⟨hok, hlen⟩ := pre_ok HG.out (pre2_ok (S := S) k)
          have hpm := pmN_ok HG.out.per (HG.out.pm _ (List.getElem_mem hkl))
          have hp60 := (HG.out.pm _ (List.getElem_mem hkl)).len
          generalize qs[k].v = v at *
          generalize S.ms[k] = m at *
          obtain ⟨Ai, ci, rfl⟩ := hpt.form
          obtain ⟨ni, hni⟩ : ∃ ni, m.parts.length = ni := ⟨_, rfl⟩
          rw [hni] at x3 hpt hp60
          have i1 : (0 : Int) ≤ (k : Int) := by omega
          have i2 : (k : Int) < (nm : Int) := by omega
          have hX := blk_new wr (.cells #[.int .i64 m.id, .int .i64 m.day, .int .i64 m.amt, .slice Ai ni ci, .int .i64 m.rest, .bool m.rev] 110) rfl
          have hXb : Below wr.heap.size wr (wr.alloc (.cells #[.int .i64 m.id, .int .i64 m.day, .int .i64 m.amt, .slice Ai ni ci, .int .i64 m.rest, .bool m.rev] 110)) := bnewU _ _
          have hrs := hbr.size
          have hpX := hpa.below hXb
          obtain ⟨hn1, hn2, hn3⟩ := pmN_parts hpm
          have l1 := numsB_len hn1
          have hl1 : (numsB (pmH m)).length ≤ 4 * 10 := l1
          have H1 := Lib.hid (put_fresh w.heap.size w.heap.size (wr.heap.size + 1) (numsB (pre2 S k)) (pmH m) 4 #[.int .i64 m.id, .int .i64 m.day, .int .i64 m.amt, .int .i64 (ni : Int)] (wr.alloc (.cells #[.int .i64 m.id, .int .i64 m.day, .int .i64 m.amt, .slice Ai ni ci, .int .i64 m.rest, .bool m.rev] 110)) (by simp) hpX rfl (by rw [← hni]; rfl) (Nat.le_trans hrs hXb.size) (by omega) hn1)
          have HX := Lib.hid hX; have HXB := Lib.hid hXb; have HLE := Lib.hid hlen; have HPT := Lib.hid (hpt.below hXb); have HNI := Lib.hid hni
          have HN2 := Lib.hid hn2; have HN3 := Lib.hid hn3; have HL1 := Lib.hid hl1
          clear hgk hpa hbr hvr hrd hok hlen hpm hpt hX hXb hpX hn1 hn2 hn3 l1 hl1 hat hq1 hkq hni
          go_wp2_with fail
          refine H1.out.mono ?_; rintro e w1 ⟨⟨u1, rfl⟩, hp1, hk1⟩
          have hX1 := hk1.keep _ _ _ _ HX.out (by decide) (by decide)
          obtain ⟨y0, y1, y2, y3, y4, y5, y6⟩ := cells6U hX1
          have hx1l := blk_lt hX1
          have HP1 : Hid (PutAt w1 w.heap.size w.heap.size (numsB (pre3 S k m 0))) := Lib.hid (by
            have e : pre3 S k m 0 = pre2 S k ++ pmH m := by unfold pre3; simp
            rw [e, numsB_app]; exact hp1)
          have HK1 := Lib.hid hk1; have HX1 := Lib.hid hX1
          clear hp1 hk1 hX1 H1
          go_upto_block 4 with fail
          go_cut [10] from 106 to 121 (fun v10 wz => PutAt wz w.heap.size w.heap.size (numsB (pre3 S k m ni)) ∧ Kept w1 w.heap.size wz)
          case first =>
            go_wp2_with fail
            go_loopg [106] ni (fun gh v106 wz => ∃ j : Nat, gh = ni - j ∧ j ≤ ni ∧ v106 = .int .i64 j ∧ PutAt wz w.heap.size w.heap.size (numsB (pre3 S k m j)) ∧ Kept w1 w.heap.size wz)
            case atStart => exact ⟨0, rfl, by omega, rfl, HP1.out, Kept.refl _ _⟩
            case round =>
              obtain ⟨j, hgj, hj, rfl, hpj, hkj⟩ := hrel
              have HGJ := Lib.hid hgj; have HPJ := Lib.hid hpj; have HKJ := Lib.hid hkj
              by_cases hjt : j < ni
              · have hjl : j < m.parts.length := by rw [HNI.out]; exact hjt
                have hpt := (HPT.out.keepK HK1.out).keepK hkj
                have hrd := hpt.rd.2.2.2
                obtain ⟨b2, o2, rfl, hb2, z0, z1, z2, z3⟩ := hrd.it hjl
                have HNJ := Lib.hid (pre3_next (S := S) (k := k) hjl)
                have hlen := (HP3.out j).2
                have hitn : ∀ n ∈ itN m.parts[j], okN n := fun n hn => HN2.out n (List.mem_flatMap.2 ⟨_, List.getElem_mem hjl, hn⟩)
                generalize m.parts[j] = x at *
                have j1 : (0 : Int) ≤ (j : Int) := by omega
                have j2 : (j : Int) < (ni : Int) := by omega
                have hXb : Below wr.heap.size wr (wr.alloc (.cells #[.int .i64 x.due, .int .i64 x.kind, .int .i64 x.per, .int .i64 x.opn] 58)) := bnewU _ _
                have hzs : w.heap.size ≤ wr.heap.size := by have := hkj.bel.size; have := HK1.out.bel.size; have := HXB.out.size; omega
                have H4 := Lib.hid (put_fresh w.heap.size w.heap.size (wr.heap.size + 1) (numsB (pre3 S k m j)) (itN x) 4 #[.int .i64 x.due, .int .i64 x.kind, .int .i64 x.per, .int .i64 x.opn] (wr.alloc (.cells #[.int .i64 x.due, .int .i64 x.kind, .int .i64 x.per, .int .i64 x.opn] 58)) (by simp) (hpj.below hXb) rfl rfl (Nat.le_trans hzs hXb.size) (by omega) hitn)
                have HXZ := Lib.hid (Kept.below hXb hzs)
                clear hgj hpj hkj hpt hrd hlen hitn hXb
                go_wp2_with fail
                refine H4.out.mono ?_; rintro e w4 ⟨⟨u4, rfl⟩, hp4, hk4⟩
                have HP4 : Hid (PutAt w4 w.heap.size w.heap.size (numsB (pre3 S k m (j + 1)))) := Lib.hid (by rw [HNJ.out, numsB_app]; exact hp4)
                have HK4 := Lib.hid (HKJ.out.trans (HXZ.out.trans hk4))
                clear hp4 hk4 H4
                go_wp2_with fail
                go_roundg (ni - (j + 1))
                case measure => have := HGJ.out; omega
                case rel => exact ⟨j + 1, rfl, by omega, by go_num, HP4.out, HK4.out⟩
              · have hjn : j = ni := by omega
                subst hjn
                clear hgj hpj hkj
                go_wp2_with fail
                all_goals go_meet
                all_goals exact ⟨HPJ.out, HKJ.out⟩
          case rest =>
            obtain ⟨hpc, hkc⟩ := hcut
            have hXc := hkc.keep _ _ _ _ HX1.out (by decide) (by decide)
            clear y0 y1 y2 y3 y4 y5 y6
            obtain ⟨y0, y1, y2, y3, y4, y5, y6⟩ := cells6U hXc
            have hxcl := blk_lt hXc
            have hlen := (HP3.out ni).2
            have hcs : w.heap.size ≤ wc.heap.size := by have := hkc.bel.size; have := HK1.out.bel.size; have := HXB.out.size; omega
            have H5 := Lib.hid (put_fresh w.heap.size w.heap.size wc.heap.size (numsB (pre3 S k m ni)) [m.rest, revN m.rev] 2 #[.int .i64 m.rest, .int .i64 (revN m.rev)] wc rfl hpc rfl rfl hcs (by omega) HN3.out)
            have HKC := Lib.hid hkc
            have HNX2 : Hid (pre3 S k m ni ++ [m.rest, revN m.rev] = pre2 S (k + 1)) := Lib.hid (by rw [← HNX.out, HNI.out])
            clear hpc hkc hXc hlen
            cases hrv : m.rev
            all_goals
              rw [hrv] at y5 H5 HNX2
              clear hrv
              go_wp2_with fail
              refine H5.out.mono ?_; rintro e w6 ⟨⟨u6, rfl⟩, hp6, hk6⟩
              have HP6 : Hid (PutAt w6 w.heap.size w.heap.size (numsB (pre2 S (k + 1)))) := Lib.hid (by rw [← HNX2.out, numsB_app]; exact hp6)
              have HB6 : Hid (Below w.heap.size w w6) := Lib.hid (HB.out.trans ((HXB.out.mono hrs).trans (HK1.out.bel.trans (HKC.out.bel.trans hk6.bel))))
              clear hp6 hk6 H5
              go_wp2_with fail
              go_roundg (nm - (k + 1))
              case measure => have := HG2.out; omega
              case rel => exact ⟨k + 1, rfl, by omega, by go_num, HP6.out, HB6.out⟩
        · have hkn : k = nm := by omega
          subst hkn
          obtain ⟨v, hv⟩ := HPR.out
          obtain ⟨vc0, vc1⟩ : wr.cell? ⟨w.heap.size, 0, none⟩ = some v ∧ wr.frozen? ⟨w.heap.size, 0, none⟩ = false := ⟨(blk_cell hv.hg 0).trans rfl, blk_free hv.hg 0⟩
          have hgr := blk_lt hv.hg
          obtain ⟨A5, c5, rfl, _⟩ := own_form hv.row
          have HVV := Lib.hid hv.row
          clear hgk hpa hbr hv
          go_wp2_with fail
          go_ret
          have e : saveB S = numsB (pre2 S k) := by unfold saveB; rw [← pre2_last, HNM.out]
          rw [e]
          exact ⟨A5, c5, rfl, HVV.out, HB.out⟩
end Go.Proofs.YtbjjgnaojoaoiaaGreat
/- Bytes as a string; two lists of items that are the same. -/
namespace Go.Proofs.YtbjjgnaojoaoiaaGreat
open Go.RowKit Go
set_option linter.unusedVariables false
set_option linter.unusedSimpArgs false

def strL (l : List Nat) : ByteArray := strOfNums (l.map fun x : Nat => (x : Int))
set_option maxRecDepth 100000 in
theorem conv_bytes {w : World} {B n c : Nat} {A : Option Addr} {l : List Nat} (h : w.ownsRow B 5 1 (.slice A n c) n (bys l)) (hn : l.length = n) (h0 : 0 < n) :
    (convert 66 9 (.slice A n c)).run Tryz.prog w = .ok (.string (strL l)) w := by
  obtain ⟨g, cap, e, _⟩ := h.form h0
  injection e with e1 _ e3
  subst e1 e3
  refine run_convert_bytes_arg w 66 5 Tryz.underlying66 Tryz.underlying5 g 0 n c (l.map fun x : Nat => (x : Int)) (by rw [List.length_map]; exact hn) (fun i hi => ?_) 9 Tryz.underlying9
  rw [Nat.zero_add]
  have hil : i < l.length := by omega
  have := (own_cell h (bys_at hil)).1
  rw [this]
  congr 1
  rw [List.getD_eq_getElem?_getD, List.getElem?_map, List.getElem?_eq_getElem hil]; rfl
theorem saveB_pos (S : Ac) : 0 < (saveB S).length := by
  unfold saveB saveN
  rw [numsB_app, numsB_app, numsB_app, numsB_cons]
  have := numB_pos S.day.toNat
  simp only [List.length_append]; omega
set_option maxHeartbeats 3200000 in
set_option maxRecDepth 100000 in
theorem sameItU_any (A B : Option Addr) (xs : List Dq) (n m c c' : Nat) (w : World) (hx : Rd w w.heap.size 4 A n (itCs xs)) (hy : Rd w w.heap.size 4 B m (itCs xs)) (hn : n ≤ 1000000) :
    Calls Tryz.prog 28 #[.slice A n c, .slice B m c'] w fun e w' => e = .returned (.bool true) ∧ Below w.heap.size w w' := by
  have ex : xs.length = n := by have := hx.1; rw [itCs_len] at this; omega
  have ey : xs.length = m := by have := hy.1; rw [itCs_len] at this; omega
  have hnm : n = m := by omega
  subst hnm
  have HX := Lib.hid hx; have HY := Lib.hid hy; have EX := Lib.hid ex
  clear hx hy ex ey
  go_enter Tryz.func28, Tryz.ntmps28
  go_wp2_with fail
  go_loopg [5] n (fun gh vi wr => ∃ k : Nat, gh = n - k ∧ k ≤ n ∧ vi = .int .i64 k ∧ Below w.heap.size w wr)
  case atStart => exact ⟨0, rfl, by omega, rfl, Below.refl _ _⟩
  case round =>
    obtain ⟨k, hgk, hk, rfl, hb⟩ := hrel
    have HG := Lib.hid hgk; have HB := Lib.hid hb
    clear hgk hb
    by_cases hlt : k < n
    · have h1 : k < xs.length := by have := EX.out; omega
      obtain ⟨b1, o1, rfl, hb1, x0, x1, x2, x3⟩ := (HX.out.below HB.out).it h1
      obtain ⟨b2, o2, rfl, hb2, y0, y1, y2, y3⟩ := (HY.out.below HB.out).it h1
      have i1 : (0 : Int) ≤ (k : Int) := by omega
      have i2 : (k : Int) < (n : Int) := by omega
      generalize xs[k] = x at *
      go_wp2_with fail
      go_quiet (fail)
      clear x0 x1 x2 x3 y0 y1 y2 y3
      go_wp2_with fail
      go_roundg (n - (k + 1))
      case measure => have := HG.out; omega
      case rel => exact ⟨k + 1, rfl, by omega, by go_num, below_drewN HB.out _⟩
    · go_wp2_with fail
      go_ret
      exact ⟨rfl, HB.out⟩
theorem save_enter (u : Value) (w : World) : (callFunc 26 #[u]).run Tryz.prog w = .ok (.enter 26 #[u]) w := by kernel_rfl
end Go.Proofs.YtbjjgnaojoaoiaaGreat
