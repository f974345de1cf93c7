/- The reference's At. -/
import Derived.Test.YtfcemlcocdhmfaaAT2
namespace Go.Proofs.Ytfcemlcocdhmfaa
open Go.RowKit Go
set_option linter.unusedVariables false
set_option linter.unusedSimpArgs false

/-- A row of pairs of the call's own, whose texts are others'. -/
structure OutQ (w : World) (B : Nat) (v : Value) (ps : List Pr) : Prop where
  own : w.ownsRow B 58 2 v ps.length (prCells ps)
theorem OutQ.nil (w : World) (B : Nat) : OutQ w B (.slice none 0 0) [] := ⟨World.ownsRow_nil _ _ _ _⟩
theorem OutQ.below {w w' : World} {B : Nat} {v : Value} {ps : List Pr} (h : OutQ w B v ps) (hb : Below w.heap.size w w') : OutQ w' B v ps := ⟨own_below h.own hb⟩
theorem OutQ.form {w : World} {B : Nat} {v : Value} {ps : List Pr} (h : OutQ w B v ps) : ∃ A c, v = .slice A ps.length c := by
  obtain ⟨A, c, e, _⟩ := own_form h.own; exact ⟨A, c, e⟩
theorem OutQ.row {w w0 : World} {v : Value} {ps : List Pr} (h : OutQ w w0.heap.size v ps) (hb : Below w0.heap.size w0 w) (hq : ∀ q ∈ ps, Bs w0 w0.heap.size q.kv q.p.1 ∧ Bs w0 w0.heap.size q.vv q.p.2) : RowP w v ps := by
  obtain ⟨A, c, rfl⟩ := h.form
  exact ⟨A, c, rfl, Rd.of_own h.own, fun q hq' => ⟨(hq q hq').1.up hb, (hq q hq').2.up hb⟩⟩
/-- The key that is done, and where it stands. -/
def DoneAt (qs : List El) (k : Nat) (d : Int) (D : Option (List UInt8)) : Prop := (d = -1 ∧ D = none) ∨ ∃ j x, j < k ∧ qs[j]? = some x ∧ d = (j : Int) ∧ D = some x.r.key
theorem DoneAt.more {qs : List El} {k : Nat} {d : Int} {D : Option (List UInt8)} (h : DoneAt qs k d D) : DoneAt qs (k + 1) d D := by
  rcases h with h | ⟨j, x, h1, h2⟩
  · exact .inl h
  · exact .inr ⟨j, x, by omega, h2⟩
theorem at_skip {seq : Int} {D : Option (List UInt8)} {r : Rc} {rs : List Rc} (h : seq < r.seq ∨ D = some r.key) : atS seq D (r :: rs) = atS seq D rs := by rw [atS, if_pos h]
theorem at_take {seq : Int} {D : Option (List UInt8)} {r : Rc} {rs : List Rc} (h1 : ¬ seq < r.seq) (h2 : D ≠ some r.key) : atS seq D (r :: rs) = (if r.del then [] else [(r.key, r.val)]) ++ atS seq (some r.key) rs := by
  rw [atS, if_neg]; rintro (h | h); exact h1 h; exact h2 h
/-- The pairs' texts are the row's. -/
def TextOf (w : World) (ps : List Pr) : Prop := ∀ q ∈ ps, Bs w w.heap.size q.kv q.p.1 ∧ Bs w w.heap.size q.vv q.p.2
set_option maxHeartbeats 3200000 in
set_option maxRecDepth 100000 in
theorem atRef_any (v : Value) (seq : Int) (qs : List El) (w : World) (h : RowB w v qs) (hn : qs.length ≤ 1000000000) :
    Calls Try.prog 17 #[v, .int .i64 seq] w (Ats seq qs w) := by
  have H := Lib.hid h
  obtain ⟨A, c, rfl⟩ := h.form
  have hin := inOrder_ref (.slice A qs.length c) qs w h (by omega)
  clear h
  cases hs : inO (qs.map El.r) with
  | false =>
    rw [hs] at hin
    have HIN := Lib.hid hin; have HS := Lib.hid hs
    clear hin hs
    by_cases h0 : qs.length = 0
    · rw [h0] at hn HIN ⊢
      go_enter Try.func17, Try.ntmps17
      go_wp2_with fail
      refine HIN.out.mono ?_; rintro e w1 ⟨rfl, hw1⟩
      have HW := Lib.hid hw1; clear hw1
      go_wp2_with fail
      go_loopg [5, 8] 0 (fun g v5 v8 wr => g = 0 ∧ v5 = .slice none 0 0 ∧ v8 = .int .i64 0 ∧ wr = w1)
      case atStart => exact ⟨rfl, rfl, rfl, rfl⟩
      case round =>
        obtain ⟨hg, rfl, rfl, rfl⟩ := hrel
        go_wp2_with fail
        go_ret
        exact ⟨⟨_, [], rfl, ⟨none, 0, rfl, Rd.nil, by simp⟩, by rw [AtS, if_neg (by rw [HS.out]; decide)]; rfl⟩, HW.out⟩
    · have h1 : (0 : Int) < (qs.length : Int) := by omega
      go_enter Try.func17, Try.ntmps17
      go_wp2_with fail
      refine HIN.out.mono ?_; rintro e w1 ⟨rfl, hw1⟩
      have HW := Lib.hid hw1; clear hw1
      go_wp2_with fail
      go_loopg [5, 8] 0 (fun g v5 v8 wr => g = 0 ∧ v5 = .slice none 0 0 ∧ v8 = .int .i64 0 ∧ wr = w1)
      case atStart => exact ⟨rfl, rfl, rfl, rfl⟩
      case round =>
        obtain ⟨hg, rfl, rfl, rfl⟩ := hrel
        go_wp2_with fail
        go_ret
        exact ⟨⟨_, [], rfl, ⟨none, 0, rfl, Rd.nil, by simp⟩, by rw [AtS, if_neg (by rw [HS.out]; decide)]; rfl⟩, HW.out⟩
  | true =>
    rw [hs] at hin
    have HIN := Lib.hid hin; have HS := Lib.hid hs
    obtain ⟨i0, hi, z0, hz0, hz, hz1, hz2⟩ := pair_parts
    have HI := Lib.hid hi
    have HBQ := Lib.hid H.out.bs
    obtain ⟨N, hN⟩ : ∃ N, qs.length = N := ⟨_, rfl⟩
    have HN := Lib.hid hN
    rw [hN] at hn H HIN ⊢
    clear hin hs hN hi
    go_enter Try.func17, Try.ntmps17
    go_wp2_with fail
    refine HIN.out.mono ?_; rintro e w1 ⟨rfl, hw1⟩
    have HW := Lib.hid hw1; clear hw1
    go_wp2_with fail
    go_loopg [5, 7, 8] N (fun g vo vd vi wr => ∃ (k : Nat) (d : Int) (D : Option (List UInt8)) (ps : List Pr), g = N - k ∧ k ≤ N ∧ vi = .int .i64 k ∧ vd = .int .i64 d ∧ DoneAt qs k d D ∧ ps.map Pr.p ++ atS seq D ((qs.map El.r).drop k) = atS seq none (qs.map El.r) ∧ OutQ wr w.heap.size vo ps ∧ TextOf w ps ∧ ps.length ≤ k ∧ Below w.heap.size w wr)
    case atStart => exact ⟨0, -1, none, [], rfl, Nat.zero_le _, rfl, rfl, .inl ⟨rfl, rfl⟩, rfl, OutQ.nil _ _, by intro q hq; simp at hq, Nat.le_refl _, HW.out⟩
    case round =>
      obtain ⟨k, d, D, ps, hg, hk, rfl, rfl, hd, hat, ho, ht, hpl, hb⟩ := hrel
      have HG := Lib.hid hg; have HD := Lib.hid hd; have HA := Lib.hid hat; have HO := Lib.hid ho; have HT := Lib.hid ht; have HB := Lib.hid hb
      obtain ⟨Ao, co, rfl⟩ := ho.form
      have HROW := Lib.hid (H.out.up hb)
      clear hg hd hat ho ht hb HW
      have i1 : (0 : Int) ≤ (k : Int) := by omega
      by_cases hlt : k < N
      · have hl : k < qs.length := by rw [HN.out]; exact hlt
        have i2 : (k : Int) < (N : Int) := by omega
        obtain ⟨b, off, Ak, ck, Av, cv, r, rfl, hbl, he, r0, r1, r2, r3, bk, bv⟩ := HROW.out.pick hl
        have hd0 : (qs.map El.r).drop k = r :: (qs.map El.r).drop (k + 1) := by
          rw [List.drop_eq_getElem_cons (by simpa using hl)]; simp [he]
        have HE := Lib.hid he; have HDR := Lib.hid hd0; have BK := Lib.hid bk
        clear he hd0 bk bv
        have HKB : Hid (Bs w w.heap.size (.slice Ak r.key.length ck) r.key ∧ Bs w w.heap.size (.slice Av r.val.length cv) r.val) := Lib.hid (by have := HBQ.out _ (List.getElem_mem hl); rw [HE.out] at this; exact this)
        by_cases hsq : seq < r.seq
        · have HN1 := Lib.hid (at_skip (D := D) (rs := (qs.map El.r).drop (k + 1)) (.inl hsq))
          go_wp2_with fail
          go_quiet (fail)
          go_wp2_with fail
          go_roundg (N - (k + 1))
          case measure => have := HG.out; omega
          case rel => exact ⟨k + 1, d, D, ps, rfl, by omega, by go_num, rfl, HD.out.more, by rw [← HN1.out, ← HDR.out]; exact HA.out, HO.out.below (below_drewN (Below.refl _ _) _), HT.out, by omega, below_drewN HB.out _⟩
        · have key : (D = some r.key ∧ ∃ (j : Nat) (x : El) (Aj : Option Addr) (cj : Nat), d = (j : Int) ∧ j < N ∧ x.r.key = r.key ∧ wr.cell? ⟨b, off + j * 4, none⟩ = some (.slice Aj x.r.key.length cj) ∧ Bs wr wr.heap.size (.slice Aj x.r.key.length cj) x.r.key) ∨
              (D ≠ some r.key ∧ d = -1) ∨ (D ≠ some r.key ∧ ∃ (j : Nat) (x : El) (Aj : Option Addr) (cj : Nat), d = (j : Int) ∧ j < N ∧ x.r.key ≠ r.key ∧ wr.cell? ⟨b, off + j * 4, none⟩ = some (.slice Aj x.r.key.length cj) ∧ Bs wr wr.heap.size (.slice Aj x.r.key.length cj) x.r.key) := by
            rcases HD.out with ⟨h1, h2⟩ | ⟨j, x, h1, h2, h3, h4⟩
            · exact .inr (.inl ⟨by rw [h2]; simp, h1⟩)
            · obtain ⟨hj, hx⟩ := List.getElem?_eq_some_iff.1 h2
              obtain ⟨b', off', Aj, cj, Aj', cj', rj, e, _, hej, s0, s1, s2, s3, sk, sv⟩ := HROW.out.pick hj
              injection e with e; injection e with e1 e2
              subst e1 e2
              rw [hx] at hej
              have hrj : x.r = rj := by rw [hej]
              rw [← hrj] at s0 sk
              by_cases hk : x.r.key = r.key
              · exact .inl ⟨by rw [h4, hk], j, x, Aj, cj, h3, by omega, hk, s0, sk⟩
              · exact .inr (.inr ⟨by rw [h4]; intro e; injection e with e; exact hk e, j, x, Aj, cj, h3, by omega, hk, s0, sk⟩)
          have hsq' : ¬ (r.seq > seq) := hsq
          have hdk := HKB.out
          rcases key with ⟨hD, j, x, Aj, cj, rfl, hjN, hxk, s0, sk⟩ | hno
          · have HN1 := Lib.hid (at_skip (seq := seq) (rs := (qs.map El.r).drop (k + 1)) (.inr hD))
            have j0 : (0 : Int) ≤ (j : Int) := by omega
            have j1 : (j : Int) < (N : Int) := by omega
            have k1 : ∀ n, (convert 38 9 (.slice Aj x.r.key.length cj)).run Try.prog (wr.drewN n) = .ok (.string (strOfNums (nums x.r.key))) (wr.drewN n) := fun m => Bs.conv (w := wr.drewN m) (B := wr.heap.size) sk
            have k2 : ∀ n, (convert 38 9 (.slice Ak r.key.length ck)).run Try.prog (wr.drewN n) = .ok (.string (strOfNums (nums r.key))) (wr.drewN n) := fun m => Bs.conv (w := wr.drewN m) (B := wr.heap.size) BK.out
            have t1 : ((strOfNums (nums x.r.key)).toList == (strOfNums (nums r.key)).toList) = true := by rw [str_l, str_l]; simpa using hxk
            clear hxk sk hdk hD
            go_wp2_with fail
            go_quiet (fail)
            clear k1 k2 t1
            go_wp2_with fail
            go_roundg (N - (k + 1))
            case measure => have := HG.out; omega
            case rel => exact ⟨k + 1, _, D, ps, rfl, by omega, by go_num, rfl, HD.out.more, by rw [← HN1.out, ← HDR.out]; exact HA.out, HO.out.below (below_drewN (Below.refl _ _) _), HT.out, by omega, below_drewN HB.out _⟩
          · have hDn : D ≠ some r.key := by rcases hno with h | h <;> exact h.1
            have HN1 := Lib.hid (at_take (rs := (qs.map El.r).drop (k + 1)) hsq hDn)
            have HDN : Hid (DoneAt qs (k + 1) (k : Int) (some r.key)) := Lib.hid (.inr ⟨k, qs[k], by omega, List.getElem?_eq_getElem hl, rfl, by rw [HE.out]⟩)
            go_upto_region 7 with fail
            go_cut [45] from 11 to 66 (fun v45 wz => v45 = .bool false ∧ Below wr.heap.size wr wz)
            case first =>
              rcases hno with ⟨_, rfl⟩ | ⟨_, j, x, Aj, cj, rfl, hjN, hxk, s0, sk⟩
              · have g0 : decide ((0 : Int) ≤ -1) = false := by decide
                have g1 : ¬ ((0 : Int) ≤ -1) := by omega
                have g2 : decide (seq < r.seq) = false := decide_eq_false hsq
                go_wp2_with fail
                go_quiet (fail)
                go_wp2_with fail
                go_meet
                exact ⟨rfl, below_drewN (Below.refl _ _) _⟩
              · have j0 : (0 : Int) ≤ (j : Int) := by omega
                have j1 : (j : Int) < (N : Int) := by omega
                have k1 : ∀ n, (convert 38 9 (.slice Aj x.r.key.length cj)).run Try.prog (wr.drewN n) = .ok (.string (strOfNums (nums x.r.key))) (wr.drewN n) := fun m => Bs.conv (w := wr.drewN m) (B := wr.heap.size) sk
                have k2 : ∀ n, (convert 38 9 (.slice Ak r.key.length ck)).run Try.prog (wr.drewN n) = .ok (.string (strOfNums (nums r.key))) (wr.drewN n) := fun m => Bs.conv (w := wr.drewN m) (B := wr.heap.size) BK.out
                have t1 : ((strOfNums (nums x.r.key)).toList == (strOfNums (nums r.key)).toList) = false := by rw [str_l, str_l]; simpa using hxk
                clear hxk sk hdk
                go_wp2_with fail
                go_quiet (fail)
                clear k1 k2 t1
                go_wp2_with fail
                go_meet
                exact ⟨by first | rfl | (simp; omega), below_drewN (Below.refl _ _) _⟩
            case rest =>
              obtain ⟨rfl, hbz⟩ := hcut
              have HBZ := Lib.hid (HB.out.trans (hbz.mono HB.out.size)); have HOZ := Lib.hid (HO.out.below hbz)
              obtain ⟨r0, r1, r2, r3⟩ : _ ∧ _ ∧ _ ∧ _ := ⟨(hbz.cell hbl).trans r0, (hbz.cell hbl).trans r1, (hbz.cell hbl).trans r2, (hbz.cell hbl).trans r3⟩
              clear hbz hno hdk hDn
              cases hdel : r.del with
              | true =>
                rw [hdel] at r2
                have HDL := Lib.hid hdel; clear hdel
                go_wp2_with fail
                go_roundg (N - (k + 1))
                case measure => have := HG.out; omega
                case rel => exact ⟨k + 1, _, some r.key, ps, rfl, by omega, by go_num, by go_num, HDN.out, by have := HA.out; rw [HDR.out, HN1.out, HDL.out] at this; simpa using this, HOZ.out, HT.out, by omega, HBZ.out⟩
              | false =>
                rw [hdel] at r2
                have HDL := Lib.hid hdel; clear hdel
                go_upto_region 10 with fail
                have HOA : Hid ((wc.alloc (.cells #[.slice Ak r.key.length ck, .slice Av r.val.length cv] 58)).drew.ownsRow w.heap.size 58 2 (.slice Ao ps.length co) ps.length (prCells ps)) := Lib.hid (own_drew (HOZ.out.own.alloc _))
                have HRA : Hid (Rd (wc.alloc (.cells #[.slice Ak r.key.length ck, .slice Av r.val.length cv] 58)).drew (wc.heap.size + 1) 2 (some ⟨wc.heap.size, 0, none⟩) 1 [.slice Ak r.key.length ck, .slice Av r.val.length cv]) := Lib.hid (rd_drew ((Rd.fresh wc #[.slice Ak r.key.length ck, .slice Av r.val.length cv] 58 1 2 rfl).wider (by simp)))
                have hsz : w.heap.size ≤ wc.heap.size := HBZ.out.size
                have HBA : Hid (Below w.heap.size w (wc.alloc (.cells #[.slice Ak r.key.length ck, .slice Av r.val.length cv] 58)).drew) := Lib.hid ((HBZ.out.alloc hsz _).drew)
                have HSA : Hid (w.heap.size ≤ (wc.alloc (.cells #[.slice Ak r.key.length ck, .slice Av r.val.length cv] 58)).drew.heap.size) := Lib.hid (by simp; omega)
                go_region_law (first
                    | (refine step_app rfl (.tmp 53) (.tmp 65) 32 rfl w.heap.size 58 i0 _ 2 48 Try.underlying32 HI.out hz0 hz1 hz2 hz (by omega) (.slice Ao ps.length co) ps.length (prCells ps) rfl
                        HOA.out _ _ 1 1 [.slice Ak r.key.length ck, .slice Av r.val.length cv] rfl HRA.out pair_one (by unfold maxLen; omega) (by omega) HSA.out ?_
                       intro v' w' hO hgr hat
                       have HW2 := Lib.hid (HBA.out.grown hgr HSA.out (own_rows HOA.out))
                       have HO2 : Hid (OutQ w' w.heap.size v' (ps ++ [⟨.slice Ak r.key.length ck, .slice Av r.val.length cv, (r.key, r.val)⟩])) := Lib.hid ⟨by rw [prCells_app, List.length_append]; simpa [prCells, Pr.cells] using hO⟩
                       obtain ⟨A', c', rfl, _⟩ := own_form hO
                       clear hO hgr hat))
                all_goals go_wp2_with fail
                all_goals (go_roundg (N - (k + 1)); (case measure => have := HG.out; omega); (case rel => exact ⟨k + 1, _, some r.key, ps ++ [⟨.slice Ak r.key.length ck, .slice Av r.val.length cv, (r.key, r.val)⟩], rfl, by omega, by go_num, rfl, HDN.out, by have := HA.out; rw [HDR.out, HN1.out, HDL.out] at this; simpa using this, by simpa using HO2.out, by
                    intro q hq
                    rcases List.mem_append.1 hq with hq | hq
                    · exact HT.out q hq
                    · rw [List.mem_singleton.1 hq]; exact HKB.out, by simp; omega, HW2.out⟩))
      · have hkN : k = N := by omega
        subst hkN
        have n1 : ¬ ((k : Int) < (k : Int)) := by omega
        have HF : Hid (ps.map Pr.p = atS seq none (qs.map El.r)) := Lib.hid (by have := HA.out; rw [List.drop_of_length_le (by simp [HN.out])] at this; simpa [atS] using this)
        go_wp2_with fail
        go_ret
        exact ⟨⟨_, ps, rfl, HO.out.row HB.out HT.out, by rw [AtS, if_pos HS.out]; exact HF.out⟩, HB.out⟩
end Go.Proofs.Ytfcemlcocdhmfaa
