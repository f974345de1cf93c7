/- The closure of Keep. -/
import Derived.Test.YtfcemlcocdhmfaaXK
import Derived.Test.YtfcemlcocdhmfaaKP0
import Derived.Test.YtfcemlcocdhmfaaXD
namespace Go.Proofs.Ytfcemlcocdhmfaa
open Go.RowKit Go
set_option linter.unusedVariables false
set_option linter.unusedSimpArgs false

/-- The boxes of Keep, and the row that has been made. -/
structure KeepB (w0 : World) (go gm gb : Nat) (Am : Option Addr) (nm cm : Nat) (bot : Bool) (w : World) (v : Value) (os : List El) : Prop where
  bel : Below w0.heap.size w0 w
  hgo : w.heap[go]? = some (.cells #[v] 25 (0, 0))
  hgm : w.heap[gm]? = some (.cells #[.slice Am nm cm] 35 (0, 0))
  hgb : w.heap[gb]? = some (.cells #[.bool bot] 4 (0, 0))
  out : OutAt w w0.heap.size v os
  lens : ∀ q ∈ os, LenR q
  bo : w0.heap.size ≤ go
theorem KeepB.later {w0 w w' : World} {go gm gb nm cm : Nat} {Am : Option Addr} {bot : Bool} {v : Value} {os : List El} (h : KeepB w0 go gm gb Am nm cm bot w v os) (hb : Below w.heap.size w w') : KeepB w0 go gm gb Am nm cm bot w' v os :=
  ⟨h.bel.trans (hb.mono h.bel.size), blk_below h.hgo hb (blk_lt h.hgo), blk_below h.hgm hb (blk_lt h.hgm), blk_below h.hgb hb (blk_lt h.hgb), h.out.below hb, h.lens, h.bo⟩
/-- A row stays where a box of another type is set. -/
theorem OutAt.set {w : World} {B go : Nat} {v u : Value} {qs : List El} {cs : Array Value} {t : Nat} (h : OutAt w B v qs) (hc : w.heap[go]? = some (.cells cs t (0, 0))) (h1 : t ≠ 40) (h2 : t ≠ 5) (i : Nat) : OutAt (w.setCell ⟨go, i, none⟩ u) B v qs :=
  h.keepT (by simp [World.setCell]) fun b cs' t' ht hb => Below.heap_setCell _ _ _ _ (by
    rcases ht with ht | ht
    · exact fun e => ne_of_type hc hb (by rw [ht]; exact h1) e.symm
    · exact fun e => ne_of_type hc hb (by rw [ht]; exact h2) e.symm)
/-- The box of the row is set to another row. -/
theorem KeepB.set {w0 w : World} {go gm gb nm cm : Nat} {Am : Option Addr} {bot : Bool} {v v' : Value} {os qs : List El} (h : KeepB w0 go gm gb Am nm cm bot w v os) (ho : OutAt w w0.heap.size v' qs) (hl : ∀ q ∈ qs, LenR q) : KeepB w0 go gm gb Am nm cm bot (w.setCell ⟨go, 0, none⟩ v') v' qs :=
  ⟨h.bel.setCell h.bo _, (blk_set h.hgo 0 _).trans rfl, blk_far h.hgm (fun e => ne_of_type h.hgm h.hgo (by decide) e) _, blk_far h.hgb (fun e => ne_of_type h.hgb h.hgo (by decide) e) _, ho.set h.hgo (by decide) (by decide) 0, hl, h.bo⟩
/-- The row grows by an append. -/
theorem KeepB.app {w0 w w' : World} {go gm gb nm cm : Nat} {Am : Option Addr} {bot : Bool} {v v' : Value} {os : List El} {q : El} (h : KeepB w0 go gm gb Am nm cm bot w v os) (hm : Mine w0.heap.size w q.kv q.r.key ∧ Mine w0.heap.size w q.vv q.r.val) (hl : LenR q)
    (ho : w'.ownsRow w0.heap.size 40 4 v' (os.length + 1) (elCells os ++ q.cells)) (hg : w.grownBy w' v.ownBlock) : KeepB w0 go gm gb Am nm cm bot (w'.setCell ⟨go, 0, none⟩ v') v' (os ++ [q]) := by
  have h1 := grown_keep h.out.own hg h.hgo (by decide)
  have h2 := grown_keep h.out.own hg h.hgm (by decide)
  have h3 := grown_keep h.out.own hg h.hgb (by decide)
  have h4 := h.out.app hm ho hg
  have hb : Below w0.heap.size w0 w' := own_app_below h.bel (Nat.le_trans h.bel.size (Nat.le_refl _)) h.out.own hg
  exact ⟨hb.setCell h.bo _, (blk_set h1 0 _).trans rfl, blk_far h2 (fun e => ne_of_type h2 h1 (by decide) e) _, blk_far h3 (fun e => ne_of_type h3 h1 (by decide) e) _, h4.set h1 (by decide) (by decide) 0, fun z hz => by
    rcases List.mem_append.1 hz with hz | hz
    · exact h.lens z hz
    · rw [List.mem_singleton.1 hz]; exact hl, h.bo⟩
/-- What the closure leaves. -/
def Kept1 (w0 : World) (go gm gb : Nat) (Am : Option Addr) (nm cm : Nat) (bot : Bool) (ms : List Int) (os g : List El) (w' : World) : Prop :=
  ∃ v' ks, KeepB w0 go gm gb Am nm cm bot w' v' (os ++ ks) ∧ ks.map El.r = dropS bot (keptS ms none (g.map El.r))
set_option maxHeartbeats 6400000 in
set_option maxRecDepth 100000 in
theorem keep1_walk (w0 : World) (go gm gb : Nat) (Am : Option Addr) (nm cm : Nat) (bot : Bool) (ms : List Int) (u v : Value) (g os : List El) (k : List UInt8) (w : World) (hu : RowB w0 u g) (hn : g.length ≤ 1000000) (hl : ∀ q ∈ g, LenR q) (hk : ∀ q ∈ g, q.r.key = k)
    (hms : Rd w0 w0.heap.size 1 Am nm (ints ms)) (hnm : nm ≤ 1000000) (hK : KeepB w0 go gm gb Am nm cm bot w v os) (hos : os.length ≤ 1000000000) :
    Calls Try.prog 35 #[u, .pointer (some ⟨go, 0, none⟩), .pointer (some ⟨gm, 0, none⟩), .pointer (some ⟨gb, 0, none⟩)] w fun e w' => (∃ x, e = .returned x) ∧ Kept1 w0 go gm gb Am nm cm bot ms os g w' := by
  obtain ⟨A, c, rfl⟩ := hu.form
  have HU := Lib.hid hu; have HL := Lib.hid hl; have HKY := Lib.hid hk; have HMS := Lib.hid hms; have HK := Lib.hid hK
  obtain ⟨Ao, co, rfl⟩ := hK.out.row.form
  have hgo := hK.hgo
  obtain ⟨N, hN⟩ : ∃ N, g.length = N := ⟨_, rfl⟩
  have HN := Lib.hid hN
  obtain ⟨F, hF⟩ : ∃ F, os.length = F := ⟨_, rfl⟩
  have HF := Lib.hid hF
  rw [hN] at hn HU ⊢
  rw [hF] at hos hgo HK
  clear hu hl hk hms hK hN hF
  have hg0 : w.cell? ⟨go, 0, none⟩ = some (.slice Ao F co) := blk_cell hgo 0
  have hgl : go < w.heap.size := blk_lt hgo
  have hbe := bnewH w (.cells #[.slice A N c] 25)
  have HK1 := Lib.hid (HK.out.later hbe)
  have HGG := Lib.hid (blk_new w (.cells #[.slice A N c] 25) rfl)
  obtain ⟨gg, hgg⟩ : ∃ gg, gg = w.heap.size := ⟨_, rfl⟩
  rw [← hgg] at HGG
  have HGE := Lib.hid hgg
  clear hbe hgo hgg
  obtain ⟨i0, hi, hz0, hz1, hz2⟩ := info_parts rec_info
  have HI := Lib.hid hi
  clear hi
  go_enter Try.func35, Try.ntmps35
  go_wp2_with fail
  rw [← HGE.out]
  have hgogg : go ≠ gg := by rw [HGE.out]; omega
  have HNE := Lib.hid hgogg
  generalize w.alloc (.cells #[.slice A N c] 25) = w1 at *
  clear HGE hg0 hgl HK
  go_loopg [13] N (fun g' v13 wr => ∃ (j : Nat) (v : Value) (ks : List El), g' = N - j ∧ j ≤ N ∧ v13 = .int .i64 j ∧ ks.map El.r = keptS ms none ((g.map El.r).take j) ∧ KeepB w0 go gm gb Am nm cm bot wr v (os ++ ks) ∧ wr.heap[gg]? = some (.cells #[.slice A N c] 25 (0, 0)) ∧ ks.length ≤ j)
  case atStart => exact ⟨0, _, [], rfl, Nat.zero_le _, rfl, rfl, by rw [List.append_nil]; exact HK1.out, HGG.out, Nat.le_refl _⟩
  case round =>
    obtain ⟨j, v, ks, hg', hj, rfl, hks, hkb, hgg, hkl⟩ := hrel
    clear HK1 HGG
    have HG := Lib.hid hg'; have HKS := Lib.hid hks; have HKB := Lib.hid hkb; have HGG := Lib.hid hgg; have HKL := Lib.hid hkl
    have HROW := Lib.hid (HU.out.up hkb.bel)
    obtain ⟨Av, cv, rfl⟩ := hkb.out.row.form
    have hgc : wr.cell? ⟨go, 0, none⟩ = some (.slice Av (os ++ ks).length cv) := blk_cell hkb.hgo 0
    have hgl : go < wr.heap.size := blk_lt hkb.hgo
    have hggc : wr.cell? ⟨gg, 0, none⟩ = some (.slice A N c) := blk_cell hgg 0
    have hggl : gg < wr.heap.size := blk_lt hgg
    have hgmc : wr.cell? ⟨gm, 0, none⟩ = some (.slice Am nm cm) := blk_cell hkb.hgm 0
    have hgml : gm < wr.heap.size := blk_lt hkb.hgm
    have hgbc : wr.cell? ⟨gb, 0, none⟩ = some (.bool bot) := blk_cell hkb.hgb 0
    have hgbl : gb < wr.heap.size := blk_lt hkb.hgb
    clear hg' hks hkb hgg hkl
    by_cases hlt : j < N
    · have hjl : j < g.length := by rw [HN.out]; exact hlt
      obtain ⟨b, off, Ak, ck, Ax, cx, r, rfl, hbl, he, r0, r1, r2, r3, bk, bv⟩ := HROW.out.pick hjl
      have i1 : (0 : Int) ≤ (j : Int) := by omega
      have i2 : (j : Int) < (N : Int) := by omega
      have hjm : j < (g.map El.r).length := by simpa using hjl
      have hrm : (g.map El.r)[j] = r := by simp [he]
      have hst := kept_step ms (g.map El.r) hjm
      rw [hrm, ← HKS.out] at hst
      obtain ⟨x0, hx0⟩ : ∃ x, seenS ms (lastOr none ((g.map El.r).take j)) r = x := ⟨_, rfl⟩
      rw [hx0] at hst
      have HST := Lib.hid hst; have HX0 := Lib.hid hx0
      have HLR := Lib.hid (show LenR ⟨.slice Ak r.key.length ck, .slice Ax r.val.length cx, r⟩ by have := HL.out _ (List.getElem_mem hjl); rw [he] at this; exact this)
      have hbe := ((Below.refl _ _).alloc (Nat.le_refl wr.heap.size) (.cells #[.int .i64 (j : Int)] 3)).alloc (by simp) (.cells #[.slice Ak r.key.length ck, .int .i64 r.seq, .bool r.del, .slice Ax r.val.length cx] 40)
      have HKB2 := Lib.hid (HKB.out.later hbe)
      have BK := Lib.hid (bk.up hbe); have BV := Lib.hid (bv.up hbe)
      have HBE := Lib.hid hbe
      have HIB := Lib.hid (blk_alloc (blk_new wr (.cells #[.int .i64 (j : Int)] 3) rfl) (.cells #[.slice Ak r.key.length ck, .int .i64 r.seq, .bool r.del, .slice Ax r.val.length cx] 40))
      have HRB := Lib.hid (blk_new (wr.alloc (.cells #[.int .i64 (j : Int)] 3)) (.cells #[.slice Ak r.key.length ck, .int .i64 r.seq, .bool r.del, .slice Ax r.val.length cx] 40) (g := wr.heap.size + 1) (by simp))
      have HRE : Hid ((g.map El.r)[j]'hjm = r) := Lib.hid hrm
      clear hst hx0 hrm he bk bv hbe
      have h2gg := blk_alloc (blk_alloc HGG.out (.cells #[.int .i64 (j : Int)] 3)) (.cells #[.slice Ak r.key.length ck, .int .i64 r.seq, .bool r.del, .slice Ax r.val.length cx] 40)
      have HGG2 := Lib.hid h2gg
      have HCON : Hid (∀ i, j = i + 1 → Calls Try.prog 37 #[.slice Am nm cm, .func (.func 36) #[] #[.pointer (some ⟨wr.heap.size + 1, 0, none⟩), .pointer (some ⟨gg, 0, none⟩), .pointer (some ⟨wr.heap.size, 0, none⟩)]] ((wr.alloc (.cells #[.int .i64 (j : Int)] 3)).alloc (.cells #[.slice Ak r.key.length ck, .int .i64 r.seq, .bool r.del, .slice Ax r.val.length cx] 40)) fun e w' => e = .returned (.bool x0) ∧ w' = ((wr.alloc (.cells #[.int .i64 (j : Int)] 3)).alloc (.cells #[.slice Ak r.key.length ck, .int .i64 r.seq, .bool r.del, .slice Ax r.val.length cx] 40))) := Lib.hid (fun i hi => by
        subst hi
        have hil : i < g.length := by omega
        obtain ⟨b', off', Ap, cp, Vp, dp, p, e, _, hep, p0, p1, p2, p3, pk, pv⟩ := HROW.out.pick hil
        injection e with e; injection e with e1 e2
        subst e1 e2
        have hsg := seen_group ms (l := g.map El.r) (k := k) (fun r hr => by obtain ⟨x, hx, rfl⟩ := List.mem_map.1 hr; exact HKY.out x hx) (j := i) (by simpa using hjl)
        have e1 : (g.map El.r)[i]'(by simpa using hil) = p := by simp [hep]
        have e2 : (g.map El.r)[i + 1]'(by simpa using hjl) = r := HRE.out
        rw [e1, e2, HX0.out] at hsg
        rw [hsg]
        exact contains_any Am nm cm ms r.seq p.seq (wr.heap.size + 1) gg wr.heap.size b off N c i _ ((HMS.out.below HKB2.out.bel).wider HKB2.out.bel.size) (by omega) ((blk_cell HRB.out 1).trans rfl) ((blk_cell h2gg 0).trans rfl) ((blk_cell HIB.out 0).trans rfl) ((HBE.out.cell hbl).trans p1) (by omega) (by omega))
      clear h2gg
      go_upto_region 6 with fail
      go_cut [25] from 14 to 31 (fun v25 wz => v25 = .bool x0 ∧ wz = ((wr.alloc (.cells #[.int .i64 (j : Int)] 3)).alloc (.cells #[.slice Ak r.key.length ck, .int .i64 r.seq, .bool r.del, .slice Ax r.val.length cx] 40)))
      case first =>
        rcases j with _ | i
        · have hx : x0 = true := by rw [← HX0.out]; rfl
          subst hx
          go_wp2_with fail
          go_meet
          exact ⟨rfl, rfl⟩
        · have HC := Lib.hid (HCON.out i rfl)
          have n0 : (((i + 1 : Nat) : Int) == 0) = false := by simp; omega
          have n1 : ¬ (((i + 1 : Nat) : Int) = 0) := by omega
          clear HCON
          go_wp2_with fail
          refine HC.out.mono ?_; rintro e w4 ⟨rfl, rfl⟩
          go_wp2_with fail
          go_meet
          exact ⟨rfl, rfl⟩
      case rest =>
        obtain ⟨rfl, rfl⟩ := hcut
        clear HCON r0 r1 r2 r3
        cases x0 with
        | false =>
          go_wp2_with fail
          go_roundg (N - (j + 1))
          case measure => have := HG.out; omega
          case rel => exact ⟨j + 1, _, ks, rfl, by omega, by go_num, by have := HST.out; rw [this]; simp, HKB2.out, HGG2.out, by have := HKL.out; omega⟩
        | true =>
          have HCP := Lib.hid (fun wx h1 h2 => copied_any (.slice Ak r.key.length ck) (.slice Ax r.val.length cx) r wx h1 h2 HLR.out.1 HLR.out.2)
          have hB2 : w0.heap.size ≤ ((wr.alloc (.cells #[.int .i64 (j : Int)] 3)).alloc (.cells #[.slice Ak r.key.length ck, .int .i64 r.seq, .bool r.del, .slice Ax r.val.length cx] 40)).heap.size := HKB2.out.bel.size
          have HB2 := Lib.hid hB2
          obtain ⟨M, hM⟩ : ∃ M, (os ++ ks).length = M := ⟨_, rfl⟩
          have HM := Lib.hid hM
          have hml : M ≤ 1001000000 := by rw [← hM, List.length_append]; have := HKL.out; have := HF.out; omega
          rw [hM] at hgc HKB2
          have hblk : ((wr.alloc (.cells #[.int .i64 (j : Int)] 3)).alloc (.cells #[.slice Ak r.key.length ck, .int .i64 r.seq, .bool r.del, .slice Ax r.val.length cx] 40)).heap[wr.heap.size + 1]? = _ := HRB.out
          clear hM hB2
          go_upto_region 7 with fail
          have zr : wr.heap.size + 1 < ((wr.alloc (.cells #[.int .i64 (j : Int)] 3)).alloc (.cells #[.slice Ak r.key.length ck, .int .i64 r.seq, .bool r.del, .slice Ax r.val.length cx] 40)).drew.heap.size := by simp
          have y0 : ((wr.alloc (.cells #[.int .i64 (j : Int)] 3)).alloc (.cells #[.slice Ak r.key.length ck, .int .i64 r.seq, .bool r.del, .slice Ax r.val.length cx] 40)).drew.cell? ⟨wr.heap.size + 1, 0, none⟩ = some (.slice Ak r.key.length ck) := (blk_cell HRB.out 0).trans rfl
          clear hblk zr y0
          go_region_law (first
              | (refine step_call1 rfl 24 (.tmp 27) 40 rfl (.agg #[.slice Ak r.key.length ck, .int .i64 r.seq, .bool r.del, .slice Ax r.val.length cx]) rfl (fun wx => copied_enter _ wx) ?_
                 refine (HCP.out (((wr.alloc (.cells #[.int .i64 (j : Int)] 3)).alloc (.cells #[.slice Ak r.key.length ck, .int .i64 r.seq, .bool r.del, .slice Ax r.val.length cx] 40)).drew) BK.out BV.out).mono ?_; rintro e w3 ⟨A3, c3, A4, c4, rfl, hm1, hm2, hw3⟩; refine ⟨_, rfl, ?_⟩
                 have hb3 : Below ((wr.alloc (.cells #[.int .i64 (j : Int)] 3)).alloc (.cells #[.slice Ak r.key.length ck, .int .i64 r.seq, .bool r.del, .slice Ax r.val.length cx] 40)).heap.size ((wr.alloc (.cells #[.int .i64 (j : Int)] 3)).alloc (.cells #[.slice Ak r.key.length ck, .int .i64 r.seq, .bool r.del, .slice Ax r.val.length cx] 40)) w3 := (Below.refl _ _).drew.trans hw3
                 have hkb3 := HKB2.out.later hb3
                 have hgc3 : w3.cell? ⟨go, 0, none⟩ = some (.slice Av M cv) := blk_cell hkb3.hgo 0
                 have hgl3 : go < w3.heap.size := blk_lt hkb3.hgo
                 have hbe3 := bnewH w3 (.cells #[.slice A3 r.key.length c3, .int .i64 r.seq, .bool r.del, .slice A4 r.val.length c4] 40)
                 have hkb4 := hkb3.later hbe3
                 have hsz4 := hkb4.bel.size
                 have HSZ4 := Lib.hid hsz4
                 have HM4 : Hid (Mine w0.heap.size (w3.alloc (.cells #[.slice A3 r.key.length c3, .int .i64 r.seq, .bool r.del, .slice A4 r.val.length c4] 40)) (.slice A3 r.key.length c3) r.key ∧ Mine w0.heap.size (w3.alloc (.cells #[.slice A3 r.key.length c3, .int .i64 r.seq, .bool r.del, .slice A4 r.val.length c4] 40)) (.slice A4 r.val.length c4) r.val) :=
                   Lib.hid ⟨(hm1.move HB2.out (Nat.le_refl _) (fun b hb => rfl)).moveT hbe3.size (fun b cs hb => hbe3.block b (blk_lt hb)), (hm2.move HB2.out (Nat.le_refl _) (fun b hb => rfl)).moveT hbe3.size (fun b cs hb => hbe3.block b (blk_lt hb))⟩
                 have HKB4 := Lib.hid hkb4
                 have HG4 := Lib.hid (blk_below (blk_below HGG2.out hb3 (blk_lt HGG2.out)) hbe3 (blk_lt (blk_below HGG2.out hb3 (blk_lt HGG2.out))))
                 clear hm1 hm2 hw3 hb3 hkb3 hbe3 hkb4 hsz4)
              | (refine step_app rfl (.tmp 26) (.tmp 29) 25 rfl w0.heap.size 40 i0 _ 4 64 Try.underlying25 HI.out hz0 hz1 hz2 rfl (by omega) (.slice Av M cv) M (elCells (os ++ ks)) rfl
                  (by have := HKB4.out.out.own; rw [HM.out] at this; exact this) _ (some ⟨w3.heap.size, 0, none⟩) 1 1 _ rfl (Rd.fresh w3 #[.slice A3 r.key.length c3, .int .i64 r.seq, .bool r.del, .slice A4 r.val.length c4] 40 1 4 rfl) rec_one (by unfold maxLen; omega) (by omega) HSZ4.out ?_
                 intro v5 w5 hO hgr hat
                 have hgo5 := grown_keep HKB4.out.out.own hgr HKB4.out.hgo (by decide)
                 have hf5 : w5.frozen? ⟨go, 0, none⟩ = false := blk_free hgo5 0
                 have hc5 := blk_cell hgo5 0
                 have HGG5 := Lib.hid (grown_keep HKB4.out.out.own hgr HG4.out (by decide))
                 obtain ⟨A5, c5, rfl, _⟩ := own_form hO
                 have HKB5 := Lib.hid (KeepB.app (q := ⟨.slice A3 r.key.length c3, .slice A4 r.val.length c4, r⟩) HKB4.out HM4.out HLR.out (by rw [HM.out]; simpa [El.cells] using hO) hgr)
                 clear hO hgr hat hgo5))
          all_goals go_wp2_with fail
          all_goals (go_roundg (N - (j + 1)); (case measure => have := HG.out; omega); (case rel => exact ⟨j + 1, _, ks ++ [⟨.slice A3 r.key.length c3, .slice A4 r.val.length c4, r⟩], rfl, by omega, by go_num, by rw [List.map_append]; exact HST.out.symm, by rw [← List.append_assoc]; exact HKB5.out, blk_far HGG5.out (by exact fun e => HNE.out e.symm) _, by have := HKL.out; simp; omega⟩))
    · have hjN : j = N := by omega
      subst hjN
      have hks : ks.map El.r = keptS ms none (g.map El.r) := by have := HKS.out; rwa [List.take_of_length_le (by simp [HN.out])] at this
      have HKS2 := Lib.hid hks
      have HKL2 := Lib.hid HKL.out
      clear hks hggc hggl HGG HKL HKS HG
      have hkk : ∀ q ∈ ks, q.r.key = k := fun q hq => by
        have h1 : q.r ∈ keptS ms none (g.map El.r) := by rw [← HKS2.out]; exact List.mem_map_of_mem hq
        obtain ⟨x, hx, e⟩ := List.mem_map.1 ((kept_sub ms _ none).subset h1)
        rw [← e]; exact HKY.out x hx
      have HKK := Lib.hid hkk
      clear hkk
      go_wp2_with fail
      go_loopg [] ks.length (fun g' wx => ∃ (v : Value) (ps : List El), g' = ps.length ∧ KeepB w0 go gm gb Am nm cm bot wx v (os ++ ps) ∧ dropS bot (ps.map El.r) = dropS bot (ks.map El.r) ∧ (∀ q ∈ ps, q.r.key = k) ∧ ps.length ≤ ks.length)
      case atStart => exact ⟨_, ks, rfl, HKB.out, rfl, HKK.out, Nat.le_refl _⟩
      case round =>
        obtain ⟨v, ps, hg', hkb, hdr, hpk, hpl⟩ := hrel
        clear HKB HKK hgc hgl hgmc hgml hgbc hgbl
        have HG := Lib.hid hg'; have HKB := Lib.hid hkb; have HDR := Lib.hid hdr; have HPK := Lib.hid hpk; have HPL := Lib.hid hpl
        obtain ⟨Av, cv, rfl⟩ := hkb.out.row.form
        have hgc : wr.cell? ⟨go, 0, none⟩ = some (.slice Av (os ++ ps).length cv) := blk_cell hkb.hgo 0
        have hgf : wr.frozen? ⟨go, 0, none⟩ = false := blk_free hkb.hgo 0
        have hgl : go < wr.heap.size := blk_lt hkb.hgo
        have hgbc : wr.cell? ⟨gb, 0, none⟩ = some (.bool bot) := blk_cell hkb.hgb 0
        clear hg' hkb hdr hpk hpl
        cases bot with
        | false =>
          have HE : Hid (ps.map El.r = dropS false (keptS ms none (g.map El.r))) := Lib.hid (by have := HDR.out; rw [drop_no, drop_no] at this; rw [this, HKS2.out, drop_no])
          go_wp2_with fail
          go_end0
          exact ⟨⟨_, rfl⟩, _, ps, HKB.out, HE.out⟩
        | true =>
          rcases List.eq_nil_or_concat ps with hp0 | ⟨qs, z, hps⟩
          · subst hp0
            have HE : Hid (([] : List El).map El.r = dropS true (keptS ms none (g.map El.r))) := Lib.hid (by rw [← HKS2.out]; exact HDR.out)
            rw [List.append_nil, HF.out] at hgc
            have n1 : ¬ ((F : Int) < (F : Int)) := by omega
            go_wp2_with fail
            go_end0
            exact ⟨⟨_, rfl⟩, _, [], HKB.out, HE.out⟩
          · rw [List.concat_eq_append] at hps
            subst hps
            obtain ⟨P, hP⟩ : ∃ P, (os ++ qs).length = P := ⟨_, rfl⟩
            have hM : (os ++ (qs ++ [z])).length = P + 1 := by rw [← List.append_assoc, List.length_append, hP]; rfl
            rw [hM] at hgc
            have hrow := HKB.out.out.row
            rw [hM] at hrow
            have hPl : P < (os ++ (qs ++ [z])).length := by omega
            have hz : (os ++ (qs ++ [z]))[P] = z := by
              have h1 : (os ++ (qs ++ [z]))[P]? = some z := by
                rw [← List.append_assoc, List.getElem?_append_right (by omega), hP, Nat.sub_self]; rfl
              exact (List.getElem?_eq_some_iff.1 h1).2
            obtain ⟨b', off', rfl, hbo, s0, s1, s2, s3⟩ := hrow.at_ hPl
            rw [hz] at s2
            have hcap : P + 1 ≤ cv := by obtain ⟨_, _, e, h1, _⟩ := hrow; injection e with e1 e2 e3; omega
            have hFP : F ≤ P := by rw [← hP, List.length_append, HF.out]; omega
            have hPb : P ≤ 1001000000 := by
              have hx := HPL.out; have hy := HKL2.out
              rw [List.length_append, List.length_singleton] at hx; rw [← hP, List.length_append, HF.out]; omega
            have g1 : (F : Int) < ((P + 1 : Nat) : Int) := by omega
            have g1' : (F : Int) < (P : Int) + 1 := by omega
            have jj : IntKind.i64.wrap ((P : Int) + 1 - 1) = (P : Int) := by rw [IntWalk.i64_in _ (by omega)]; omega
            have jk : IntKind.i64.wrap (P : Int) = (P : Int) := IntWalk.i64_in _ (by omega)
            have j2 : (0 : Int) ≤ (P : Int) := by omega
            have j3 : (P : Int) < (P : Int) + 1 := by omega
            have j4 : (P : Int) < ((P + 1 : Nat) : Int) := by omega
            have j5 : (P : Int) ≤ (cv : Int) := by omega
            have hpc : P ≤ cv := by omega
            have HZK := Lib.hid (HPK.out)
            have HP := Lib.hid hP
            clear s0 s1 s3 hM hrow hz hPl hcap hFP hP
            cases hd : z.r.del with
            | false =>
              rw [hd] at s2
              have HE : Hid ((qs ++ [z]).map El.r = dropS true (keptS ms none (g.map El.r))) := Lib.hid (by
                rw [← HKS2.out, ← HDR.out, List.map_append]
                exact (drop_whole true k z.r (by rw [hd]; rfl) (qs.map El.r) (fun r hr => by
                  rw [show qs.map El.r ++ [z.r] = (qs ++ [z]).map El.r by simp] at hr
                  obtain ⟨x, hx, rfl⟩ := List.mem_map.1 hr; exact HZK.out x hx)).symm)
              clear hd
              go_wp2_with fail
              go_end0
              exact ⟨⟨_, rfl⟩, _, qs ++ [z], HKB.out, HE.out⟩
            | true =>
              rw [hd] at s2
              have HE : Hid (dropS true (qs.map El.r) = dropS true (ks.map El.r)) := Lib.hid (by
                rw [← HDR.out, List.map_append]
                exact (drop_gone true (t := [z].map El.r) (by simp [dropS, hd, isLast]) (qs.map El.r)).symm)
              clear hd
              have HKL : Hid (KeepB w0 go gm gb Am nm cm true (wr.setCell ⟨go, 0, none⟩ (.slice (some ⟨b', off', none⟩) P cv)) (.slice (some ⟨b', off', none⟩) P cv) (os ++ qs)) := Lib.hid (HKB.out.set (OutAt.less (q := z) (by have := HKB.out.out; rw [← List.append_assoc, List.length_append, HP.out] at this; exact this) HP.out) (fun q hq => HKB.out.lens q (by
                rw [← List.append_assoc]; exact List.mem_append_left _ hq)))
              go_wp2_with fail
              go_roundg qs.length
              case measure => have := HG.out; simp at this; omega
              case rel => exact ⟨_, qs, rfl, HKL.out, HE.out, fun q hq => HZK.out q (List.mem_append_left _ hq), by have := HPL.out; simp at this; omega⟩
end Go.Proofs.Ytfcemlcocdhmfaa
