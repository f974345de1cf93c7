/- merge.Keep; the reference's seen and Keep. -/
import Derived.Test.YtfcemlcocdhmfaaKP3
/- merge.Keep. -/
namespace Go.Proofs.Ytfcemlcocdhmfaa
open Go.RowKit Go
set_option linter.unusedVariables false
set_option linter.unusedSimpArgs false

/-- What Keep tells. -/
def KeepS (ms : List Int) (bot : Bool) (rs : List Rc) : List Rc := if inO rs = true then keepS ms bot rs else []
def Keeps (ms : List Int) (bot : Bool) (qs : List El) (w : World) (e : Ending) (w' : World) : Prop :=
  (∃ vo ks, e = .returned vo ∧ RowB w' vo ks ∧ ks.map El.r = KeepS ms bot (qs.map El.r) ∧ ∀ q ∈ ks, LenR q) ∧ Below w.heap.size w w'
def KeepI (w0 : World) (go gm gb : Nat) (Am : Option Addr) (nm cm : Nat) (bot : Bool) (ms : List Int) (qs pre : List El) (wr : World) : Prop :=
  ∃ v os, KeepB w0 go gm gb Am nm cm bot wr v os ∧ os.length ≤ pre.length ∧ (inO (qs.map El.r) = true → os.map El.r = keepS ms bot (pre.map El.r) ∧ SepAt qs pre)
set_option maxHeartbeats 1600000 in
theorem keep_any (v : Value) (Am : Option Addr) (nm cm : Nat) (bot : Bool) (ms : List Int) (qs : List El) (w : World) (h : RowB w v qs) (hn : qs.length ≤ 1000000) (hl : ∀ q ∈ qs, LenR q) (hms : Rd w w.heap.size 1 Am nm (ints ms)) (hnm : nm ≤ 1000000) :
    Calls Try.prog 18 #[v, .slice Am nm cm, .bool bot] w (Keeps ms bot qs w) := by
  have H := Lib.hid h; have HL := Lib.hid hl; have HM := Lib.hid hms
  obtain ⟨A, c, rfl⟩ := h.form
  clear h hl hms
  obtain ⟨gm, hgm⟩ : ∃ g, g = w.heap.size := ⟨_, rfl⟩
  obtain ⟨gb, hgb⟩ : ∃ g, g = w.heap.size + 1 := ⟨_, rfl⟩
  obtain ⟨go, hgo⟩ : ∃ g, g = w.heap.size + 2 := ⟨_, rfl⟩
  have hK : KeepB w go gm gb Am nm cm bot (((w.alloc (.cells #[.slice Am nm cm] 35)).alloc (.cells #[.bool bot] 4)).alloc (.cells #[.slice none 0 0] 25)) (.slice none 0 0) [] :=
    ⟨(((Below.refl _ _).alloc (Nat.le_refl _) _).alloc (by simp) _).alloc (by simp; omega) _, blk_new _ _ (by simp [hgo]), blk_alloc (blk_alloc (blk_new _ _ hgm) _) _, blk_alloc (blk_new _ _ (by simp [hgb])) _, OutAt.nil _ _, by simp, by omega⟩
  have h0 : KeepI w go gm gb Am nm cm bot ms qs [] (((w.alloc (.cells #[.slice Am nm cm] 35)).alloc (.cells #[.bool bot] 4)).alloc (.cells #[.slice none 0 0] 25)) :=
    ⟨_, [], hK, Nat.le_refl _, fun _ => ⟨rfl, fun y _ x hx => by simp at hx⟩⟩
  have hcall := groups_keep (KeepI w go gm gb Am nm cm bot ms qs) (.pointer (some ⟨go, 0, none⟩)) (.pointer (some ⟨gm, 0, none⟩)) (.pointer (some ⟨gb, 0, none⟩)) (.slice A qs.length c) qs w (((w.alloc (.cells #[.slice Am nm cm] 35)).alloc (.cells #[.bool bot] 4)).alloc (.cells #[.slice none 0 0] 25)) H.out (by omega)
    (fun pre wr hi => by obtain ⟨_, _, hk, _⟩ := hi; exact hk.bel) (fun pre wr w' hi hb => by obtain ⟨v, os, hk, h1, h2⟩ := hi; exact ⟨v, os, hk.later hb, h1, h2⟩) h0 (fun pre g post u wr k hi hr hg0 hq hk hp => by
      obtain ⟨v, os, h1, h2, h3⟩ := hi
      have hlen : pre.length + g.length ≤ qs.length := by rw [hq]; simp
      refine (keep1_walk w go gm gb Am nm cm bot ms u v g os k wr hr (by omega) (fun q hq' => HL.out q (by rw [hq]; simp [hq'])) hk HM.out hnm h1 (by omega)).mono ?_
      rintro e w' ⟨hx, v', ks, g1, g2⟩
      have hkl : ks.length ≤ g.length := by
        have e1 := congrArg List.length g2
        have e2 := drop_len bot (keptS ms none (g.map El.r)); have e3 := kept_len ms (g.map El.r)
        simp only [List.length_map] at e1 e3; omega
      refine ⟨hx, v', os ++ ks, g1, by simp; omega, fun hs => ?_⟩
      obtain ⟨f1, f2⟩ := h3 hs
      refine ⟨?_, sep_step hs hq hg0 hk hp⟩
      rw [List.map_append, List.map_append, keep_step ms bot k (pre := pre.map El.r) (g := g.map El.r), f1, g2]
      · intro r hr; obtain ⟨x, hx, rfl⟩ := List.mem_map.1 hr; exact sep_key f2 hq hg0 hk x hx
      · intro r hr; obtain ⟨x, hx, rfl⟩ := List.mem_map.1 hr; exact hk x hx)
  rw [hgm, hgb, hgo] at hcall
  have HC := Lib.hid hcall
  clear h0 hcall hK
  go_enter Try.func18, Try.ntmps18
  go_wp2_with fail
  refine HC.out.mono ?_
  rintro e w1 ⟨⟨x, rfl⟩, hi⟩
  have hres : ∃ vo os, w1.heap[w.heap.size + 2]? = some (.cells #[vo] 25 (0, 0)) ∧ RowB w1 vo os ∧ os.map El.r = KeepS ms bot (qs.map El.r) ∧ (∀ q ∈ os, LenR q) ∧ Below w.heap.size w w1 := by
    by_cases hs : inO (qs.map El.r) = true
    · rw [if_pos hs] at hi
      obtain ⟨vo, os, h1, h2, h3⟩ := hi
      exact ⟨vo, os, h1.hgo, h1.out.row, by rw [KeepS, if_pos hs, (h3 hs).1], h1.lens, h1.bel⟩
    · rw [if_neg hs] at hi
      obtain ⟨vo, os, h1, h2, h3⟩ := hi
      have : os = [] := List.eq_nil_of_length_eq_zero (by simpa using h2)
      exact ⟨vo, os, h1.hgo, h1.out.row, by rw [KeepS, if_neg hs, this]; rfl, h1.lens, h1.bel⟩
  obtain ⟨vo, os, r1, r2, r3, r4, r5⟩ := hres
  have hc : w1.cell? ⟨w.heap.size + 2, 0, none⟩ = some vo := blk_cell r1 0
  have R2 := Lib.hid r2; have R3 := Lib.hid r3; have R4 := Lib.hid r4; have R5 := Lib.hid r5
  obtain ⟨Ao, co, rfl⟩ := r2.form
  clear hi r1 r2 r3 r4 r5 HC
  go_wp2_with fail
  go_ret
  exact ⟨⟨_, os, rfl, R2.out, R3.out, R4.out⟩, R5.out⟩
end Go.Proofs.Ytfcemlcocdhmfaa
/- The reference's seen. -/
namespace Go.Proofs.Ytfcemlcocdhmfaa
open Go.RowKit Go
set_option linter.unusedVariables false
set_option linter.unusedSimpArgs false

/-- What seen tells of the record behind another one. -/
theorem seen_some {ms : List Int} {a r : Rc} (h : a.key = r.key) : seenS ms (some a) r = ms.any (withinS r.seq a.seq) := by
  show (!decide (a.key = r.key) || ms.any _) = _
  rw [decide_eq_true h]; rfl
theorem seen_other {ms : List Int} {a r : Rc} (h : a.key ≠ r.key) : seenS ms (some a) r = true := by simp [seenS, h]
theorem any_drop {pr : Int → Bool} {ms : List Int} {k : Nat} (hk : k < ms.length) : (ms.drop k).any pr = (pr ms[k] || (ms.drop (k + 1)).any pr) := by
  rw [List.drop_eq_getElem_cons hk, List.any_cons]
set_option maxHeartbeats 3200000 in
set_option maxRecDepth 100000 in
theorem seen0_any (v : Value) (Am : Option Addr) (nm cm : Nat) (ms : List Int) (qs : List El) (w : World) (h : RowB w v qs) (h0 : 0 < qs.length) :
    Calls Try.prog 38 #[v, .int .i64 0, .slice Am nm cm] w fun e w' => e = .returned (.bool true) ∧ Below w.heap.size w w' := by
  obtain ⟨A, c, rfl⟩ := h.form
  go_enter Try.func38, Try.ntmps38
  go_wp2_with fail
  go_quiet (fail)
  go_wp2_with fail
  go_ret
  exact ⟨by first | rfl | simp, below_drewN (Below.refl _ _) _⟩
set_option maxHeartbeats 6400000 in
set_option maxRecDepth 100000 in
theorem seen_any (v : Value) (Am : Option Addr) (nm cm : Nat) (ms : List Int) (qs : List El) (i : Nat) (w : World) (h : RowB w v qs) (hi : i + 1 < qs.length) (hn : qs.length ≤ 1000000) (hms : Rd w w.heap.size 1 Am nm (ints ms)) (hnm : nm ≤ 1000000) :
    Calls Try.prog 38 #[v, .int .i64 ((i : Int) + 1), .slice Am nm cm] w fun e w' => e = .returned (.bool (seenS ms (some qs[i].r) qs[i + 1].r)) ∧ Below w.heap.size w w' := by
  obtain ⟨A, c, rfl⟩ := h.form
  obtain ⟨b, off, Aa, ca, Va, va, a, rfl, hb, ea, a0, a1, a2, a3, ak, av⟩ := h.pick (show i < qs.length by omega)
  obtain ⟨b', off', Ar, cr, Vr, vr, r, e, hb', er, r0, r1, r2, r3, rk, rv⟩ := h.pick hi
  injection e with e; injection e with e1 e2
  subst e1 e2
  have HE1 : Hid (qs[i].r = a) := Lib.hid (by rw [ea])
  have HE2 : Hid (qs[i + 1].r = r) := Lib.hid (by rw [er])
  rw [HE1.out, HE2.out]
  obtain ⟨N, hN⟩ : ∃ N, qs.length = N := ⟨_, rfl⟩
  rw [hN] at hi hn ⊢
  have hl : ms.length = nm := by have := hms.1; simpa [ints] using this
  have HM := Lib.hid hms; have HL := Lib.hid hl
  have k1 : ∀ n, (convert 38 9 (.slice Aa a.key.length ca)).run Try.prog (w.drewN n) = .ok (.string (strOfNums (nums a.key))) (w.drewN n) := fun m => Bs.conv (w := w.drewN m) (B := w.heap.size) ak
  have k2 : ∀ n, (convert 38 9 (.slice Ar r.key.length cr)).run Try.prog (w.drewN n) = .ok (.string (strOfNums (nums r.key))) (w.drewN n) := fun m => Bs.conv (w := w.drewN m) (B := w.heap.size) rk
  have j0 : ¬ ((i : Int) + 1 = 0) := by omega
  have j0' : ((i : Int) + 1 == 0) = false := by simp; omega
  have jj : IntKind.i64.wrap ((i : Int) + 1 - 1) = (i : Int) := by rw [IntWalk.i64_in _ (by omega)]; omega
  have j1 : (0 : Int) ≤ (i : Int) := by omega
  have j2 : (i : Int) < (N : Int) := by omega
  have j3 : (0 : Int) ≤ (i : Int) + 1 := by omega
  have j4 : (i : Int) + 1 < (N : Int) := by omega
  have j5 : (i + 1 : Nat) = i + 1 := rfl
  clear ak av rk rv ea er hms hl h hi hN a2 a3 r2 r3 HE1 HE2
  have e1 : ((i : Int) + 1).toNat = i + 1 := by omega
  by_cases hk : a.key = r.key
  · have t1 : ((strOfNums (nums a.key)).toList == (strOfNums (nums r.key)).toList) = true := by rw [str_l, str_l]; simpa using hk
    have t2 : ((strOfNums (nums a.key)).toList != (strOfNums (nums r.key)).toList) = false := by rw [str_l, str_l]; simpa using hk
    rw [seen_some hk]
    clear hk
    go_enter Try.func38, Try.ntmps38
    go_wp2_with fail
    go_quiet (fail)
    clear k1 k2 t1 t2
    go_wp2_with fail
    have hbq : Below w.heap.size w (w.drewN nq) := below_drewN (Below.refl _ _) nq
    go_loopg [7] nm (fun g' v7 wr => ∃ k : Nat, g' = nm - k ∧ k ≤ nm ∧ v7 = .int .i64 k ∧ ms.any (withinS r.seq a.seq) = (ms.drop k).any (withinS r.seq a.seq) ∧ Below w.heap.size w wr)
    case atStart => exact ⟨0, rfl, Nat.zero_le _, rfl, rfl, hbq⟩
    case round =>
      obtain ⟨k, hg', hk, rfl, hf, hbl⟩ := hrel
      have HG := Lib.hid hg'; have HF := Lib.hid hf; have HB := Lib.hid hbl
      obtain ⟨a1', r1'⟩ : _ ∧ _ := ⟨(hbl.cell hb).trans a1, (hbl.cell hb).trans r1⟩
      clear hg' hf hbl hbq
      by_cases hlt : k < nm
      · have hl1 : k < ms.length := by rw [HL.out]; exact hlt
        obtain ⟨bm, om, rfl, hbm, m0⟩ := ((HM.out.below HB.out).wider HB.out.size).numM hl1
        have hd := any_drop (pr := withinS r.seq a.seq) hl1
        rw [← HF.out] at hd
        generalize ms[k] = m at *
        have HD := Lib.hid hd
        clear hd a0 a1 r0 r1
        have i1 : (0 : Int) ≤ (k : Int) := by omega
        have i2 : (k : Int) < (nm : Int) := by omega
        by_cases h1 : r.seq ≤ m
        · have d1 : decide (r.seq ≤ m) = true := decide_eq_true h1
          by_cases h2 : m < a.seq
          · have d2 : decide (m < a.seq) = true := decide_eq_true h2
            have HE : Hid (ms.any (withinS r.seq a.seq) = true) := Lib.hid (by rw [HD.out]; unfold withinS; rw [d1, d2]; rfl)
            go_wp2_with fail
            go_quiet (fail)
            go_wp2_with fail
            go_ret
            exact ⟨by rw [HE.out]; first | done | rfl | simp, below_drewN HB.out _⟩
          · have d2 : decide (m < a.seq) = false := decide_eq_false h2
            have HE : Hid (ms.any (withinS r.seq a.seq) = (ms.drop (k + 1)).any (withinS r.seq a.seq)) := Lib.hid (by rw [HD.out]; unfold withinS; rw [d1, d2]; rfl)
            go_wp2_with fail
            go_quiet (fail)
            go_wp2_with fail
            go_roundg (nm - (k + 1))
            case measure => have := HG.out; omega
            case rel => exact ⟨k + 1, rfl, by omega, by go_num, HE.out, below_drewN HB.out _⟩
        · have d1 : decide (r.seq ≤ m) = false := decide_eq_false h1
          have HE : Hid (ms.any (withinS r.seq a.seq) = (ms.drop (k + 1)).any (withinS r.seq a.seq)) := Lib.hid (by rw [HD.out]; unfold withinS; rw [d1]; rfl)
          go_wp2_with fail
          go_quiet (fail)
          go_wp2_with fail
          go_roundg (nm - (k + 1))
          case measure => have := HG.out; omega
          case rel => exact ⟨k + 1, rfl, by omega, by go_num, HE.out, below_drewN HB.out _⟩
      · have hkn : k = nm := by omega
        subst hkn
        have n1 : ¬ ((k : Int) < (k : Int)) := by omega
        have HE : Hid (ms.any (withinS r.seq a.seq) = false) := Lib.hid (by rw [HF.out, List.drop_of_length_le (by rw [HL.out]; exact Nat.le_refl _)]; rfl)
        go_wp2_with fail
        go_ret
        exact ⟨by rw [HE.out]; first | done | rfl | simp, HB.out⟩
  · have t1 : ((strOfNums (nums a.key)).toList == (strOfNums (nums r.key)).toList) = false := by rw [str_l, str_l]; simpa using hk
    have t2 : ((strOfNums (nums a.key)).toList != (strOfNums (nums r.key)).toList) = true := by rw [str_l, str_l]; simpa using hk
    rw [seen_other hk]
    clear hk
    go_enter Try.func38, Try.ntmps38
    go_wp2_with fail
    go_quiet (fail)
    clear k1 k2 t1 t2
    go_wp2_with fail
    go_ret
    exact ⟨by first | rfl | simp, below_drewN (Below.refl _ _) _⟩
end Go.Proofs.Ytfcemlcocdhmfaa
/- The reference's Keep. -/
namespace Go.Proofs.Ytfcemlcocdhmfaa
open Go.RowKit Go
set_option linter.unusedVariables false
set_option linter.unusedSimpArgs false

theorem row_one {w : World} {qs : List El} (h : ∀ q ∈ qs, Bs w w.heap.size q.kv q.r.key ∧ Bs w w.heap.size q.vv q.r.val) : ∀ u ∈ elCells qs, u.oneCell' = true := by
  intro u hu
  obtain ⟨q, hq, hu⟩ := List.mem_flatMap.1 hu
  obtain ⟨⟨A, c, e, _⟩, ⟨A', c', e', _⟩⟩ := h q hq
  simp only [El.cells, List.mem_cons, List.not_mem_nil, or_false] at hu
  rcases hu with rfl | rfl | rfl | rfl
  · rw [e]; rfl
  · rfl
  · rfl
  · rw [e']; rfl
/-- A row of one record, made just now. -/
theorem own_one (w : World) (B : Nat) (hB : B ≤ w.heap.size) (q : El) : (w.alloc (.cells q.cells.toArray 40)).ownsRow B 40 4 (.slice (some ⟨w.heap.size, 0, none⟩) 1 1) 1 q.cells :=
  ⟨rfl, .inr ⟨w.heap.size, 1, q.cells.toArray, rfl, hB, blk_new w _ rfl, Nat.le_refl _, by unfold maxLen; omega, rfl, by simp [El.cells]⟩⟩
theorem keep_drop {bot : Bool} {r : Rc} {rs : List Rc} (x : Bool) (hx : isLast (dropS bot rs) r = x) : dropS bot (r :: rs) = if (bot && r.del && x) = true then dropS bot rs else r :: dropS bot rs := by rw [dropS, hx]
/-- One record ahead of a row: in front of what is told. -/
theorem app_front {ops : Array Oper} {rest : List Oper} {o : Oper} {a : Act} {Q : Exit → Act → World → Prop} (hgd : o.guard = none) (s x : Operand)
    (ho : o.op = .call { callee := .builtin .append, args := #[s, x], argTypes := #[25, 25] })
    (wk w : World) (os : List El) (Ao : Option Addr) (co : Nat) (A : Option Addr) (c : Nat) (A' : Option Addr) (c' : Nat) (r : Rc) (hs : a.eval s = .slice (some ⟨w.heap.size, 0, none⟩) 1 1) (hx : a.eval x = .slice Ao os.length co)
    (hO : OutB w wk.heap.size (.slice Ao os.length co) os) (hq : ∀ q ∈ os, Bs w w.heap.size q.kv q.r.key ∧ Bs w w.heap.size q.vv q.r.val) (hB : Below wk.heap.size wk w) (hl : os.length ≤ 2000000000)
    (h : ∀ v' w', OutB w' wk.heap.size v' (elOf A c A' c' r :: os) → Below wk.heap.size wk w' → wpList Try.prog ops Q rest (a.put o.dst v') w') :
    wpList Try.prog ops Q (o :: rest) a (w.alloc (.cells (elRow A c A' c' r) 40)) := by
  obtain ⟨i0, hi, z, hz0, hz, hz1, hz2⟩ := rec_parts
  have hbw' : wk.heap.size ≤ (w.alloc (.cells (elRow A c A' c' r) 40)).heap.size := Nat.le_trans hB.size (by simp)
  have hO' := (hO.below (bnewH w (.cells (elRow A c A' c' r) 40))).own
  refine wpList_app hgd s x _ ho wk.heap.size 40 i0 z 4 64 Try.underlying25 hi hz0 hz1 hz2 hz (by omega) (.slice (some ⟨w.heap.size, 0, none⟩) 1 1) 1 (elOf A c A' c' r).cells hs (own_one w _ hB.size (elOf A c A' c' r)) _ Ao os.length co (elCells os) hx (Rd.of_own hO') (row_one hq) (by unfold maxLen; omega) (by omega) hbw' ?_
  intro v4 w4 hO4 hg _
  refine h v4 w4 ⟨?_⟩ ((hB.alloc hB.size _).grown hg hbw' (fun k e => by
    injection e with e; rw [← e]; exact hB.size))
  rw [List.length_cons, Nat.add_comm]
  exact hO4
set_option maxHeartbeats 6400000 in
set_option maxRecDepth 100000 in
theorem keepRef_any (v : Value) (Am : Option Addr) (nm cm : Nat) (bot : Bool) (ms : List Int) (qs : List El) (w : World) (h : RowB w v qs) (hn : qs.length ≤ 1000000) (hms : Rd w w.heap.size 1 Am nm (ints ms)) (hnm : nm ≤ 1000000) :
    Calls Try.prog 19 #[v, .slice Am nm cm, .bool bot] w fun e w' => (∃ vo ks, e = .returned vo ∧ RowB w' vo ks ∧ ks.map El.r = KeepS ms bot (qs.map El.r)) ∧ Below w.heap.size w w' := by
  obtain ⟨A, c, rfl⟩ := h.form
  have H := Lib.hid h; have HM := Lib.hid hms
  have hin := inOrder_ref (.slice A qs.length c) qs w h (by omega)
  clear h hms
  cases hs : inO (qs.map El.r) with
  | false =>
    rw [hs] at hin
    have HIN := Lib.hid hin; have HS := Lib.hid hs
    clear hin hs
    have key : ∀ N : Nat, Calls Try.prog 14 #[.slice A N c] w (fun e w' => e = .returned (.bool false) ∧ Below w.heap.size w w') → Calls Try.prog 19 #[.slice A N c, .slice Am nm cm, .bool bot] w fun e w' => e = .returned (.slice none 0 0) ∧ Below w.heap.size w w' := by
      intro N HINN
      have HI := Lib.hid HINN
      clear HINN
      by_cases h0 : N = 0
      · subst h0
        go_enter Try.func19, Try.ntmps19
        go_wp2_with fail
        refine HI.out.mono ?_; rintro e w1 ⟨rfl, hw1⟩
        have HW := Lib.hid hw1; clear hw1
        go_wp2_with fail
        go_loopg [7, 10] 0 (fun g v7 v8 wr => g = 0 ∧ v7 = .slice none 0 0 ∧ v8 = .int .i64 0 ∧ wr = w1)
        case atStart => exact ⟨rfl, rfl, rfl, rfl⟩
        case round =>
          obtain ⟨hg, rfl, rfl, rfl⟩ := hrel
          go_wp2_with fail
          go_loopg [8, 12] 0 (fun g v8 v12 wx => g = 0 ∧ v8 = .slice none 0 0 ∧ v12 = .int .i64 (-1) ∧ wx = wr)
          case atStart => exact ⟨rfl, rfl, by first | rfl | go_num, rfl⟩
          case round =>
            obtain ⟨hg, rfl, rfl, rfl⟩ := hrel
            go_wp2_with fail
            go_ret
            exact ⟨by first | rfl | simp, HW.out⟩
      · have h1 : (0 : Int) < (N : Int) := by omega
        go_enter Try.func19, Try.ntmps19
        go_wp2_with fail
        refine HI.out.mono ?_; rintro e w1 ⟨rfl, hw1⟩
        have HW := Lib.hid hw1; clear hw1
        go_wp2_with fail
        go_loopg [7, 10] 0 (fun g v7 v8 wr => g = 0 ∧ v7 = .slice none 0 0 ∧ v8 = .int .i64 0 ∧ wr = w1)
        case atStart => exact ⟨rfl, rfl, rfl, rfl⟩
        case round =>
          obtain ⟨hg, rfl, rfl, rfl⟩ := hrel
          go_wp2_with fail
          go_loopg [8, 12] 0 (fun g v8 v12 wx => g = 0 ∧ v8 = .slice none 0 0 ∧ v12 = .int .i64 (-1) ∧ wx = wr)
          case atStart => exact ⟨rfl, rfl, by first | rfl | go_num, rfl⟩
          case round =>
            obtain ⟨hg, rfl, rfl, rfl⟩ := hrel
            go_wp2_with fail
            go_ret
            exact ⟨by first | rfl | simp, HW.out⟩
    refine (key _ HIN.out).mono ?_
    rintro e w' ⟨rfl, hb⟩
    exact ⟨⟨_, [], rfl, ⟨none, 0, rfl, Nat.le_refl _, Rd.nil, by simp⟩, by rw [KeepS, if_neg (by rw [HS.out]; decide)]; rfl⟩, hb⟩
  | true =>
    rw [hs] at hin
    have HIN := Lib.hid hin; have HS := Lib.hid hs
    obtain ⟨N, hN⟩ : ∃ N, qs.length = N := ⟨_, rfl⟩
    have HN := Lib.hid hN
    rw [hN] at hn H HIN ⊢
    clear hin hs hN
    go_enter Try.func19, Try.ntmps19
    go_wp2_with fail
    refine HIN.out.mono ?_; rintro e w1 ⟨rfl, hw1⟩
    have HW := Lib.hid hw1; clear hw1
    go_wp2_with fail
    go_loopg [7, 10] N (fun g vo vi wr => ∃ (k : Nat) (ks : List El), g = N - k ∧ k ≤ N ∧ vi = .int .i64 k ∧ OutB wr w.heap.size vo ks ∧ ks.map El.r = keptS ms none ((qs.map El.r).take k) ∧ (∀ q ∈ ks, q ∈ qs) ∧ ks.length ≤ k ∧ Below w.heap.size w wr)
    case atStart => exact ⟨0, [], rfl, Nat.zero_le _, rfl, OutB.nil _ _, rfl, by simp, Nat.le_refl _, HW.out⟩
    case round =>
      obtain ⟨k, ks, hg, hk, rfl, ho, hks, hsub, hkl, hb⟩ := hrel
      have HG := Lib.hid hg; have HO := Lib.hid ho; have HKS := Lib.hid hks; have HSUB := Lib.hid hsub; have HKL := Lib.hid hkl; have HB := Lib.hid hb
      obtain ⟨Ao, co, rfl⟩ := ho.form
      have HROW := Lib.hid (H.out.up hb)
      clear hg ho hks hsub hkl hb HW
      by_cases hlt : k < N
      · have hl : k < qs.length := by rw [HN.out]; exact hlt
        have i1 : (0 : Int) ≤ (k : Int) := by omega
        have i2 : (k : Int) < (N : Int) := by omega
        have hjm : k < (qs.map El.r).length := by simpa using hl
        have hst := kept_step ms (qs.map El.r) hjm
        rw [← HKS.out] at hst
        have hrm : (qs.map El.r)[k] = qs[k].r := by simp
        rw [hrm] at hst
        obtain ⟨x0, hx0⟩ : ∃ x, seenS ms (lastOr none ((qs.map El.r).take k)) qs[k].r = x := ⟨_, rfl⟩
        rw [hx0] at hst
        have HST := Lib.hid hst; have HX0 := Lib.hid hx0
        clear hst hx0 hjm hrm
        have HSEEN : Hid (Calls Try.prog 38 #[.slice A N c, .int .i64 (k : Int), .slice Am nm cm] wr fun e w' => e = .returned (.bool x0) ∧ Below wr.heap.size wr w') := Lib.hid (by
          rcases k with _ | i
          · have hx : x0 = true := by rw [← HX0.out]; rfl
            rw [hx]
            exact seen0_any (.slice A N c) Am nm cm ms qs wr HROW.out hl
          · have hx : x0 = seenS ms (some qs[i].r) qs[i + 1].r := by
              rw [← HX0.out, List.take_succ_eq_append_getElem (by simp; omega), lastOr_snoc]; simp
            rw [hx]
            exact seen_any (.slice A N c) Am nm cm ms qs i wr HROW.out hl (by rw [HN.out]; omega) ((HM.out.below HB.out).wider HB.out.size) hnm)
        go_wp2_with fail
        refine HSEEN.out.mono ?_; rintro e w2 ⟨rfl, hw2⟩
        have HB2 := Lib.hid (HB.out.trans (hw2.mono HB.out.size)); have HO2 := Lib.hid (HO.out.below hw2)
        clear hw2 HSEEN
        cases x0 with
        | false =>
          go_wp2_with fail
          go_roundg (N - (k + 1))
          case measure => have := HG.out; omega
          case rel => exact ⟨k + 1, ks, rfl, by omega, by go_num, HO2.out, by have := HST.out; rw [this]; simp, HSUB.out, by have := HKL.out; omega, HB2.out⟩
        | true =>
          have HROW2 := Lib.hid (H.out.up HB2.out)
          obtain ⟨b, off, Ak, ck, Av, cv, r, rfl, hbl, he, r0, r1, r2, r3, bk, bv⟩ := HROW2.out.pick hl
          have HE := Lib.hid he
          clear he bk bv
          go_wp2_with (at_builtin; go_loud (refine app_el rfl (.tmp 30) (.tmp 35) rfl w w2 w.heap.size _ ks Ak ck Av cv r rfl rfl HO2.out HB2.out (Nat.le_refl _) (by have := HKL.out; omega) ?_); intro v4 w4 hO4 hB4
                       obtain ⟨A4, c4, rfl⟩ := hO4.form
                       have HO4 := Lib.hid hO4; have HB4 := Lib.hid hB4
                       clear hO4 hB4)
          go_roundg (N - (k + 1))
          case measure => have := HG.out; omega
          case rel => exact ⟨k + 1, ks ++ [elOf Ak ck Av cv r], rfl, by omega, by go_num, by simpa using HO4.out, by have := HST.out; rw [HE.out] at this; rw [this]; simp, fun q hq => by
              rcases List.mem_append.1 hq with hq | hq
              · exact HSUB.out q hq
              · rw [List.mem_singleton.1 hq, ← HE.out]; exact List.getElem_mem hl, by have := HKL.out; simp; omega, HB4.out⟩
      · have hkN : k = N := by omega
        subst hkN
        have n1 : ¬ ((k : Int) < (k : Int)) := by omega
        have HKS2 : Hid (ks.map El.r = keptS ms none (qs.map El.r)) := Lib.hid (by have := HKS.out; rwa [List.take_of_length_le (by simp [HN.out])] at this)
        have HBQ := Lib.hid H.out.bs
        have HKR : Hid (RowB wr (.slice Ao ks.length co) ks) := Lib.hid (HO.out.row HB.out fun q hq => HBQ.out q (HSUB.out q hq))
        obtain ⟨M, hM⟩ : ∃ M, ks.length = M := ⟨_, rfl⟩
        have HMM := Lib.hid hM
        have hMk : M ≤ 1000000 := by have := HKL.out; omega
        rw [hM] at HKR ⊢
        clear hM HKS HG HROW HO
        have jm : IntKind.i64.wrap ((M : Int) - 1) = (M : Int) - 1 := IntWalk.i64_in _ (by omega)
        go_wp2_with fail
        generalize wr = wk at *
        go_loopg [8, 12] M (fun g vo vi wx => ∃ (d : Nat) (os : List El), g = d ∧ d ≤ M ∧ vi = .int .i64 ((d : Int) - 1) ∧ OutB wx wk.heap.size vo os ∧ os.map El.r = dropS bot ((ks.map El.r).drop d) ∧ (∀ q ∈ os, q ∈ qs) ∧ os.length ≤ M - d ∧ Below wk.heap.size wk wx)
        case atStart => exact ⟨M, [], rfl, Nat.le_refl _, by first | rfl | go_num, OutB.nil _ _, by rw [List.drop_of_length_le (by simp [HMM.out])]; rfl, by simp, by simp, Below.refl _ _⟩
        case round =>
          obtain ⟨d, os, hg, hdM, rfl, ho, hos, hsub, hol, hb⟩ := hrel
          have HG := Lib.hid hg; have HO := Lib.hid ho; have HOS := Lib.hid hos; have HSB := Lib.hid hsub; have HOL := Lib.hid hol; have HBX := Lib.hid hb
          obtain ⟨Ax, cx, rfl⟩ := ho.form
          have HKX := Lib.hid (HKR.out.up hb)
          have HWX := Lib.hid (HB.out.trans (hb.mono HB.out.size))
          have HQX : Hid (∀ q ∈ os, Bs wr wr.heap.size q.kv q.r.key ∧ Bs wr wr.heap.size q.vv q.r.val) := Lib.hid (fun q hq => ⟨(HBQ.out q (hsub q hq)).1.up HWX.out, (HBQ.out q (hsub q hq)).2.up HWX.out⟩)
          have HOR : Hid (RowB wr (.slice Ax os.length cx) os) := Lib.hid (by
            have hu := RowU.of_own ho.own
            obtain ⟨h1, h2⟩ := hu.rd (B := wr.heap.size) fun b hb => hb.2
            exact ⟨Ax, cx, rfl, h2, h1, HQX.out⟩)
          clear hg ho hos hsub hol hb
          rcases d with _ | d
          · have HE : Hid (os.map El.r = KeepS ms bot (qs.map El.r)) := Lib.hid (by rw [HOS.out, List.drop_zero, HKS2.out, KeepS, if_pos HS.out]; rfl)
            go_wp2_with fail
            go_ret
            exact ⟨⟨_, os, rfl, HOR.out, HE.out⟩, HWX.out⟩
          · have hdl : d < ks.length := by rw [HMM.out]; omega
            have jd : (((d + 1 : Nat) : Int) - 1) = (d : Int) := by omega
            rw [jd]
            have i1 : (0 : Int) ≤ (d : Int) := by omega
            have i2 : (d : Int) < (M : Int) := by omega
            obtain ⟨b, off, Ak, ck, Av, cv, r, rfl, hbl, he, r0, r1, r2, r3, bk, bv⟩ := HKX.out.pick hdl
            have hdr : (ks.map El.r).drop d = r :: (ks.map El.r).drop (d + 1) := by
              rw [List.drop_eq_getElem_cons (by simpa using hdl)]; simp [he]
            have HDR := Lib.hid hdr
            have HMEM : Hid (elOf Ak ck Av cv r ∈ qs) := Lib.hid (by rw [← he]; exact HSUB.out _ (List.getElem_mem hdl))
            obtain ⟨x, hx⟩ : ∃ x, isLast (os.map El.r) r = x := ⟨_, rfl⟩
            have HX := Lib.hid hx
            have HKD := Lib.hid (keep_drop (bot := bot) (r := r) (rs := (ks.map El.r).drop (d + 1)) x (by rw [← HOS.out]; exact hx))
            clear hdr hx bv
            go_upto_region 12 with fail
            go_cut [13] from 40 to 78 (fun v13 wz => v13 = .bool x ∧ Below wr.heap.size wr wz)
            case first =>
              rcases os with _ | ⟨o, os'⟩
              · have hx : x = true := by rw [← HX.out]; rfl
                subst hx
                go_wp2_with fail
                go_quiet (fail)
                go_wp2_with fail
                go_meet
                exact ⟨by first | rfl | simp, below_drewN (Below.refl _ _) _⟩
              · obtain ⟨bo, oo, Bk, dk, Bv, dv, ro, rfl, hbo, heo, s0, s1, s2, s3, sk, sv⟩ := HOR.out.pick (k := 0) (by simp)
                have hro : o.r = ro := by rw [show o = elOf Bk dk Bv dv ro from heo]
                rw [Nat.zero_mul, Nat.add_zero] at s0
                have hxx : x = !decide (ro.key = r.key) := by rw [← HX.out, ← hro]; rfl
                have k1 : ∀ n, (convert 38 9 (.slice Bk ro.key.length dk)).run Try.prog (wr.drewN n) = .ok (.string (strOfNums (nums ro.key))) (wr.drewN n) := fun m => Bs.conv (w := wr.drewN m) (B := wr.heap.size) sk
                have k2 : ∀ n, (convert 38 9 (.slice Ak r.key.length ck)).run Try.prog (wr.drewN n) = .ok (.string (strOfNums (nums r.key))) (wr.drewN n) := fun m => Bs.conv (w := wr.drewN m) (B := wr.heap.size) bk
                have n0 : (((os'.length + 1 : Nat) : Int) == 0) = false := by simp; omega
                have n0' : (((os'.length : Int) + 1) == 0) = false := by simp; omega
                have n1 : ¬ ((os'.length : Int) + 1 = 0) := by omega
                have n2 : (0 : Int) < ((os'.length + 1 : Nat) : Int) := by omega
                have n3 : (0 : Int) < (os'.length : Int) + 1 := by omega
                clear hro heo sv s1 s2 s3
                by_cases hk : ro.key = r.key
                · have t1 : ((strOfNums (nums ro.key)).toList == (strOfNums (nums r.key)).toList) = true := by rw [str_l, str_l]; simpa using hk
                  have t2 : ((strOfNums (nums ro.key)).toList != (strOfNums (nums r.key)).toList) = false := by rw [str_l, str_l]; simpa using hk
                  have hx : x = false := by rw [hxx, decide_eq_true hk]; rfl
                  subst hx
                  clear hxx hk sk
                  go_wp2_with fail
                  go_quiet (fail)
                  clear k1 k2 t1 t2
                  go_wp2_with fail
                  go_meet
                  exact ⟨by first | rfl | simp, below_drewN (Below.refl _ _) _⟩
                · have t1 : ((strOfNums (nums ro.key)).toList == (strOfNums (nums r.key)).toList) = false := by rw [str_l, str_l]; simpa using hk
                  have t2 : ((strOfNums (nums ro.key)).toList != (strOfNums (nums r.key)).toList) = true := by rw [str_l, str_l]; simpa using hk
                  have hx : x = true := by rw [hxx, decide_eq_false hk]; rfl
                  subst hx
                  clear hxx hk sk
                  go_wp2_with fail
                  go_quiet (fail)
                  clear k1 k2 t1 t2
                  go_wp2_with fail
                  go_meet
                  exact ⟨by first | rfl | simp, below_drewN (Below.refl _ _) _⟩
            case rest =>
              obtain ⟨rfl, hbz⟩ := hcut
              obtain ⟨r0, r1, r2, r3⟩ : _ ∧ _ ∧ _ ∧ _ := ⟨(hbz.cell hbl).trans r0, (hbz.cell hbl).trans r1, (hbz.cell hbl).trans r2, (hbz.cell hbl).trans r3⟩
              have HOZ := Lib.hid (HO.out.below hbz); have HBZ := Lib.hid (HBX.out.trans (hbz.mono HBX.out.size))
              have HQZ : Hid (∀ q ∈ os, Bs wc wc.heap.size q.kv q.r.key ∧ Bs wc wc.heap.size q.vv q.r.val) := Lib.hid (fun q hq => ⟨(HQX.out q hq).1.up hbz, (HQX.out q hq).2.up hbz⟩)
              obtain ⟨y, hy⟩ : ∃ y, r.del = y := ⟨_, rfl⟩
              rw [hy] at r2 HKD
              obtain ⟨p, hp⟩ : ∃ p, (bot && y && x) = p := ⟨_, rfl⟩
              rw [hp] at HKD
              have HP := Lib.hid hp; have HY := Lib.hid hy
              clear hbz hp hy bk HX
              go_upto_region 13 with fail
              go_cut [71] from 61 to 78 (fun v71 wz => v71 = .bool p ∧ wz = wc)
              case first =>
                have hp := HP.out
                cases bot <;> cases y <;> cases x <;> (subst hp; (first | (go_wp2_with fail; go_meet; exact ⟨rfl, rfl⟩) | (go_wp2_with fail; go_quiet (fail); go_wp2_with fail; go_meet; exact ⟨rfl, rfl⟩)))
              case rest =>
                obtain ⟨rfl, rfl⟩ := hcut
                cases p with
                | true =>
                  go_wp2_with fail
                  go_roundg d
                  case measure => have := HG.out; omega
                  case rel => exact ⟨d, os, rfl, by omega, by first | rfl | go_num, HOZ.out, by
                    have h1 := HKD.out
                    have h2 : dropS bot (r :: (ks.map El.r).drop (d + 1)) = dropS bot ((ks.map El.r).drop (d + 1)) := by simpa using h1
                    rw [HDR.out, h2]; exact HOS.out, HSB.out, by have := HOL.out; omega, HBZ.out⟩
                | false =>
                  have hy := HY.out
                  subst hy
                  go_wp2_with (at_builtin; go_loud (refine app_front rfl (.tmp 76) (.tmp 77) rfl wk wc os Ax cx Ak ck Av cv r (by rfl) (by rfl) HOZ.out HQZ.out HBZ.out (by have := HOL.out; omega) ?_); intro v4 w4 hO4 hB4
                               obtain ⟨A4, c4, rfl⟩ := hO4.form
                               have HO4 := Lib.hid hO4; have HB4 := Lib.hid hB4
                               clear hO4 hB4)
                  go_roundg d
                  case measure => have := HG.out; omega
                  case rel => exact ⟨d, elOf Ak ck Av cv r :: os, rfl, by omega, by first | rfl | go_num, by simpa using HO4.out, by
                    have h1 := HKD.out
                    have h2 : dropS bot (r :: (ks.map El.r).drop (d + 1)) = r :: dropS bot ((ks.map El.r).drop (d + 1)) := by simpa using h1
                    rw [HDR.out, h2, List.map_cons, HOS.out], fun q hq => by
                      rcases List.mem_cons.1 hq with e | hq
                      · rw [e]; exact HMEM.out
                      · exact HSB.out q hq, by have := HOL.out; simp; omega, HB4.out⟩
end Go.Proofs.Ytfcemlcocdhmfaa
