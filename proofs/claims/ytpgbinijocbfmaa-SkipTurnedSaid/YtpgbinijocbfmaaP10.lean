/- The reference's Get and From. -/
import Derived.Test.YtpgbinijocbfmaaP6
import Derived.WalkLawsBesides
namespace Go.Proofs.Ytpgbinijocbfmaa
open Go.RowKit Go
set_option linter.unusedVariables false
set_option linter.unusedSimpArgs false

theorem find_snoc {p : Rc → Bool} {rs : List Rc} {k : Nat} (h : ∀ r ∈ rs.take k, p r = false) (hk : k < rs.length) : rs.find? p = if p rs[k] then some rs[k] else (rs.drop (k + 1)).find? p := by
  conv => lhs; rw [← List.take_append_drop k rs, List.find?_append]
  rw [List.find?_eq_none.2 (fun r hr => by simp [h r hr]), List.drop_eq_getElem_cons hk, List.find?_cons]
  cases p rs[k] <;> rfl
theorem take_none {p : Rc → Bool} {rs : List Rc} {k : Nat} (h : ∀ r ∈ rs.take k, p r = false) (hk : k < rs.length) (hq : p rs[k] = false) : ∀ r ∈ rs.take (k + 1), p r = false := by
  intro r hr
  rw [List.take_succ_eq_append_getElem hk] at hr
  rcases List.mem_append.1 hr with h1 | h1
  · exact h r h1
  · rw [List.mem_singleton] at h1; subst h1; exact hq

/-- The value is a record that reads as r, its bytes in blocks of U. -/
def IsRcU (w : World) (U : Nat → Prop) (v : Value) (r : Rc) : Prop := ∃ A c A' c', v = .agg #[.slice A r.key.length c, .int .i64 r.seq, .bool r.del, .slice A' r.val.length c'] ∧ BsU w U (.slice A r.key.length c) r.key ∧ BsU w U (.slice A' r.val.length c') r.val
theorem bsu_nil (w : World) (U : Nat → Prop) : BsU w U (.slice none 0 0) [] := ⟨none, 0, rfl, fun h => absurd h (by simp)⟩
set_option maxHeartbeats 1600000 in
theorem get_ref (V : Nat → Prop) (R : Nat) (qs : List El) (high : Nat) (key : List UInt8) (seq : Int) (u : Value) (w : World) (h : RefIs w V R qs high) (hu : Bs w w.heap.size u key) (hn : qs.length ≤ 1048576) :
    Calls Try.prog 19 #[ptr R, u, .int .i64 seq] w fun e w' => ∃ v, e = .returned (.tuple #[v, .bool (getS (qs.map El.r) key seq).isSome]) ∧ IsRcU w' V v ((getS (qs.map El.r) key seq).getD zeroRc) ∧ Below w.heap.size w w' := by
  have HH := Lib.hid h; clear h
  have HU := Lib.hid hu; clear hu
  obtain ⟨N, hN⟩ : ∃ N, qs.length = N := ⟨_, rfl⟩
  have HN := Lib.hid hN
  rw [hN] at hn; clear hN
  have hbw : Below w.heap.size w (w.alloc (.cells #[.slice none 0 0, .int .i64 0, .bool false, .slice none 0 0] 35)) := (Below.refl _ _).alloc (Nat.le_refl _) _
  have HBW := Lib.hid hbw; clear hbw
  have hbz : (w.alloc (.cells #[.slice none 0 0, .int .i64 0, .bool false, .slice none 0 0] 35)).heap[w.heap.size]? = some (.cells #[.slice none 0 0, .int .i64 0, .bool false, .slice none 0 0] 35 (0, 0)) := blk_new _ _ rfl
  have HBZ := Lib.hid hbz; clear hbz
  unfold ptr
  go_enter Try.func19, Try.ntmps19
  go_wp2_with fail
  generalize w.alloc (.cells #[.slice none 0 0, .int .i64 0, .bool false, .slice none 0 0] 35) = W at *
  go_loopg [8] N (fun g v wr => ∃ (k n : Nat), g = N - k ∧ k ≤ N ∧ v = .int .i64 k ∧ (∀ r ∈ (qs.map El.r).take k, (decide (r.key = key) && decide (r.seq ≤ seq)) = false) ∧ wr = W.drewN n)
  case atStart => exact ⟨0, 0, rfl, by omega, rfl, by simp, rfl⟩
  case round =>
    obtain ⟨k, n, hgk, hk, rfl, hno, rfl⟩ := hrel
    have HG := Lib.hid hgk; have HNO := Lib.hid hno
    clear hgk hno
    have HB := Lib.hid (below_drewN HBW.out n)
    have HS := Lib.hid (HH.out.below HBW.out)
    obtain ⟨lv, hbox, hrow⟩ := HS.out.box
    obtain ⟨Al, cl, rfl⟩ := hrow.form
    obtain ⟨p0, p1, p2⟩ := cells2 hbox
    rw [HN.out] at p0
    have HROW := Lib.hid hrow
    clear hbox hrow
    by_cases hlt : k < N
    · have hlt' : k < qs.length := by have := HN.out; omega
      obtain ⟨_, _, e1, hcap, hrw⟩ := HROW.out
      injection e1 with e1 e2 e3; subst e1 e3
      obtain ⟨b, off, rfl, hbV, hbt, hcl⟩ := hrw (by omega)
      obtain ⟨r0, r1, r2, r3⟩ := row_at hcl hlt'
      have hel := HS.out.els qs[k] (List.getElem_mem hlt')
      have E1 := Lib.hid (hel.1.bs HH.out.lt); have E2 := Lib.hid (hel.2.bs HH.out.lt)
      obtain ⟨Aq, cq, eq1, _⟩ := hel.1
      obtain ⟨Aq', cq', eq2, _⟩ := hel.2
      rw [eq1] at r0; rw [eq2] at r3
      have hmap : (qs.map El.r)[k]'(by simpa using hlt') = qs[k].r := by simp
      have hf := find_snoc HNO.out (by simpa using hlt' : k < (qs.map El.r).length)
      have ht := fun hq => take_none HNO.out (by simpa using hlt' : k < (qs.map El.r).length) hq
      rw [hmap] at hf ht
      have EQ1 := Lib.hid eq1; have EQ2 := Lib.hid eq2
      have F1 := Lib.hid hel.1; have F2 := Lib.hid hel.2
      clear hmap hel hcl hbV hbt hcap e2 hrw HROW
      generalize qs[k] = q at *
      have HF := Lib.hid hf; have HT : Hid _ := ht; clear hf ht
      have k1 : ∀ n, (convert 33 9 (.slice Aq q.r.key.length cq)).run Try.prog (W.drewN n) = .ok (.string (strOfNums (nums q.r.key))) (W.drewN n) := by have hq := E1.out; rw [EQ1.out] at hq; exact fun m => Bs.conv (w := W.drewN m) (B := w.heap.size) hq
      have k2 : ∀ n, (convert 33 9 u).run Try.prog (W.drewN n) = .ok (.string (strOfNums (nums key))) (W.drewN n) := by have hq := HU.out.up HBW.out; exact fun m => Bs.conv (w := W.drewN m) (B := W.heap.size) hq
      have i1 : (0 : Int) ≤ (k : Int) := by omega
      have i2 : (k : Int) < (N : Int) := by omega
      by_cases hkk : q.r.key = key
      · have t1 : ((strOfNums (nums q.r.key)).toList == (strOfNums (nums key)).toList) = true := by rw [str_l, str_l]; simpa using hkk
        by_cases hss : q.r.seq ≤ seq
        · have EX : Hid ((decide (q.r.key = key) && decide (q.r.seq ≤ seq)) = true) := by show _ = _; simp [hkk, hss]
          clear hkk
          go_wp2_with fail
          go_quiet (fail)
          clear k1 k2 t1
          obtain ⟨z0, z1, z2, z3, z4⟩ := cells4 HBZ.out
          go_wp2_with fail
          have hb := blk_set (blk_set (blk_set (blk_set HBZ.out 0 (.slice Aq q.r.key.length cq)) 1 (.int .i64 q.r.seq)) 2 (.bool q.r.del)) 3 (.slice Aq' q.r.val.length cq')
          have HGS : Hid (getS (qs.map El.r) key seq = some q.r) := by
            show _ = _
            unfold getS
            rw [HF.out, EX.out]; rfl
          refine bodyPost_ret (results_row_tmp rfl _ _ w.heap.size 35 #[.slice Aq q.r.key.length cq, .int .i64 q.r.seq, .bool q.r.del, .slice Aq' q.r.val.length cq'] (0, 0) _ (by rfl) hb Try.underlying35 rfl (by kernel_rfl)) rfl ?_
          have hw := Nat.le_refl w.heap.size
          have bl : ∀ n, Below w.heap.size W (((((W.drewN n).setCell ⟨w.heap.size, 0, none⟩ (.slice Aq q.r.key.length cq)).setCell ⟨w.heap.size, 1, none⟩ (.int .i64 q.r.seq)).setCell ⟨w.heap.size, 2, none⟩ (.bool q.r.del)).setCell ⟨w.heap.size, 3, none⟩ (.slice Aq' q.r.val.length cq')) := fun n => ((((below_drewN (Below.refl _ _) n).setCell hw _).setCell hw _).setCell hw _).setCell hw _
          refine ⟨.agg #[.slice Aq q.r.key.length cq, .int .i64 q.r.seq, .bool q.r.del, .slice Aq' q.r.val.length cq'], by rw [HGS.out]; rfl, ?_, HBW.out.trans (bl _)⟩
          rw [HGS.out]
          have f1 := F1.out; rw [EQ1.out] at f1
          have f2 := F2.out; rw [EQ2.out] at f2
          have far : ∀ (n : Nat) (b : Nat) (cs : Array Value), W.heap[b]? = some (Obj.cells cs 5 (0, 0)) → (((((W.drewN n).setCell ⟨w.heap.size, 0, none⟩ (.slice Aq q.r.key.length cq)).setCell ⟨w.heap.size, 1, none⟩ (.int .i64 q.r.seq)).setCell ⟨w.heap.size, 2, none⟩ (.bool q.r.del)).setCell ⟨w.heap.size, 3, none⟩ (.slice Aq' q.r.val.length cq')).heap[b]? = W.heap[b]? := fun n b cs hb => by
            have hne := ne_of_type hb HBZ.out (by decide)
            rw [Below.heap_setCell _ _ _ _ hne, Below.heap_setCell _ _ _ _ hne, Below.heap_setCell _ _ _ _ hne, Below.heap_setCell _ _ _ _ hne]; rfl
          exact ⟨_, _, _, _, rfl, f1.keepT (fun b cs _ hb => far _ b cs hb), f2.keepT (fun b cs _ hb => far _ b cs hb)⟩
        · have EX : Hid ((decide (q.r.key = key) && decide (q.r.seq ≤ seq)) = false) := by show _ = _; simp [hss]
          have hss' : seq < q.r.seq := by omega
          clear hkk
          go_wp2_with fail
          go_quiet (fail)
          clear k1 k2 t1
          go_wp2_with fail
          go_roundg (N - (k + 1))
          case measure => have := HG.out; omega
          case rel => exact ⟨k + 1, _, rfl, by omega, by go_num, HT.out EX.out, rfl⟩
      · have t1 : ((strOfNums (nums q.r.key)).toList == (strOfNums (nums key)).toList) = false := by rw [str_l, str_l]; simpa using hkk
        have EX : Hid ((decide (q.r.key = key) && decide (q.r.seq ≤ seq)) = false) := by show _ = _; simp [hkk]
        clear hkk
        go_wp2_with fail
        go_quiet (fail)
        clear k1 k2 t1
        go_wp2_with fail
        go_roundg (N - (k + 1))
        case measure => have := HG.out; omega
        case rel => exact ⟨k + 1, _, rfl, by omega, by go_num, HT.out EX.out, rfl⟩
    · have hkN : k = N := by omega
      subst hkN
      have HG0 : Hid (getS (qs.map El.r) key seq = none) := by
        show _ = _
        unfold getS
        rw [List.find?_eq_none]
        intro r hr
        have := HNO.out r (by rw [List.take_of_length_le (by have := HN.out; simp; omega)]; exact hr)
        simp [this]
      obtain ⟨z0, z1, z2, z3, z4⟩ := cells4 HBZ.out
      go_wp2_with fail
      have hb := blk_set (blk_set (blk_set (blk_set HBZ.out 0 (.slice none 0 0)) 1 (.int .i64 0)) 2 (.bool false)) 3 (.slice none 0 0)
      refine bodyPost_ret (results_row_tmp rfl _ _ w.heap.size 35 #[.slice none 0 0, .int .i64 0, .bool false, .slice none 0 0] (0, 0) _ (by rfl) hb Try.underlying35 rfl (by kernel_rfl)) rfl ?_
      have hw := Nat.le_refl w.heap.size
      refine ⟨.agg #[.slice none 0 0, .int .i64 0, .bool false, .slice none 0 0], by rw [HG0.out]; rfl, ?_, (((HB.out.setCell hw _).setCell hw _).setCell hw _).setCell hw _⟩
      rw [HG0.out]
      exact ⟨_, _, _, _, rfl, bsu_nil _ _, bsu_nil _ _⟩

/-- The reference's records told: their cells are the list's own. -/
def RTold (w wr : World) (V : Nat → Prop) (v : Value) (rs : List Rc) : Prop := ∃ ps : List El, ps.map El.r = rs ∧ wr.ownsRow w.heap.size 35 4 v ps.length (elCells ps) ∧ ElsOk wr V ps ∧ Below w.heap.size w wr
theorem fromS_done {rs : List Rc} {key : List UInt8} {most : Int} {k : Nat} (h : most.toNat ≤ ((rs.take k).filter fun r => !decide (Lib.compareBytes r.key key < 0)).length) (h2 : ((rs.take k).filter fun r => !decide (Lib.compareBytes r.key key < 0)).length ≤ most.toNat) :
    fromS rs key most = (rs.take k).filter fun r => !decide (Lib.compareBytes r.key key < 0) := by
  unfold fromS
  conv => lhs; rw [← List.take_append_drop k rs, List.filter_append]
  rw [List.take_append_of_le_length h, List.take_of_length_le h2]

set_option maxHeartbeats 1600000 in
set_option maxRecDepth 100000 in
theorem from_ref (V : Nat → Prop) (R : Nat) (qs : List El) (high : Nat) (key : List UInt8) (most : Int) (u : Value) (w : World) (h : RefIs w V R qs high) (hu : Bs w w.heap.size u key) (hn : qs.length ≤ 1048576)
    (hm : -9223372036854775808 ≤ most ∧ most ≤ 9223372036854775807) :
    Calls Try.prog 21 #[ptr R, u, .int .i64 most] w fun e w' => ∃ v, e = .returned v ∧ RTold w w' V v (fromS (qs.map El.r) key most) := by
  have HH := Lib.hid h; clear h
  have HU := Lib.hid hu; clear hu
  obtain ⟨N, hN⟩ : ∃ N, qs.length = N := ⟨_, rfl⟩
  have HN := Lib.hid hN
  rw [hN] at hn; clear hN
  obtain ⟨i0, hi, hz0, hz1, hz2⟩ := info_parts rec_info
  have hi' : Hid _ := hi
  clear hi
  have hmx := maxLen_le
  unfold ptr
  go_enter Try.func21, Try.ntmps21
  go_wp2_with fail
  go_loopg [7, 8] N (fun g vo vi wr => ∃ (k : Nat) (ps : List El), g = N - k ∧ k ≤ N ∧ vi = .int .i64 k ∧ (∀ p ∈ ps, p ∈ qs) ∧ ps.map El.r = ((qs.map El.r).take k).filter (fun r => !decide (Lib.compareBytes r.key key < 0)) ∧ ps.length ≤ most.toNat ∧ ps.length ≤ k ∧ wr.ownsRow w.heap.size 35 4 vo ps.length (elCells ps) ∧ Below w.heap.size w wr)
  case atStart => exact ⟨0, [], rfl, by omega, rfl, by simp, by simp, by simp, by simp, World.ownsRow_nil _ _ _ _, Below.refl _ _⟩
  case round =>
    obtain ⟨k, ps, hgk, hk, rfl, hsub, hps, hpm, hpk, hown, hB⟩ := hrel
    have HG := Lib.hid hgk; have HSUB := Lib.hid hsub; have HPS := Lib.hid hps; have HO := Lib.hid hown; have HB := Lib.hid hB
    have HS := Lib.hid (HH.out.below hB)
    obtain ⟨Av, cv, rfl, hvm⟩ := own_form hown
    clear hgk hsub hps hown hB
    obtain ⟨lv, hbox, hrow⟩ := HS.out.box
    obtain ⟨Al, cl, rfl⟩ := hrow.form
    obtain ⟨p0, p1, p2⟩ := cells2 hbox
    rw [HN.out] at p0
    have HROW := Lib.hid hrow
    clear hbox hrow
    have okps : Hid (ElsOk wr V ps) := fun p hp => HS.out.els p (HSUB.out p hp)
    obtain ⟨M, hM⟩ : ∃ M, ps.length = M := ⟨_, rfl⟩
    have HM := Lib.hid hM
    rw [hM] at hpm hpk hvm
    have HO2 : Hid (wr.ownsRow w.heap.size 35 4 (.slice Av M cv) M (elCells ps)) := by have := HO.out; rw [hM] at this; exact this
    clear HO
    rw [hM]
    clear hM
    have HLEN : Hid ((((qs.map El.r).take k).filter (fun r => !decide (Lib.compareBytes r.key key < 0))).length = M) := by
      show _ = _; rw [← HPS.out, List.length_map]; exact HM.out
    by_cases hlt : k < N
    · by_cases hmo : (M : Int) < most
      · have hlt' : k < qs.length := by have := HN.out; omega
        obtain ⟨_, _, e1, hcap, hrw⟩ := HROW.out
        injection e1 with e1 e2 e3; subst e1 e3
        obtain ⟨b, off, rfl, hbV, hbt, hcl⟩ := hrw (by omega)
        obtain ⟨r0, r1, r2, r3⟩ := row_at hcl hlt'
        have hel := HS.out.els qs[k] (List.getElem_mem hlt')
        have hmem : qs[k] ∈ qs := List.getElem_mem hlt'
        have E1 := Lib.hid (hel.1.bs HS.out.lt)
        obtain ⟨Aq, cq, eq1, _⟩ := hel.1
        obtain ⟨Aq', cq', eq2, _⟩ := hel.2
        have hflt : ((qs.map El.r).take (k + 1)).filter (fun r => !decide (Lib.compareBytes r.key key < 0)) = ((qs.map El.r).take k).filter (fun r => !decide (Lib.compareBytes r.key key < 0)) ++ [qs[k].r].filter (fun r => !decide (Lib.compareBytes r.key key < 0)) := by
          rw [List.take_succ_eq_append_getElem (by simpa using hlt'), List.filter_append]; simp
        rw [eq1] at r0; rw [eq2] at r3
        have EQ1 := Lib.hid eq1; have EQ2 := Lib.hid eq2
        clear hel hcl hbV hbt hcap e2 hrw HROW eq1 eq2
        generalize qs[k] = q at *
        have HFL := Lib.hid hflt; have HME := Lib.hid hmem; clear hflt hmem
        have k1 : ∀ n, (convert 33 9 (.slice Aq q.r.key.length cq)).run Try.prog (wr.drewN n) = .ok (.string (strOfNums (nums q.r.key))) (wr.drewN n) := by have hq := E1.out; rw [EQ1.out] at hq; exact fun m => Bs.conv (w := wr.drewN m) (B := wr.heap.size) hq
        have k2 : ∀ n, (convert 33 9 u).run Try.prog (wr.drewN n) = .ok (.string (strOfNums (nums key))) (wr.drewN n) := by have hq := HU.out.up HB.out; exact fun m => Bs.conv (w := wr.drewN m) (B := wr.heap.size) hq
        have i1 : (0 : Int) ≤ (k : Int) := by omega
        have i2 : (k : Int) < (N : Int) := by omega
        by_cases hc : Lib.compareBytes q.r.key key < 0
        · have t1 : Op.bytesLess (strOfNums (nums q.r.key)).toList (strOfNums (nums key)).toList = true := by rw [str_l, str_l, less_compare]; simpa using hc
          have HC := Lib.hid hc; clear hc
          go_wp2_with fail
          go_quiet (fail)
          clear k1 k2 t1
          go_wp2_with fail
          go_roundg (N - (k + 1))
          case measure => have := HG.out; omega
          case rel => exact ⟨k + 1, ps, rfl, by omega, by go_num, HSUB.out, by rw [HFL.out, HPS.out]; simp [HC.out], by have := HM.out; omega, by have := HM.out; omega, by rw [HM.out]; exact HO2.out, below_drewN HB.out _⟩
        · have t1 : Op.bytesLess (strOfNums (nums q.r.key)).toList (strOfNums (nums key)).toList = false := by rw [str_l, str_l, less_compare]; simpa using hc
          have HC := Lib.hid hc; clear hc
          have H1c : Hid (∀ u ∈ (#[.slice Aq q.r.key.length cq, .int .i64 q.r.seq, .bool q.r.del, .slice Aq' q.r.val.length cq'] : Array Value).toList, u.oneCell' = true) := by intro u hu; simp at hu; rcases hu with rfl | rfl | rfl | rfl <;> rfl
          go_wp2_with fail
          go_quiet (fail)
          clear k1 k2 t1
          have s1 : w.heap.size ≤ wr.heap.size := HB.out.size
          go_wp2_with (at_builtin; refine wpList_app rfl (.tmp 36) (.tmp 44) _ rfl w.heap.size 35 i0 _ 4 64 Try.underlying28 hi'.out hz0 hz1 hz2 rfl (by omega) _ _ _ rfl (World.ownsRow.alloc (w := wr.drewN _) HO2.out _) _ (some ⟨wr.heap.size, 0, none⟩) 1 1 _ rfl (Rd.fresh (wr.drewN _) #[.slice Aq q.r.key.length cq, .int .i64 q.r.seq, .bool q.r.del, .slice Aq' q.r.val.length cq'] 35 1 4 rfl) H1c.out (by omega) (by omega) (by simp; omega) ?_; intro v1 w4 hO hgr hat
                       have hG := row_grow HO2.out HB.out ((below_drewN (Below.refl _ _) _).alloc (Nat.le_refl _) _) hgr (Nat.le_refl _)
                       have hO4 : w4.ownsRow w.heap.size 35 4 v1 (M + 1) (elCells (ps ++ [q])) := by rw [elCells_app]; simp only [elCells, List.flatMap_cons, List.flatMap_nil, List.append_nil, El.cells, EQ1.out, EQ2.out]; exact hO
                       clear hO hgr hat
                       have HO4 := Lib.hid hO4; have HG4 := Lib.hid hG
                       clear hO4 hG)
          go_roundg (N - (k + 1))
          case measure => have := HG.out; omega
          case rel => exact ⟨k + 1, ps ++ [q], rfl, by omega, by go_num, by intro p hp; rcases List.mem_append.1 hp with h | h; (exact HSUB.out p h); (rw [List.mem_singleton] at h; rw [h]; exact HME.out), by rw [HFL.out, List.map_append, HPS.out]; simp [HC.out], by have := HM.out; simp; omega, by have := HM.out; simp; omega, by have := HM.out; rw [List.length_append, this]; exact HO4.out, HG4.out.1⟩
      · have hmo' : ¬ (M : Int) < most := hmo
        go_wp2_with fail
        go_ret
        exact ⟨_, rfl, ps, by rw [HPS.out, fromS_done (k := k) (by rw [HLEN.out]; omega) (by rw [HLEN.out]; omega)], by rw [HM.out]; exact HO2.out, okps.out, HB.out⟩
    · have hkN : k = N := by omega
      subst hkN
      have HTK : Hid ((qs.map El.r).take k = qs.map El.r) := List.take_of_length_le (by have := HN.out; simp; omega)
      go_wp2_with fail
      go_ret
      refine ⟨_, rfl, ps, ?_, by rw [HM.out]; exact HO2.out, okps.out, HB.out⟩
      have h1 := HPS.out; have h2 := HLEN.out
      rw [HTK.out] at h1 h2
      rw [h1]; unfold fromS
      rw [List.take_of_length_le (by omega)]
end Go.Proofs.Ytpgbinijocbfmaa
