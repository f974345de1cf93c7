/- What is open of all, as a wide number. -/
import Derived.Test.YtbjjgnaojoaoiaaGreatK49
import Derived.Test.YtbjjgnaojoaoiaaGreatK7
namespace Go.Proofs.YtbjjgnaojoaoiaaGreat
open Go.RowKit Go
set_option linter.unusedVariables false
set_option linter.unusedSimpArgs false

/-- A wide number of a value. -/
def TotOf (w : World) (z : Int) (e : Ending) (w' : World) : Prop := (∃ n, e = .returned (wd n (z.natAbs : Int)) ∧ wz n (z.natAbs : Int) = z) ∧ Below w.heap.size w w'
theorem wide_tot {w w' : World} {z L : Int} {e : Ending} (h : Wide z L w e w') : TotOf w z e w' := by
  obtain ⟨⟨n, m, rfl, h0, _, hz⟩, hb⟩ := h
  have hm : m = (z.natAbs : Int) := by cases n <;> simp [wz] at hz <;> omega
  subst hm
  exact ⟨⟨n, rfl, hz⟩, hb⟩
theorem tadd_any (n1 n2 : Bool) (z1 z2 : Int) (w : World) (h1 : wz n1 (z1.natAbs : Int) = z1) (h2 : wz n2 (z2.natAbs : Int) = z2) (hb : (z1.natAbs : Int) + (z2.natAbs : Int) < big) :
    Calls Tryz.prog 23 #[wd n1 (z1.natAbs : Int), wd n2 (z2.natAbs : Int)] w (TotOf w (z1 + z2)) :=
  (wadd_any n1 n2 _ _ w (by omega) (by omega) hb).mono fun e w' h => by
    rw [h1, h2] at h; exact wide_tot h
theorem tof_any (z : Int) (w : World) (hz : -9223372036854775808 ≤ z ∧ z ≤ 9223372036854775807) : Calls Tryz.prog 16 #[.int .i64 z] w (TotOf w z) :=
  (of_any z w hz).mono fun e w' h => ⟨⟨_, h.1, by unfold wz; split <;> (rename_i h; simp at h; omega)⟩, h.2⟩
theorem tof_enter (u : Value) (w : World) : (callFunc 16 #[u]).run Tryz.prog w = .ok (.enter 16 #[u]) w := by kernel_rfl
theorem tadd_enter (u v : Value) (w : World) : (callFunc 23 #[u, v]).run Tryz.prog w = .ok (.enter 23 #[u, v]) w := by kernel_rfl
@[reducible] def wdO (n : Bool) (m : Int) : Obj := .cells #[.bool n, .int .u64 (dg 0 m), .int .u64 (dg 1 m), .int .u64 (dg 2 m), .int .u64 (dg 3 m)] 47 (0, 0)
theorem opens_takeZ {l : List Dq} {k : Nat} (h : k < l.length) : opens (l.take (k + 1)) = opens (l.take k) + l[k].opn := by
  rw [List.take_succ_eq_append_getElem h, opens_app]; simp [opens]
theorem set5_blkZ {w : World} {v0 v1 v2 v3 v4 : Value} {t g : Nat} (h : w.heap[g]? = some (.cells #[v0, v1, v2, v3, v4] t (0, 0))) (u0 u1 u2 u3 u4 : Value) :
    (put5 w g u0 u1 u2 u3 u4).heap[g]? = some (.cells #[u0, u1, u2, u3, u4] t (0, 0)) := put5_at h u0 u1 u2 u3 u4
theorem below_put5 {B g : Nat} {w w' : World} (h : Below B w w') (hg : B ≤ g) (u0 u1 u2 u3 u4 : Value) : Below B w (put5 w' g u0 u1 u2 u3 u4) :=
  ((((h.setCell (p := ⟨g, 0, none⟩) hg _).setCell (p := ⟨g, 1, none⟩) hg _).setCell (p := ⟨g, 2, none⟩) hg _).setCell (p := ⟨g, 3, none⟩) hg _).setCell (p := ⟨g, 4, none⟩) hg _
theorem own_put5 {w : World} {B g n : Nat} {v : Value} {xs : List Value} {cs : Array Value} {t : Nat} {fr : Nat × Nat} (h : w.ownsRow B 58 4 v n xs) (hg : w.heap[g]? = some (.cells cs t fr)) (ht : t ≠ 58) (u0 u1 u2 u3 u4 : Value) : (put5 w g u0 u1 u2 u3 u4).ownsRow B 58 4 v n xs :=
  own_keep h fun b cs' hb => put5_far w g u0 u1 u2 u3 u4 (ne_of_type' hb hg (Ne.symm ht))
set_option maxHeartbeats 6400000 in
set_option maxRecDepth 100000 in
theorem utotal_any (g B : Nat) (S : Ac) (w : World) (h : OwnAt w B g S) (hG : Good S) :
    Calls Tryz.prog 22 #[.pointer (some ⟨g, 0, none⟩)] w (TotOf w (opens (itemsOf S.ps))) := by
  have hop := openS_opens hG.places
  have hpl := openS_places hG.places
  obtain ⟨hl200, hok, _⟩ := placesE_ok hpl
  have hgl := h.lt
  have hb0 : Below w.heap.size w ((w.alloc (.cells #[.bool false, .int .u64 0, .int .u64 0, .int .u64 0, .int .u64 0] 47)).alloc (.cells #[.bool false, .int .u64 0, .int .u64 0, .int .u64 0, .int .u64 0] 47)) := ((Below.refl _ _).alloc (Nat.le_refl _) _).alloc (by simp) _
  have h20 : ((w.alloc (.cells #[.bool false, .int .u64 0, .int .u64 0, .int .u64 0, .int .u64 0] 47)).alloc (.cells #[.bool false, .int .u64 0, .int .u64 0, .int .u64 0, .int .u64 0] 47)).heap[w.heap.size]? = some (wdO false 0) := blk_alloc (blk_new w _ rfl) _
  have h30 : ((w.alloc (.cells #[.bool false, .int .u64 0, .int .u64 0, .int .u64 0, .int .u64 0] 47)).alloc (.cells #[.bool false, .int .u64 0, .int .u64 0, .int .u64 0, .int .u64 0] 47)).heap[w.heap.size + 1]? = some (wdO false 0) := blk_new _ _ (by simp)
  have HIT := Lib.hid (uitems_any g B S _ (h.below hb0) hG)
  unfold ItemsOut at HIT
  obtain ⟨its, hits⟩ : ∃ its, openS S.ps = its := ⟨_, rfl⟩
  rw [hits] at HIT hop hok hl200
  obtain ⟨n, hn⟩ : ∃ n, its.length = n := ⟨_, rfl⟩
  rw [hn] at HIT hl200
  have HN := Lib.hid hn; have HOP := Lib.hid hop; have HOK := Lib.hid hok
  have HB0 := Lib.hid hb0; have H20 := Lib.hid h20; have H30 := Lib.hid h30
  clear h hG hpl hits hn hop hok hb0 h20 h30
  go_enter Tryz.func22, Tryz.ntmps22
  go_wp2_with fail
  refine HIT.out.mono ?_; rintro e w1 ⟨A, c, rfl, ho1, hb1⟩
  have HO1 := Lib.hid (own_mono ho1 (Nat.zero_le _))
  have HB1 := Lib.hid (HB0.out.trans (hb1.mono HB0.out.size))
  have H21 := Lib.hid (blk_below H20.out hb1 (blk_lt H20.out)); have H31 := Lib.hid (blk_below H30.out hb1 (blk_lt H30.out))
  clear ho1 hb1 HIT
  go_wp2_with fail
  go_loopg [5] n (fun gh v5 wr => ∃ (k : Nat) (b : Bool), gh = n - k ∧ k ≤ n ∧ v5 = .int .i64 k ∧ wz b ((opens (its.take k)).natAbs : Int) = opens (its.take k) ∧ wr.ownsRow 0 58 4 (.slice A n c) n (itCs its) ∧ wr.heap[w.heap.size]? = some (wdO false 0) ∧ wr.heap[w.heap.size + 1]? = some (wdO b ((opens (its.take k)).natAbs : Int)) ∧ Below w.heap.size w wr)
  case atStart => exact ⟨0, false, rfl, by omega, rfl, rfl, HO1.out, H21.out, H31.out, HB1.out⟩
  case round =>
    obtain ⟨k, b, hgk, hk, rfl, hz, hown, h2, h3, hbr⟩ := hrel
    have HGH := Lib.hid hgk; have HOW := Lib.hid hown; have H2 := Lib.hid h2; have H3 := Lib.hid h3; have HBR := Lib.hid hbr
    clear hgk hown h2 h3 hbr
    have hokt : (its.take k).all okI = true := List.all_eq_true.2 fun x hx => List.all_eq_true.1 HOK.out x (List.mem_of_mem_take hx)
    have hzn := opens_nonneg hokt
    have hzb := opens_bound hokt
    have hlk : (its.take k).length ≤ 200 := by rw [List.length_take]; have := HN.out; omega
    by_cases hlt : k < n
    · have hkl : k < its.length := by have := HN.out; omega
      have hop1 := opens_takeZ hkl
      have hxb := okI_yes (List.all_eq_true.1 HOK.out its[k] (List.getElem_mem hkl))
      obtain ⟨gi, off, rfl, hb, c0, c1, c2, c3⟩ := (Rd.of_own HOW.out).it hkl
      generalize its[k] = x at *
      obtain ⟨z, hzz⟩ : ∃ z, opens (its.take k) = z := ⟨_, rfl⟩
      obtain ⟨z2, hzz2⟩ : ∃ z2, opens (its.take (k + 1)) = z2 := ⟨_, rfl⟩
      rw [hzz] at hz hzn hzb hop1 H3
      rw [hzz2] at hop1
      have HZ2 := Lib.hid hzz2
      obtain ⟨k0, k1, k2, k3, k4, k5⟩ := cells5U H3.out
      have hkl3 := blk_lt H3.out
      have HOF := Lib.hid (fun wx => tof_any x.opn wx (by omega))
      have HAD := Lib.hid (fun (n2 : Bool) (h2 : wz n2 (x.opn.natAbs : Int) = x.opn) wx => tadd_any b n2 z x.opn wx hz h2 (by unfold big; omega))
      rw [← hop1] at HAD
      have HZ := Lib.hid hz
      have i1 : (0 : Int) ≤ (k : Int) := by omega
      have i2 : (k : Int) < (n : Int) := by omega
      have hgi : gi < wr.heap.size := hb
      clear c0 c1 c2 hzz hzz2 hop1 hokt hzn hzb hz
      go_wp2_with fail
      go_region_law (first
        | (refine step_call1R rfl 16 (.tmp 20) 2 rfl (.int .i64 x.opn) rfl (tof_enter _) ?_
           refine (HOF.out _).mono ?_; rintro e w2 ⟨⟨n2, rfl, hz2⟩, hw2⟩; refine ⟨_, rfl, ?_⟩
           have HW2 : Hid (Below wr.heap.size wr w2) := Lib.hid (below_drewA hw2)
           have HZN := Lib.hid hz2
           obtain ⟨q0, q1, q2, q3, q4, q5⟩ := cells5U (blk_below H3.out HW2.out hkl3)
           have ql := blk_lt (blk_below H3.out HW2.out hkl3)
           clear hw2 hz2)
        | (refine step_call2R rfl 23 (.tmp 15) (.tmp 21) 47 47 rfl (wd b (z.natAbs : Int)) (wd n2 (x.opn.natAbs : Int)) rfl rfl (tadd_enter _ _) ?_
           refine (HAD.out n2 HZN.out _).mono ?_; rintro e w3 ⟨⟨n3, rfl, hz3⟩, hw3⟩; refine ⟨_, rfl, ?_⟩
           have HW3 : Hid (Below wr.heap.size wr w3) := Lib.hid (HW2.out.trans (hw3.mono HW2.out.size))
           have H33 := Lib.hid (blk_below H3.out HW3.out hkl3)
           have HZ3 := Lib.hid hz3
           obtain ⟨t0, t1, t2, t3, t4, t5⟩ := cells5U H33.out
           have tl := blk_lt H33.out
           clear hw3 hz3))
      all_goals go_wp2_with fail
      all_goals go_roundg (n - (k + 1))
      all_goals first
        | (have := HGH.out; omega)
        | exact ⟨k + 1, n3, rfl, by omega, by go_num, by rw [HZ2.out]; exact HZ3.out, own_put5 (own_below HOW.out HW3.out) H33.out (by decide) _ _ _ _ _, (put5_far _ _ _ _ _ _ _ (by omega)).trans (blk_below H2.out HW3.out (blk_lt H2.out)), by rw [HZ2.out]; exact set5_blkZ H33.out _ _ _ _ _, below_put5 (HBR.out.trans (HW3.out.mono HBR.out.size)) (by omega) _ _ _ _ _⟩
    · have hkn : k = n := by omega
      subst hkn
      have htk : its.take k = its := List.take_of_length_le (by have := HN.out; omega)
      rw [htk] at hz H3
      rw [HOP.out] at hz H3
      have HZ := Lib.hid hz
      obtain ⟨k0, k1, k2, k3, k4, k5⟩ := cells5U H3.out
      obtain ⟨q0, q1, q2, q3, q4, q5⟩ := cells5U H2.out
      have hl3 := blk_lt H3.out; have hl2 := blk_lt H2.out
      clear hz htk hokt hzn hzb
      go_wp2_with fail
      refine bodyPost_ret (results_row_1 rfl _ _ w.heap.size 47 _ (0, 0) _ rfl (set5_blkZ H2.out _ _ _ _ _) Tryz.underlying47 rfl (by kernel_rfl)) rfl ?_
      exact ⟨⟨b, rfl, HZ.out⟩, below_put5 HBR.out (Nat.le_refl _) _ _ _ _ _⟩
end Go.Proofs.YtbjjgnaojoaoiaaGreat
