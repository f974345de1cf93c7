/- The walk of MergeBelow. -/
import Derived.Test.YtfcemlcocdhmfaaLMS2
namespace Go.Proofs.Ytfcemlcocdhmfaa
open Go.RowKit Go
set_option linter.unusedVariables false
set_option linter.unusedSimpArgs false

/-- Of one key all old records are older. -/
def OldS (l old : List Rc) : Prop := ∀ r ∈ l, ∀ o ∈ old, r.key = o.key → o.seq < r.seq
theorem below_law {ms : List Int} {l old x y : List Rc} (hl : inO l = true) (ho : inO old = true) (hold : OldS l old) (hx : IsMerge ord2 [KeepS ms false l, old] x) (hy : IsMerge ord2 [l, old] y) {m : Int} (hg : Good ms l m) : AtS m x = AtS m y := by
  have sl := inO_srt hl; have so := inO_srt ho
  have hk : KeepS ms false l = keepS ms false l := by rw [KeepS, if_pos hl]
  rw [hk] at hx
  have sk := keep_srt ms false sl
  have ne : ∀ r ∈ old, ∀ r' ∈ l, ord2 r' r ≠ 0 := fun r hr r' hr' e => by
    obtain ⟨e1, e2⟩ := (ord_eq r' r).1 e
    have := hold r' hr' r hr e1; omega
  have ex := merge2 toOrd hx sk so
  have ey := merge2 toOrd hy sl so
  obtain ⟨sx, mx⟩ := two_apart sk so fun r hr r' hr' => ne r hr r' ((keep_sub ms false l).subset hr')
  obtain ⟨sy, my⟩ := two_apart sl so ne
  rw [← ex] at sx mx; rw [← ey] at sy my
  rw [AtS, if_pos (srt_inO sx), AtS, if_pos (srt_inO sy)]
  exact below_at sl sx sy mx my hold hg
/-- The records looked at so far are older. -/
theorem OldS.of {l old : List Rc} (h : ∀ i k (hi : i < l.length) (hk : k < old.length), l[i].key = old[k].key → old[k].seq < l[i].seq) : OldS l old := by
  intro r hr o ho
  obtain ⟨i, hi, rfl⟩ := List.getElem_of_mem hr
  obtain ⟨k, hk, rfl⟩ := List.getElem_of_mem ho
  exact h i k hi hk
theorem few_kept {ms : List Int} {bot : Bool} {ks qs : List El} (hf : FewR qs) (h : ks.map El.r = KeepS ms bot (qs.map El.r)) : FewR ks := by
  refine ⟨Nat.le_trans (kept_le h) hf.len, fun q hq => ?_⟩
  have h1 : q.r ∈ KeepS ms bot (qs.map El.r) := by rw [← h]; exact List.mem_map_of_mem hq
  have h2 : q.r ∈ qs.map El.r := by
    rw [KeepS] at h1
    split at h1
    · exact (keep_sub ms bot _).subset h1
    · simp at h1
  obtain ⟨x, hx, e⟩ := List.mem_map.1 h2
  rw [← e]; exact hf.el x hx
/-- What has been looked at: of these records and those. -/
def Older (xs bs : List El) (i : Nat) : Prop := ∀ j k (hj : j < xs.length) (hk : k < bs.length), j < i → xs[j].r.key = bs[k].r.key → bs[k].r.seq < xs[j].r.seq
def OlderAt (x : El) (bs : List El) (k : Nat) : Prop := ∀ k' (hk : k' < bs.length), k' < k → x.r.key = bs[k'].r.key → bs[k'].r.seq < x.r.seq
theorem Older.step {xs bs : List El} {i : Nat} (h : Older xs bs i) (hi : i < xs.length) (hx : OlderAt xs[i] bs bs.length) : Older xs bs (i + 1) := by
  intro j k hj hk hl e
  by_cases hji : j = i
  · subst hji; exact hx k hk hk e
  · exact h j k hj hk (by omega) e
theorem Older.all {xs bs : List El} (h : Older xs bs xs.length) : OldS (xs.map El.r) (bs.map El.r) := by
  refine OldS.of fun i k hi hk e => ?_
  simp only [List.length_map] at hi hk
  simp only [List.getElem_map] at e ⊢
  exact h i k hi hk hi e
theorem OlderAt.step {x : El} {bs : List El} {k : Nat} (h : OlderAt x bs k) (hk : k < bs.length) (hx : x.r.key = bs[k].r.key → bs[k].r.seq < x.r.seq) : OlderAt x bs (k + 1) := by
  intro j hj hl e
  by_cases hjk : j = k
  · subst hjk; exact hx e
  · exact h j hj (by omega) e
set_option maxHeartbeats 6400000 in
set_option maxRecDepth 100000 in
theorem mergeBelow_walk (A A' : Option Addr) (c c' : Nat) (xs bs : List El) (Am : Option Addr) (nm cm : Nat) (ms : List Int) (w : World) (h1 : RowB w (.slice A xs.length c) xs) (h2 : RowB w (.slice A' bs.length c') bs) (hn1 : xs.length ≤ 9223372036854775807) (hn2 : bs.length ≤ 9223372036854775807) (hms : Rd w w.heap.size 1 Am nm (ints ms)) :
    Calls Try.prog 8 #[.slice A xs.length c, .slice A' bs.length c', .slice Am nm cm] w fun e w' => e = .returned (.bool true) ∧ Below w.heap.size w w' := by
  have H1 := Lib.hid h1; have H2 := Lib.hid h2; have HN1 := Lib.hid hn1; have HN2 := Lib.hid hn2; have HM := Lib.hid hms
  clear h1 h2 hn1 hn2 hms
  go_enter Try.func8, Try.ntmps8
  go_wp2_with fail
  refine (awake_any w).mono ?_; rintro e w1 ⟨rfl, hw1⟩
  have HB1 := Lib.hid hw1; have HA1 := Lib.hid (H1.out.up hw1); have HA2 := Lib.hid (H2.out.up hw1)
  clear hw1
  go_upto_region 2 with fail
  go_cut [8] from 22 (fun v8 wz => ∃ m : Bool, v8 = .bool m ∧ BothF xs bs m ∧ wz = w1)
  case first =>
    go_wp2_with fail
    refine (few_any _ xs w1 HA1.out).mono ?_; rintro e w2 ⟨m, rfl, hm, rfl⟩
    cases m with
    | false =>
      go_wp2_with fail
      go_meet
      exact ⟨false, rfl, (fun h => absurd h (by decide)), rfl⟩
    | true =>
      have HMM := Lib.hid (hm rfl); clear hm
      go_wp2_with fail
      refine (few_any _ bs w2 HA2.out).mono ?_; rintro e w3 ⟨m, rfl, hm, rfl⟩
      have HM2 := Lib.hid hm; clear hm
      go_wp2_with fail
      go_meet
      exact ⟨m, rfl, fun h => ⟨HMM.out, HM2.out h⟩, rfl⟩
  case rest =>
    obtain ⟨m, rfl, hm, rfl⟩ := hcut
    have HMM := Lib.hid hm; clear hm
    go_upto_region 3 with fail
    go_cut [9] from 22 (fun v9 wz => ∃ o : Bool, v9 = .bool o ∧ BothO xs bs o ∧ Below w.heap.size w wz)
    case first =>
      have HI := Lib.hid (inOrder_refw _ xs wc HA1.out HN1.out)
      go_wp2_with fail
      refine HI.out.mono ?_; rintro e w2 ⟨rfl, hw2⟩
      have HB2 := Lib.hid (HB1.out.trans (hw2.mono HB1.out.size)); have HA22 := Lib.hid (HA2.out.up hw2)
      clear hw2 HI
      cases ho : inO (xs.map El.r) with
      | false =>
        go_wp2_with fail
        go_meet
        exact ⟨false, rfl, (fun h => absurd h (by decide)), HB2.out⟩
      | true =>
        have HO := Lib.hid ho; clear ho
        have HI := Lib.hid (inOrder_refw _ bs w2 HA22.out HN2.out)
        go_wp2_with fail
        refine HI.out.mono ?_; rintro e w3 ⟨rfl, hw3⟩
        have HB3 := Lib.hid (HB2.out.trans (hw3.mono HB2.out.size))
        clear hw3 HI
        go_wp2_with fail
        go_meet
        exact ⟨_, rfl, fun h => ⟨HO.out, h⟩, HB3.out⟩
    case rest =>
      obtain ⟨o, rfl, ho, hb⟩ := hcut
      have HO := Lib.hid ho; have HB := Lib.hid hb; have HX := Lib.hid (H1.out.up hb); have HY := Lib.hid (H2.out.up hb)
      clear ho hb HA1 HA2 HB1
      cases m with
      | false =>
        go_wp2_with fail
        go_ret
        exact ⟨by first | rfl | simp, HB.out⟩
      | true =>
        cases o with
        | false =>
          go_wp2_with fail
          go_ret
          exact ⟨by first | rfl | simp, HB.out⟩
        | true =>
          obtain ⟨fa, fb⟩ := HMM.out rfl
          obtain ⟨oa, ob⟩ := HO.out rfl
          have FA := Lib.hid fa; have FB := Lib.hid fb; have OA := Lib.hid oa; have OB := Lib.hid ob
          clear fa fb oa ob HMM HO
          by_cases h50 : 50 < nm
          · have h50' : (50 : Int) < (nm : Int) := by omega
            go_wp2_with fail
            go_ret
            exact ⟨by first | rfl | simp, HB.out⟩
          · have h50' : (nm : Int) ≤ 50 := by omega
            have HNM : Hid (nm ≤ 50) := Lib.hid (by omega)
            obtain ⟨N, hN⟩ : ∃ N, xs.length = N := ⟨_, rfl⟩
            obtain ⟨M, hM⟩ : ∃ M, bs.length = M := ⟨_, rfl⟩
            have HLA : Hid (N ≤ 1000) := Lib.hid (by rw [← hN]; exact FA.out.len)
            have HLB : Hid (M ≤ 1000) := Lib.hid (by rw [← hM]; exact FB.out.len)
            have HNN := Lib.hid hN; have HMM := Lib.hid hM
            rw [hN] at HX ⊢; rw [hM] at HY ⊢
            clear hN hM h50
            have hNb : N ≤ 1000 := HLA.out
            have hMb : M ≤ 1000 := HLB.out
            go_wp2_with fail
            go_loopg [10, 11] N (fun g vl vi wr => ∃ i : Nat, g = N - i ∧ i ≤ N ∧ vi = .int .i64 i ∧ vl = .int .i64 (lastS 0 ((xs.map El.r).take i)) ∧ Older xs bs i ∧ Below wc.heap.size wc wr)
            case atStart => exact ⟨0, rfl, Nat.zero_le _, rfl, rfl, fun j k _ _ h => absurd h (Nat.not_lt_zero _), Below.refl _ _⟩
            case round =>
              obtain ⟨i, hg, hi, rfl, rfl, hold, hbr⟩ := hrel
              have HG := Lib.hid hg; have HOLD := Lib.hid hold; have HBR := Lib.hid hbr
              have HXR := Lib.hid (HX.out.up hbr); have HYR := Lib.hid (HY.out.up hbr)
              clear hg hold hbr
              by_cases hlt : i < N
              · have hil : i < xs.length := by rw [HNN.out]; exact hlt
                obtain ⟨b, off, Ak, ck, Av, cv, r, rfl, hbl, he, r0, r1, r2, r3, bk, bv⟩ := HXR.out.pick hil
                have HE := Lib.hid he
                have HST : Hid (lastS 0 ((xs.map El.r).take (i + 1)) = max (lastS 0 ((xs.map El.r).take i)) r.seq) := Lib.hid (by
                  rw [List.take_succ_eq_append_getElem (by simpa using hil), lastS_snoc]; simp [he])
                generalize lastS 0 ((xs.map El.r).take i) = l0 at *
                have BK := Lib.hid bk
                clear r0 r2 r3 he bk bv
                have i1 : (0 : Int) ≤ (i : Int) := by omega
                have i2 : (i : Int) < (N : Int) := by omega
                go_wp2_with fail
                clear r1
                generalize wr = wo at *
                go_loopg [12] M (fun g vk wx => ∃ k : Nat, g = M - k ∧ k ≤ M ∧ vk = .int .i64 k ∧ OlderAt (elOf Ak ck Av cv r) bs k ∧ Below wo.heap.size wo wx)
                case atStart => exact ⟨0, rfl, Nat.zero_le _, rfl, fun k _ h => absurd h (Nat.not_lt_zero _), Below.refl _ _⟩
                case round =>
                  obtain ⟨k, hg, hk, rfl, hoa, hbx⟩ := hrel
                  have HG2 := Lib.hid hg; have HOA := Lib.hid hoa; have HBX := Lib.hid hbx
                  have HXX := Lib.hid (HXR.out.up hbx); have HYX := Lib.hid (HYR.out.up hbx)
                  clear hg hoa hbx
                  by_cases hlt2 : k < M
                  · have hkl : k < bs.length := by rw [HMM.out]; exact hlt2
                    obtain ⟨b2, off2, Aq, cq, Aw, cw, q, rfl, hbl2, he2, s0, s1, s2, s3, qk, qv⟩ := HYX.out.pick hkl
                    obtain ⟨_, _, Ak', ck', Av', cv', r', e, _, he', r0, r1, r2, r3, bk, bv⟩ := HXX.out.pick hil
                    injection e with e; injection e with e1 e2
                    subst e1 e2
                    have hee : elOf Ak ck Av cv r = elOf Ak' ck' Av' cv' r' := HE.out.symm.trans he'
                    injection hee with ha hb' hc'
                    subst hc'
                    have HE2 := Lib.hid he2
                    have k1 : ∀ n, (convert 38 9 (.slice Ak' r.key.length ck')).run Try.prog (wr.drewN n) = .ok (.string (strOfNums (nums r.key))) (wr.drewN n) := fun m => Bs.conv (w := wr.drewN m) (B := wr.heap.size) bk
                    have k2 : ∀ n, (convert 38 9 (.slice Aq q.key.length cq)).run Try.prog (wr.drewN n) = .ok (.string (strOfNums (nums q.key))) (wr.drewN n) := fun m => Bs.conv (w := wr.drewN m) (B := wr.heap.size) qk
                    have k0 : (0 : Int) ≤ (k : Int) := by omega
                    have k3 : (k : Int) < (M : Int) := by omega
                    clear he2 he' ha hb' bk bv qk qv r2 r3 s2 s3
                    by_cases hky : r.key = q.key
                    · have t1 : ((strOfNums (nums r.key)).toList == (strOfNums (nums q.key)).toList) = true := by rw [str_l, str_l]; simpa using hky
                      have HKY := Lib.hid hky
                      clear hky
                      by_cases hsq : r.seq ≤ q.seq
                      · have d1 : decide (r.seq ≤ q.seq) = true := decide_eq_true hsq
                        go_wp2_with fail
                        go_quiet (fail)
                        clear k1 k2 t1 d1
                        go_wp2_with fail
                        go_ret
                        exact ⟨by first | rfl | simp, HB.out.trans ((HBR.out.trans ((below_drewN HBX.out _).mono HBR.out.size)).mono HB.out.size)⟩
                      · have d1 : decide (r.seq ≤ q.seq) = false := decide_eq_false hsq
                        have HN3 : Hid (OlderAt (elOf Ak ck Av cv r) bs (k + 1)) := Lib.hid (HOA.out.step hkl fun _ => by rw [HE2.out]; show q.seq < r.seq; omega)
                        go_wp2_with fail
                        go_quiet (fail)
                        clear k1 k2 t1 d1
                        go_wp2_with fail
                        go_roundg (M - (k + 1))
                        case measure => have := HG2.out; omega
                        case rel => exact ⟨k + 1, rfl, by omega, by go_num, HN3.out, below_drewN HBX.out _⟩
                    · have t1 : ((strOfNums (nums r.key)).toList == (strOfNums (nums q.key)).toList) = false := by rw [str_l, str_l]; simpa using hky
                      have HN3 : Hid (OlderAt (elOf Ak ck Av cv r) bs (k + 1)) := Lib.hid (HOA.out.step hkl fun e => by rw [HE2.out] at e; exact absurd e hky)
                      clear hky
                      go_wp2_with fail
                      go_quiet (fail)
                      clear k1 k2 t1
                      go_wp2_with fail
                      go_roundg (M - (k + 1))
                      case measure => have := HG2.out; omega
                      case rel => exact ⟨k + 1, rfl, by omega, by go_num, HN3.out, below_drewN HBX.out _⟩
                  · have hkM : k = M := by omega
                    subst hkM
                    have n1 : ¬ ((k : Int) < (k : Int)) := by omega
                    have HN4 : Hid (Older xs bs (i + 1)) := Lib.hid (HOLD.out.step hil (by rw [HE.out, HMM.out]; exact HOA.out))
                    go_wp2_with fail
                    go_roundg (N - (i + 1))
                    case measure => have := HG.out; omega
                    case rel => exact ⟨i + 1, rfl, by omega, by go_num, by rw [HST.out], HN4.out, HBR.out.trans (HBX.out.mono HBR.out.size)⟩
              · have hiN : i = N := by omega
                subst hiN
                have n1 : ¬ ((i : Int) < (i : Int)) := by omega
                have HOS := Lib.hid ((show Older xs bs xs.length by rw [HNN.out]; exact HOLD.out).all)
                have htk : (xs.map El.r).take i = xs.map El.r := List.take_of_length_le (by simp [HNN.out])
                rw [htk]
                have HL0 : Hid (∀ r ∈ xs.map El.r, r.seq ≤ lastS 0 (xs.map El.r)) := Lib.hid (lastS_ge _ 0).2
                generalize lastS 0 (xs.map El.r) = l0 at *
                clear htk HOLD HG
                go_wp2_with fail
                generalize wr = wk at *
                go_loopg [10, 13] M (fun g vl vi wr => ∃ k : Nat, g = M - k ∧ k ≤ M ∧ vi = .int .i64 k ∧ vl = .int .i64 (lastS l0 ((bs.map El.r).take k)) ∧ wr = wk)
                case atStart => exact ⟨0, rfl, Nat.zero_le _, rfl, rfl, rfl⟩
                case round =>
                  obtain ⟨k, hg, hk, rfl, rfl, rfl⟩ := hrel
                  have HG := Lib.hid hg
                  clear hg
                  by_cases hlt3 : k < M
                  · have hkq : k < bs.length := by rw [HMM.out]; exact hlt3
                    obtain ⟨b, off, rfl, hbl, r0, r1, r2, r3⟩ := HYR.out.at_ hkq
                    have HST : Hid (lastS l0 ((bs.map El.r).take (k + 1)) = max (lastS l0 ((bs.map El.r).take k)) bs[k].r.seq) := Lib.hid (by
                      rw [List.take_succ_eq_append_getElem (by simpa using hkq), lastS_snoc]; simp)
                    generalize lastS l0 ((bs.map El.r).take k) = l1 at *
                    generalize bs[k] = q at *
                    clear r0 r2 r3
                    have i1 : (0 : Int) ≤ (k : Int) := by omega
                    have i2 : (k : Int) < (M : Int) := by omega
                    go_wp2_with fail
                    go_roundg (M - (k + 1))
                    case measure => have := HG.out; omega
                    case rel => exact ⟨k + 1, rfl, by omega, by go_num, by rw [HST.out], rfl⟩
                  · have hkM : k = M := by omega
                    subst hkM
                    have n1 : ¬ ((k : Int) < (k : Int)) := by omega
                    obtain ⟨last, hlast⟩ : ∃ l, lastS l0 ((bs.map El.r).take k) = l := ⟨_, rfl⟩
                    have HLS : Hid (∀ r ∈ xs.map El.r, r.seq ≤ last) := Lib.hid (fun r hr => by
                      have h1 := HL0.out r hr
                      have h2 := (lastS_ge ((bs.map El.r).take k) l0).1
                      rw [hlast] at h2; omega)
                    rw [hlast]
                    clear hlast HG HL0
                    have HWR := Lib.hid (HB.out.trans (HBR.out.mono HB.out.size))
                    have HKA := Lib.hid (keep_any (.slice A i c) Am nm cm false ms xs wr HXR.out (by rw [HNN.out]; omega) FA.out.lens ((HM.out.below HWR.out).wider HWR.out.size) (by have := HNM.out; omega))
                    go_wp2_with fail
                    refine HKA.out.mono ?_; rintro e w4 ⟨⟨v4, ks, rfl, hr4, hp4, hl4⟩, hw4⟩
                    have HW4 := Lib.hid (HWR.out.trans (hw4.mono HWR.out.size))
                    have HX4 := Lib.hid (HXR.out.up hw4); have HY4 := Lib.hid (HYR.out.up hw4)
                    have HR4 := Lib.hid hr4; have HP4 := Lib.hid hp4
                    have HFK := Lib.hid (few_kept FA.out hp4)
                    have HIK : Hid (inO (ks.map El.r) = true) := Lib.hid (by rw [hp4]; exact inO_keep OA.out)
                    obtain ⟨Ak, ck, rfl⟩ := hr4.form
                    clear hw4 hr4 hp4 hl4 HKA HWR HXR HYR HX HY HB HBR
                    have HC1 := Lib.hid (all_any (some ⟨w4.heap.size, 0, none⟩) 2 2 _ _ (lsts_two HR4.out HY4.out HFK.out FB.out) (by omega) (by have := HFK.out.len; have := FB.out.len; simp; omega))
                    go_wp2_with fail
                    refine HC1.out.mono ?_; rintro e w5 ha
                    obtain ⟨⟨v5, q5, rfl, hr5, hm5, hz5⟩, hw5⟩ := alls_ok ha (by intro x hx; simp only [List.mem_cons, List.not_mem_nil, or_false] at hx; rcases hx with rfl | rfl; exact HIK.out; exact OB.out)
                    have hw5' := (bnewH w4 (.cells #[.slice Ak ks.length ck, .slice A' k c'] 25)).trans (hw5.mono (by simp))
                    have HM5 : Hid (IsMerge ord2 [KeepS ms false (xs.map El.r), bs.map El.r] (q5.map El.r)) := Lib.hid (by rw [← HP4.out]; exact hm5)
                    have HLE5 : Hid (q5.length ≤ 2000) := Lib.hid (by
                      have := merge_few hm5 (by intro x hx; simp only [List.mem_cons, List.not_mem_nil, or_false] at hx; rcases hx with rfl | rfl; exact HIK.out; exact OB.out)
                      have := HFK.out.len; have := FB.out.len; simp at *; omega)
                    have HR5 := Lib.hid hr5; have HZ5 := Lib.hid hz5; have HW5 := Lib.hid (HW4.out.trans (hw5'.mono HW4.out.size)); have HX5 := Lib.hid (HX4.out.up hw5'); have HY5 := Lib.hid (HY4.out.up hw5')
                    obtain ⟨A5, c5, rfl⟩ := hr5.form
                    clear ha hz5 hr5 hm5 hw5 hw5' HC1 HW4 HX4 HY4 HR4
                    have HC2 := Lib.hid (all_any (some ⟨w5.heap.size, 0, none⟩) 2 2 _ _ (lsts_two HX5.out HY5.out FA.out FB.out) (by omega) (by have := FA.out.len; have := FB.out.len; simp; omega))
                    go_wp2_with fail
                    refine HC2.out.mono ?_; rintro e w6 ha
                    obtain ⟨⟨v6, q6, rfl, hr6, hm6, hz6⟩, hw6⟩ := alls_ok ha (by intro x hx; simp only [List.mem_cons, List.not_mem_nil, or_false] at hx; rcases hx with rfl | rfl; exact OA.out; exact OB.out)
                    have hw6' := (bnewH w5 (.cells #[.slice A i c, .slice A' k c'] 25)).trans (hw6.mono (by simp))
                    have HM6 : Hid (IsMerge ord2 [xs.map El.r, bs.map El.r] (q6.map El.r)) := Lib.hid hm6
                    have HLE6 : Hid (q6.length ≤ 2000) := Lib.hid (by
                      have := merge_few hm6 (by intro x hx; simp only [List.mem_cons, List.not_mem_nil, or_false] at hx; rcases hx with rfl | rfl; exact OA.out; exact OB.out)
                      have := FA.out.len; have := FB.out.len; simp at *; omega)
                    have HR6 := Lib.hid hr6; have HZ6 := Lib.hid hz6; have HW6 := Lib.hid (HW5.out.trans (hw6'.mono HW5.out.size)); have HR56 := Lib.hid (HR5.out.up hw6')
                    obtain ⟨A6, c6, rfl⟩ := hr6.form
                    clear ha hz6 hr6 hm6 hw6 hw6' HC2 HW5 HX5 HY5 HR5
                    have HRM := Lib.hid (((HM.out.below HW6.out).wider HW6.out.size).below ((Below.refl w6.heap.size w6).alloc (Nat.le_refl _) (.cells #[] 3)))
                    obtain ⟨n5, hn5⟩ : ∃ n, q5.length = n := ⟨_, rfl⟩
                    obtain ⟨n6, hn6⟩ : ∃ n, q6.length = n := ⟨_, rfl⟩
                    have HN5 := Lib.hid hn5; have HN6 := Lib.hid hn6
                    rw [hn5] at HR56 ⊢; rw [hn6] at HR6 ⊢
                    clear hn5 hn6
                    go_wp2_with (first
                      | (at_builtin; (refine app_ms rfl (.tmp 132) (.tmp 133) rfl w6 Am nm cm ms w6.heap.size (by rfl) (by rfl) HRM.out (by have := HNM.out; omega) ?_); intro v7 w7 hO7 hb7
                         obtain ⟨A7, c7, rfl, _⟩ := own_form hO7
                         have HO7 := Lib.hid hO7; have HB7 := Lib.hid hb7
                         clear hO7 hb7)
                      | (at_builtin; (refine app_last rfl (.tmp 134) (.tmp 136) rfl w6 w7 nm (.slice A7 nm c7) ms last (by rfl) (by rfl) HO7.out HB7.out (by have := HNM.out; omega) ?_); intro v8 w8 hO8 hb8
                         obtain ⟨A8, c8, rfl, _⟩ := own_form hO8
                         have HO8 := Lib.hid hO8; have HB8 := Lib.hid hb8
                         clear hO8 hb8)
                      | go_in)
                    have hal : (ms ++ [last]).length = nm + 1 := by
                      have := HM.out.1; rw [List.length_append, List.length_singleton]; simp [ints] at this; omega
                    have HAL := Lib.hid hal
                    have HRD := Lib.hid (Rd.of_own HO8.out)
                    have HGD : Hid (∀ i (hi : i < (ms ++ [last]).length), Good ms (xs.map El.r) (ms ++ [last])[i]) := Lib.hid (fun i hi => by
                      by_cases hi2 : i < ms.length
                      · rw [List.getElem_append_left hi2]; exact .inl (List.getElem_mem hi2)
                      · right
                        have : (ms ++ [last])[i] = last := by rw [List.getElem_append_right (by omega)]; simp
                        rw [this]; exact HLS.out)
                    have HAT : Hid (∀ m, Good ms (xs.map El.r) m → AtS m (q5.map El.r) = AtS m (q6.map El.r)) := Lib.hid (fun m hg => below_law OA.out OB.out HOS.out HM5.out HM6.out hg)
                    clear hal HB7 HO7 HLS HRM
                    go_wp2_with fail
                    generalize wr = wq at *
                    go_loopg [20] (nm + 1) (fun g vi wx => ∃ i : Nat, g = nm + 1 - i ∧ i ≤ nm + 1 ∧ vi = .int .i64 i ∧ Below w8.heap.size w8 wx)
                    case atStart => exact ⟨0, rfl, Nat.zero_le _, rfl, Below.refl _ _⟩
                    case round =>
                      obtain ⟨t, hg, ht, rfl, hbx⟩ := hrel
                      have HG := Lib.hid hg; have HBX := Lib.hid hbx
                      have HBK := Lib.hid (HB8.out.trans (hbx.mono HB8.out.size))
                      have HKR := Lib.hid (HR56.out.up HBK.out); have HQR := Lib.hid (HR6.out.up HBK.out)
                      clear hg hbx
                      by_cases hlt : t < nm + 1
                      · have hil : t < (ms ++ [last]).length := by rw [HAL.out]; exact hlt
                        obtain ⟨ba, oa, rfl, hba, c0⟩ := ((HRD.out.below HBX.out).wider HBX.out.size).numM hil
                        have HG1 := Lib.hid (HGD.out t hil)
                        generalize (ms ++ [last])[t] = m at *
                        have i1 : (0 : Int) ≤ (t : Int) := by omega
                        have i2 : (t : Int) < ((nm + 1 : Nat) : Int) := by omega
                        have i3 : (t : Int) < (nm : Int) + 1 := by omega
                        have HEQ := Lib.hid (HAT.out m HG1.out)
                        have HA1 := Lib.hid (fun (wy : World) (hy : Below wr.heap.size wr wy) => at_any (.slice A5 n5 c5) m q5 wy (HKR.out.up hy) (by have := HLE5.out; omega) HZ5.out)
                        have HA2 := Lib.hid (fun (wy : World) (hy : Below wr.heap.size wr wy) => at_any (.slice A6 n6 c6) m q6 wy (HQR.out.up hy) (by have := HLE6.out; omega) HZ6.out)
                        clear hil
                        go_wp2_with fail
                        go_cut [21] from 138 to 158 (fun v21 wz => v21 = .bool true ∧ Below wr.heap.size wr wz)
                        case first =>
                          go_region_held3 (fun w' => w'.cell? ⟨ba, oa + t, none⟩ = some (.int .i64 m))
                            ((first | exact c0 | exact (hcA _ hba).trans c0 | exact (hcB _ hba).trans c0 | exact (hcC _ hba).trans c0))
                            ((first
                              | (go_at_call 16; refine (HA1.out wr.drew (Below.refl _ _).drew).mono ?_; rintro e wa ⟨⟨va, pa, rfl, hra, hpa⟩, hwa⟩; have HWA : Hid (Below wr.heap.size wr wa) := Lib.hid ((Below.refl _ _).drew.trans hwa); have hcA := fun (p : Addr) (hp : p.block < wr.heap.size) => HWA.out.cell hp; have HRA := Lib.hid hra; have HPA := Lib.hid hpa; obtain ⟨Aa, ca, rfl⟩ := hra.form; clear hra hpa hwa)
                              | (go_at_call 16; refine (HA2.out wa HWA.out).mono ?_; rintro e wb ⟨⟨vb, pb, rfl, hrb, hpb⟩, hwb⟩; have HWB : Hid (Below wr.heap.size wr wb) := Lib.hid (HWA.out.trans (hwb.mono HWA.out.size)); have hcB := fun (p : Addr) (hp : p.block < wr.heap.size) => HWB.out.cell hp; have HRAB := Lib.hid (HRA.out.up hwb); have HRB := Lib.hid hrb; have HPB := Lib.hid hpb; obtain ⟨Ab, cb, rfl⟩ := hrb.form; clear hrb hpb hwb)
                              | (go_at_call 15; refine (sameAllP _ _ pa pb wb HRAB.out HRB.out (by have := pairs_len HPA.out; have := HLE5.out; omega) (by have := pairs_len HPB.out; have := HLE6.out; omega)).mono ?_; rintro e wc ⟨rfl, hwc⟩; have HWC : Hid (Below wr.heap.size wr wc) := Lib.hid (HWB.out.trans (hwc.mono HWB.out.size)); have hcC := fun (p : Addr) (hp : p.block < wr.heap.size) => HWC.out.cell hp; clear hwc; rw [decide_eq_true (show pa.map Pr.p = pb.map Pr.p by rw [HPA.out, HPB.out, HEQ.out])])))
                          all_goals go_wp2_with fail
                          all_goals go_meet
                          all_goals exact ⟨rfl, HWC.out⟩
                        case rest =>
                          obtain ⟨rfl, hbz⟩ := hcut
                          have HBZ := Lib.hid (HBX.out.trans (hbz.mono HBX.out.size))
                          clear hbz c0
                          go_wp2_with fail
                          go_roundg (nm + 1 - (t + 1))
                          case measure => have := HG.out; omega
                          case rel => exact ⟨t + 1, rfl, by omega, by go_num, HBZ.out⟩
                      · have hiM : t = nm + 1 := by omega
                        subst hiM
                        have n2 : ¬ (((nm + 1 : Nat) : Int) < ((nm + 1 : Nat) : Int)) := by omega
                        go_wp2_with fail
                        go_ret
                        exact ⟨by first | rfl | simp, HW6.out.trans (HBK.out.mono HW6.out.size)⟩
end Go.Proofs.Ytfcemlcocdhmfaa
