/- TopPaid: the walk. -/
import Derived.Test.YtbjjgnaojoaoiaaGreatK29
import Derived.Test.YtbjjgnaojoaoiaaGreatK7
namespace Go.Proofs.YtbjjgnaojoaoiaaGreat
open Go.RowKit Go
set_option linter.unusedVariables false
set_option linter.unusedSimpArgs false

def retC (r : Ret) : List Value := [.int .i64 r.per, .int .i64 r.due, .int .i64 r.filed, .int .i64 r.inc, .int .i64 r.wh]
def retCs (l : List Ret) : List Value := l.flatMap retC
theorem retC_len (r : Ret) : (retC r).length = 5 := rfl
theorem Rd.ret {w : World} {B n : Nat} {A : Option Addr} {l : List Ret} (h : Rd w B 5 A n (retCs l)) {k : Nat} (hk : k < l.length) : ∃ b off, A = some ⟨b, off, none⟩ ∧ b < B ∧
    w.cell? ⟨b, off + k * 5, none⟩ = some (.int .i64 l[k].per) ∧ w.cell? ⟨b, off + k * 5 + 1, none⟩ = some (.int .i64 l[k].due) ∧ w.cell? ⟨b, off + k * 5 + 2, none⟩ = some (.int .i64 l[k].filed) ∧ w.cell? ⟨b, off + k * 5 + 3, none⟩ = some (.int .i64 l[k].inc) ∧ w.cell? ⟨b, off + k * 5 + 4, none⟩ = some (.int .i64 l[k].wh) := by
  have hl := flat_len (c := retC) retC_len l
  have hn : l.length * 5 = n * 5 := by rw [← hl]; exact h.1
  obtain ⟨b, off, e, hb, hc⟩ := h.2 (by omega)
  have key : ∀ j, j < 5 → w.cell? ⟨b, off + k * 5 + j, none⟩ = (retC l[k])[j]? := fun j hj => by
    have := hc (k * 5 + j) (by omega)
    rw [← Nat.add_assoc] at this
    exact this.trans (flat_at (c := retC) retC_len hk hj)
  exact ⟨b, off, e, hb, key 0 (by omega), key 1 (by omega), key 2 (by omega), key 3 (by omega), key 4 (by omega)⟩
theorem ufile_enter (u v x : Value) (w : World) : (callFunc 11 #[u, v, x]).run Tryz.prog w = .ok (.enter 11 #[u, v, x]) w := by kernel_rfl
/-- The account of the law, behind some calls. -/
structure Acc1 (w wr : World) (g : Nat) (S : Ac) : Prop where
  own : OwnAt wr 0 g S
  good : Good S
  bel : Below w.heap.size w wr
theorem Acc1.step {w wr w' : World} {g : Nat} {S : Ac} {r : Ac × Mv × Int} {e : Ending} (h : Acc1 w wr g S) (hg : w.heap.size ≤ g) (hd : DoesOf wr g S r e w') (hG : Good r.1) (hS : r.2.2 ≠ 0 → r.1 = S) : Acc1 w w' g r.1 := by
  have hb : Below w.heap.size w w' := ⟨hd.1.os.trans h.bel.os, hd.1.tape.trans h.bel.tape, hd.1.output.trans h.bel.output, Nat.le_trans h.bel.size hd.1.size, fun k hk => (hd.1.block k (Nat.lt_of_lt_of_le hk h.bel.size) (fun e => by have := Option.some.inj e; omega)).trans (h.bel.block k hk)⟩
  rcases hd.2 with ⟨h0, _, ho⟩ | ⟨h0, _, ho⟩
  · exact ⟨ho, hG, hb⟩
  · rw [hS h0]; exact ⟨ho, h.good, hb⟩
theorem Acc1.keeps {w wr w' : World} {g k : Nat} {S : Ac} {r : Ac × Mv × Int} {e : Ending} {o : Obj} (hd : DoesOf wr g S r e w') (hk : wr.heap[k]? = some o) (hne : k ≠ g) : w'.heap[k]? = some o := move_keeps hd hk hne
theorem file_same {S : Ac} {s : Sch} {r : Ret} (h : (fileS S s r).2.2 ≠ 0) : (fileS S s r).1 = S := by
  unfold fileS at h ⊢
  split
  · rfl
  · rename_i h0
    rw [if_neg h0] at h
    split
    · rfl
    · rename_i h1
      rw [if_neg h1] at h
      split
      · rfl
      · rename_i h2
        rw [if_neg h2] at h
        unfold file1 at h ⊢
        split
        · rfl
        · rename_i h3
          rw [if_neg h3] at h
          split
          · rfl
          · rename_i h4
            rw [if_neg h4] at h
            exact absurd rfl h
/-- The first loop's facts. -/
structure FileInv (w wr : World) (g : Nat) (S : Ac) (k : Nat) : Prop where
  acc : Acc1 w wr g S
  day : S.day = 738000
  bp : S.bp = 500
  ms : S.ms = []
  cr : S.cr ≤ k * 1125899906842624
  top : opens (itemsOf S.ps) ≤ k * 117093590311632896
theorem FileInv.step {w wr w' : World} {g k : Nat} {S : Ac} {s : Sch} {r : Ret} {e : Ending} (h : FileInv w wr g S k) (hg : w.heap.size ≤ g) (hd : DoesOf wr g S (fileS S s r) e w') : FileInv w w' g (fileS S s r).1 (k + 1) := by
  obtain ⟨t1, t2, t3, t4, t5, t6⟩ := file_top h.acc.good h.day h.bp s r
  have h1 := h.cr; have h2 := h.top
  refine ⟨h.acc.step hg hd (h.acc.good.file s r) file_same, t1, t2, t3.trans h.ms, by omega, by omega⟩
theorem Acc1.below {w wr w' : World} {g : Nat} {S : Ac} (h : Acc1 w wr g S) (hb : Below wr.heap.size wr w') : Acc1 w w' g S := ⟨h.own.below hb, h.good, h.bel.trans (hb.mono h.bel.size)⟩
/-- The second loop's facts. -/
structure PaidInv (w wr : World) (g : Nat) (S : Ac) (start owed paid : Int) (k : Nat) : Prop where
  acc : Acc1 w wr g S
  n : S.ms.length ≤ k
  ids : ∀ m ∈ S.ms, m.id ≤ k
  bd : 0 ≤ paid ∧ paid ≤ k * 1125899906842624
  opn : opens (itemsOf S.ps) = max (owed - paid) 0
  cr : S.cr = start + max (paid - owed) 0
theorem PaidInv.next {w wr : World} {g : Nat} {S : Ac} {start owed paid : Int} {k : Nat} (h : PaidInv w wr g S start owed paid k) : PaidInv w wr g S start owed paid (k + 1) :=
  ⟨h.acc, by have := h.n; omega, fun m hm => by have := h.ids m hm; omega, by have := h.bd; omega, h.opn, h.cr⟩
theorem PaidInv.below {w wr w' : World} {g : Nat} {S : Ac} {start owed paid : Int} {k : Nat} (h : PaidInv w wr g S start owed paid k) (hb : Below wr.heap.size wr w') : PaidInv w w' g S start owed paid k :=
  ⟨h.acc.below hb, h.n, h.ids, h.bd, h.opn, h.cr⟩
/-- A payment of the law. -/
theorem PaidInv.pay {w wr : World} {g : Nat} {S : Ac} {start owed paid z : Int} {k : Nat} (h : PaidInv w wr g S start owed paid k) (hk : k < 40) (hz : 1 ≤ z ∧ z ≤ 1125899906842624) (hs : 0 ≤ start ∧ start ≤ 11258999068426240) (ho : 0 ≤ owed ∧ owed ≤ 1170935903116328960) (hg : w.heap.size ≤ g) :
    ∃ S' m, payS S ((k : Int) + 1) z = (S', m, 0) ∧ m.cash = z ∧ ∀ w' e, DoesOf wr g S (payS S ((k : Int) + 1) z) e w' → e = .returned (mvR m 0) ∧ PaidInv w w' g S' start owed (paid + z) (k + 1) := by
  have hbd := h.bd; have hcr := h.cr; have hn := h.n
  obtain ⟨ps, e1, e2⟩ := pay_ok (id := (k : Int) + 1) h.acc.good (by omega) hz (by omega) (fun m hm => by have := h.ids m hm; omega) (by omega)
  refine ⟨_, _, e1, rfl, fun w' e hd => ?_⟩
  have hgood := h.acc.good.pay ((k : Int) + 1) z
  rw [e1] at hgood
  have hst := h.acc.step hg hd (h.acc.good.pay _ _) (fun h0 => by rw [e1] at h0; exact absurd rfl h0)
  rw [e1] at hst hd
  have he : e = .returned (mvR ⟨0, 0, 0, z - leftI (itemsOf S.ps) z, leftI (itemsOf S.ps) z, z⟩ 0) := by
    rcases hd.2 with ⟨_, e, _⟩ | ⟨h0, _⟩
    · exact e
    · exact absurd rfl h0
  refine ⟨he, hst, by simp; omega, fun m hm => ?_, by omega, ?_, ?_⟩
  · rcases List.mem_append.1 hm with hm | hm
    · have := h.ids m hm; omega
    · rw [List.mem_singleton.1 hm]; show (k : Int) + 1 ≤ ((k + 1 : Nat) : Int); omega
  · show opens (itemsOf ps) = _
    rw [e2, opens_rest h.acc.good.places (by omega), h.opn]; omega
  · show S.cr + leftI (itemsOf S.ps) z = _
    rw [leftI_is, h.opn, hcr]; omega
set_option maxHeartbeats 6400000 in
set_option maxRecDepth 100000 in
theorem topPaid_walk (A : Option Addr) (n c : Nat) (s : Sch) (A2 : Option Addr) (n2 c2 : Nat) (l : List Ret) (A3 : Option Addr) (n3 c3 : Nat) (zs : List Int) (w : World) (hn : s.bs.length = n) (hr : Rd w w.heap.size 2 A n (brCs s.bs)) (hn2 : l.length = n2) (hr2 : Rd w w.heap.size 5 A2 n2 (retCs l)) (hm2 : n2 ≤ maxLen) (hn3 : zs.length = n3) (hr3 : Rd w w.heap.size 1 A3 n3 (ints zs)) (hm3 : n3 ≤ maxLen) (hzw : ∀ z ∈ zs, -9223372036854775808 ≤ z ∧ z ≤ 9223372036854775807) :
    Calls Tryz.prog 3 #[schV A n c s, .slice A2 n2 c2, .slice A3 n3 c3] w fun e w' => e = .returned (.bool true) ∧ Below w.heap.size w w' := by
  unfold maxLen at hm2 hm3
  have HR := Lib.hid hr; have HR2 := Lib.hid hr2; have HR3 := Lib.hid hr3; have HN2 := Lib.hid hn2; have HN3 := Lib.hid hn3; have HN := Lib.hid hn; have HZW := Lib.hid hzw
  have hb0 : Below w.heap.size w (w.alloc (schO A n c s)) := bnewU _ _
  have hs0 : (w.alloc (schO A n c s)).heap[w.heap.size]? = some (.cells #[.slice A n c, .int .i64 s.ded, .int .i64 s.cred, .int .i64 s.lbp, .int .i64 s.most, .int .i64 s.least] 24 (0, 0)) := blk_new _ _ rfl
  have HB0 := Lib.hid hb0; have HS0 := Lib.hid hs0
  have HNW := Lib.hid (new_yes 738000 500 (w.alloc (schO A n c s)) (by decide) (by decide))
  clear hr hr2 hr3 hn2 hn3 hn hb0 hs0 hzw
  go_enter Tryz.func3, Tryz.ntmps3
  go_wp2_with fail
  refine HNW.out.mono ?_; rintro e w1 ⟨rfl, ho1, hb1⟩
  have hs1 := blk_below HS0.out hb1 (blk_lt HS0.out)
  have hbw1 := HB0.out.trans (hb1.mono HB0.out.size)
  have hg1 := ho1.lt
  obtain ⟨g, hg⟩ : ∃ g, (w.alloc (schO A n c s)).heap.size = g := ⟨_, rfl⟩
  have hgw : w.heap.size < g := by rw [← hg]; simp
  have HGW := Lib.hid hgw
  simp only [World.size_alloc] at hg
  simp only [World.size_alloc, hg] at ho1 hg1 ⊢
  obtain ⟨s0, s1, s2, s3, s4, s5, s6⟩ := cells6U hs1
  have hsl1 := blk_lt hs1
  have HS1 := Lib.hid hs1; have HBW1 := Lib.hid hbw1; have HO1 := Lib.hid ho1
  have HF0 : Hid (FileInv w w1 g (Ac.new 738000 500) 0) := Lib.hid ⟨⟨ho1.mono (Nat.zero_le _), Good.new (by decide) (by decide), hbw1⟩, rfl, rfl, rfl, by show (0 : Int) ≤ _; decide, by decide⟩
  clear hs1 hbw1 ho1 hb1 HNW
  by_cases hn100 : 100 < n
  · have hd : decide ((n : Int) > 100) = true := by simp; omega
    go_wp2_with fail
    all_goals go_ret
    all_goals exact ⟨by rfl, HBW1.out⟩
  · have hd : decide ((n : Int) > 100) = false := by simp; omega
    go_upto_block 0 with fail
    clear s0 s1 s2 s3 s4 s5 s6
    go_cut [9] from 44 to 60 (fun v9 wc => ∃ (k : Nat) (S : Ac), k ≤ 10 ∧ FileInv w wc g S k)
    case first =>
      go_wp2_with fail
      go_loopg [9] n2 (fun gh v9 wr => ∃ (k : Nat) (S : Ac), gh = n2 - k ∧ k ≤ n2 ∧ k ≤ 10 ∧ v9 = .int .i64 k ∧ wr.heap[w.heap.size]? = some (.cells #[.slice A n c, .int .i64 s.ded, .int .i64 s.cred, .int .i64 s.lbp, .int .i64 s.most, .int .i64 s.least] 24 (0, 0)) ∧ FileInv w wr g S k)
      case atStart => exact ⟨0, _, rfl, by omega, by omega, rfl, HS1.out, HF0.out⟩
      case round =>
        obtain ⟨k, S, hgk, hk, hk10, rfl, hsr, hinv⟩ := hrel
        have HG := Lib.hid hgk; have HSR := Lib.hid hsr; have HV := Lib.hid hinv
        by_cases hlt : k < n2
        · by_cases h10 : k < 10
          · have hkl : k < l.length := by have := HN2.out; omega
            obtain ⟨b, off, rfl, hb, c0, c1, c2, c3, c4⟩ := (HR2.out.below hinv.acc.bel).ret hkl
            obtain ⟨s0, s1, s2, s3, s4, s5, s6⟩ := cells6U hsr
            have hsl := blk_lt hsr
            have HFL := Lib.hid (file_any g 0 S A n c s l[k] wr.drew (hinv.acc.own.below (Below.refl _ _).drew) hinv.acc.good HN.out (((HR.out.below hinv.acc.bel).wider hinv.acc.bel.size).below (Below.refl _ _).drew))
            have hd0 : decide ((k : Int) < 10) = true := by simp; omega
            have i1 : (0 : Int) ≤ (k : Int) := by omega
            have i2 : (k : Int) < (n2 : Int) := by omega
            have hstep := Lib.hid (fun w' e (hd : DoesOf wr.drew g S (fileS S s l[k]) e w') => hinv.step (by omega) (hd.ahead (Below.refl wr.heap.size wr).drew))
            have hwl : w.heap.size ≠ g := by omega
            generalize l[k] = r at *
            clear hsr hinv hgk
            go_wp2_with fail
            go_region_law (first
              | (refine step_call3R rfl 11 (.tmp 54) (.tmp 55) (.tmp 59) _ _ _ rfl (.pointer (some ⟨g, 0, none⟩)) (schV A n c s) (retV r) rfl rfl rfl (ufile_enter _ _ _) ?_
                 refine HFL.out.mono ?_; intro e w5 hd
                 have HK := Lib.hid (hstep.out w5 e hd)
                 have HS5 := Lib.hid (move_keeps (w0 := wr.drew) hd HSR.out hwl)
                 obtain ⟨m, er, rfl⟩ := hd.form
                 refine ⟨_, rfl, ?_⟩
                 clear hd))
            all_goals go_wp2_with fail
            all_goals go_roundg (n2 - (k + 1))
            all_goals first
              | exact ⟨k + 1, _, rfl, by omega, by omega, by go_num, HS5.out, HK.out⟩
              | (have := HG.out; omega)
          · have hd0 : decide ((k : Int) < 10) = false := by simp; omega
            clear hsr hinv hgk
            go_wp2_with fail
            all_goals go_meet
            all_goals exact ⟨k, S, hk10, HV.out⟩
        · clear hsr hinv hgk
          go_wp2_with fail
          all_goals go_meet
          all_goals exact ⟨k, S, hk10, HV.out⟩
    case rest =>
      obtain ⟨k, S, hk10, hinv⟩ := hcut
      have hop := items_nn hinv.acc.good
      have hcr := hinv.acc.good.cr
      have hcr2 := hinv.cr
      have htop := hinv.top
      have hms := hinv.ms
      have HCD := Lib.hid (credit_any g 0 S wc hinv.acc.own)
      have HIT := Lib.hid (fun wx (hb : Below wc.heap.size wc wx) => uitems_any g 0 S wx (hinv.acc.own.below hb) hinv.acc.good)
      have HTT := Lib.hid (total_is hinv.acc.good.places (by omega))
      obtain ⟨start, hst⟩ : ∃ x, S.cr = x := ⟨_, rfl⟩
      obtain ⟨owed, how⟩ : ∃ x, opens (itemsOf S.ps) = x := ⟨_, rfl⟩
      rw [hst] at hcr hcr2 HCD
      rw [how] at hop htop HTT
      have HINV := Lib.hid hinv
      have HST := Lib.hid hst; have HOW := Lib.hid how; have HMS := Lib.hid hms
      clear hinv hst how hms
      go_wp2_with fail
      refine HCD.out.mono ?_; rintro e w2 ⟨rfl, hb2⟩
      have HB2 := Lib.hid hb2
      clear hb2 HCD
      go_wp2_with fail
      refine (HIT.out w2 HB2.out).mono ?_; rintro e w3 ⟨Ai, ci, rfl, ho3, hb3⟩
      have hlen3 : (openS S.ps).length ≤ 200 := (placesE_ok (openS_places HINV.out.acc.good.places)).1
      have HTO := Lib.hid (total_any Ai (openS S.ps) (openS S.ps).length ci w3 rfl (Rd.of_own ho3) (by unfold maxLen; omega))
      rw [HTT.out] at HTO
      have HB3 := Lib.hid (HB2.out.trans (hb3.mono HB2.out.size))
      obtain ⟨ln, hln⟩ : ∃ x, (openS S.ps).length = x := ⟨_, rfl⟩
      rw [hln] at HTO ⊢
      clear ho3 hb3 hln hlen3
      go_wp2_with fail
      refine HTO.out.mono ?_; rintro e w4 ⟨rfl, hb4⟩
      have HB4 := Lib.hid (HB3.out.trans (hb4.mono HB3.out.size))
      clear hb4
      have hsb : 0 ≤ start ∧ start ≤ 11258999068426240 := by omega
      have hob : 0 ≤ owed ∧ owed ≤ 1170935903116328960 := by omega
      have HP0 : Hid (PaidInv w w4 g S start owed 0 0) := Lib.hid ⟨HINV.out.acc.below HB4.out, by rw [HMS.out]; decide, fun m hm => by rw [HMS.out] at hm; simp at hm, by omega, by rw [HOW.out]; omega, by rw [HST.out]; omega⟩
      clear HIT HTT HTO HINV HST HOW HMS HB2 HB3 HB4 hop htop hcr hcr2
      go_wp2_with fail
      go_loopg [13, 14] n3 (fun gh v13 v14 wr => ∃ (k : Nat) (S : Ac) (paid : Int), gh = n3 - k ∧ k ≤ n3 ∧ k ≤ 40 ∧ v14 = .int .i64 k ∧ v13 = .int .i64 paid ∧ PaidInv w wr g S start owed paid k)
      case atStart => exact ⟨0, S, 0, rfl, by omega, by omega, rfl, rfl, HP0.out⟩
      case round =>
        obtain ⟨k, S, paid, hgk, hk, hk40, rfl, rfl, hinv⟩ := hrel
        have HG := Lib.hid hgk; have HV := Lib.hid hinv
        clear hgk HP0
        by_cases hlt : k < n3
        · by_cases h40 : k < 40
          · have hkl : k < zs.length := by have := HN3.out; omega
            have hd0 : decide ((k : Int) < 40) = true := by simp; omega
            have i1 : (0 : Int) ≤ (k : Int) := by omega
            have i2 : (k : Int) < (n3 : Int) := by omega
            obtain ⟨b, off, rfl, hb, c0⟩ := (HR3.out.below hinv.acc.bel).num hkl
            have hzw := HZW.out _ (List.getElem_mem hkl)
            have hbel := hinv.acc.bel
            have HRK := Lib.hid (fun wx (hb2 : Below w.heap.size w wx) => by
              have h2 := (HR3.out.below hb2).num2 hkl
              exact h2)
            generalize zs[k] = z at *
            by_cases hz1 : z < 1
            · have hd1 : decide (z < 1) = true := by simpa using hz1
              clear hinv hbel
              go_wp2_with fail
              go_roundg (n3 - (k + 1))
              case measure => have := HG.out; omega
              case rel => exact ⟨k + 1, S, paid, rfl, by omega, by omega, by go_num, rfl, HV.out.next⟩
            · have hd1 : decide (z < 1) = false := by simp; omega
              by_cases hz2 : 1125899906842624 < z
              · have hd2 : decide (z > 1125899906842624) = true := by simp; omega
                clear hinv hbel
                go_wp2_with fail
                go_roundg (n3 - (k + 1))
                case measure => have := HG.out; omega
                case rel => exact ⟨k + 1, S, paid, rfl, by omega, by omega, by go_num, rfl, HV.out.next⟩
              · have hd2 : decide (z > 1125899906842624) = false := by simp; omega
                have hbd := hinv.bd
                obtain ⟨S', m, e1, e2, hpay⟩ := hinv.pay (z := z) h40 (by omega) hsb hob (Nat.le_of_lt HGW.out)
                have HPY := Lib.hid (pay_any0 g 0 S ((k : Int) + 1) z wr hinv.acc.own hinv.acc.good)
                have HPP := Lib.hid hpay
                have hcash := e2
                have hw1 : IntKind.i64.wrap ((k : Int) + 1) = (k : Int) + 1 := IntWalk.i64_in _ (by omega)
                clear hinv hbel hpay e1 e2
                go_wp2_with fail
                refine HPY.out.mono ?_; intro e w5 hd
                obtain ⟨rfl, hinv5⟩ := HPP.out w5 e hd
                clear hd HPY HPP
                obtain ⟨m0, m1, m2, m3, m4, m5⟩ := m
                simp only at hcash
                subst hcash
                have hb6 := hinv5.below (bnewU w5 (.cells #[.int .i64 m0, .int .i64 m1, .int .i64 m2, .int .i64 m3, .int .i64 m4, .int .i64 m5] 33))
                have hmx := blk_new w5 (.cells #[.int .i64 m0, .int .i64 m1, .int .i64 m2, .int .i64 m3, .int .i64 m4, .int .i64 m5] 33) rfl
                go_upto_region 18 with fail
                obtain ⟨gx, hgx⟩ : ∃ gx, w5.heap.size = gx := ⟨_, rfl⟩
                rw [hgx] at hmx ⊢
                generalize w5.alloc (.cells #[.int .i64 m0, .int .i64 m1, .int .i64 m2, .int .i64 m3, .int .i64 m4, .int .i64 m5] 33) = X at *
                obtain ⟨x0, x1, x2, x3, x4, x5, x6⟩ := cells6U hmx
                have c1 := HRK.out X hb6.acc.bel
                have hpl := items_nn hb6.acc.good
                have hop := hb6.opn
                have hcr := hb6.cr
                have hcr2 := hb6.acc.good.cr
                have hbd2 := hb6.bd
                have hw2 : IntKind.i64.wrap (paid + m5) = paid + m5 := IntWalk.i64_in _ (by omega)
                have hw3 : IntKind.i64.wrap (owed - (paid + m5)) = owed - (paid + m5) := IntWalk.i64_in _ (by omega)
                have hw4 : IntKind.i64.wrap (paid + m5 - owed) = paid + m5 - owed := IntWalk.i64_in _ (by omega)
                have HX := Lib.hid hb6
                have HTT := Lib.hid (total_is hb6.acc.good.places (by omega))
                have HIT := Lib.hid (fun wx (hb : Below X.heap.size X wx) => uitems_any g 0 S' wx (hb6.acc.own.below hb) hb6.acc.good)
                have HCD := Lib.hid (fun wx (hb : Below X.heap.size X wx) => credit_any g 0 S' wx (hb6.acc.own.below hb))
                obtain ⟨M, hM⟩ : ∃ M, max (owed - (paid + m5)) 0 = M := ⟨_, rfl⟩
                obtain ⟨C, hC⟩ : ∃ C, S'.cr = C := ⟨_, rfl⟩
                have HM := Lib.hid hM
                have hC2 : start + max (paid + m5 - owed) 0 = C := by rw [← hC, hcr]
                have hC3 : IntKind.i64.wrap (start + max (paid + m5 - owed) 0) = C := by rw [hC2]; exact IntWalk.i64_in _ (by omega)
                have HC3 := Lib.hid hC3
                rw [hop, hM] at HTT
                rw [hC] at HCD
                have hMb : 0 ≤ M ∧ M ≤ 4611686018427387904 := by omega
                have hMd : decide (M < 0) = false := by simp; omega
                have hMn : ((M.natAbs : Nat) : Int) = M := by omega
                have HOF := Lib.hid (fun wx => of_any M wx (by omega))
                rw [hMd, hMn] at HOF
                have HTD := Lib.hid (fun wx => wtold_any false M wx hMb.1 (by unfold big; omega))
                have htd : told (wz false M) = (M, 0) := by
                  have : wz false M = M := rfl
                  rw [this]; exact told_yes (by simp [amt]; omega)
                rw [htd] at HTD
                clear hinv5 hb6 hmx hpl hop hcr hcr2 hM hC hC2 hC3 hMd hMn htd hz1 hz2 hd1 hd2
                go_quiet (fail)
                go_wp2_with fail
                have hbq : Below X.heap.size X (X.drewN nq) := below_drewN (Below.refl _ _) _
                refine (HIT.out _ hbq).mono ?_; rintro e w6 ⟨Ai, ci, rfl, ho6, hb6⟩
                have hlen6 : (openS S'.ps).length ≤ 200 := (placesE_ok (openS_places HX.out.acc.good.places)).1
                have HTO := Lib.hid (total_any Ai (openS S'.ps) (openS S'.ps).length ci w6 rfl (Rd.of_own ho6) (by unfold maxLen; omega))
                rw [HTT.out] at HTO
                have HB6 : Hid (Below X.heap.size X w6) := Lib.hid (hbq.trans (hb6.mono hbq.size))
                obtain ⟨ln6, hln6⟩ : ∃ x, (openS S'.ps).length = x := ⟨_, rfl⟩
                rw [hln6] at HTO ⊢
                clear ho6 hb6 hln6 hlen6 hbq x0 x1 x2 x3 x4 x5 x6 c0 c1
                go_wp2_with fail
                refine HTO.out.mono ?_; rintro e w7 ⟨rfl, hb7⟩
                have HB7 := Lib.hid (HB6.out.trans (hb7.mono HB6.out.size))
                clear hb7
                go_wp2_with fail
                rw [HM.out]
                refine (HOF.out _).mono ?_; rintro e w8 ⟨rfl, hb8⟩
                have HB8 := Lib.hid (HB7.out.trans (hb8.mono HB7.out.size))
                clear hb8
                go_wp2_with fail
                refine (HTD.out _).mono ?_; rintro e w9 ⟨rfl, hb9⟩
                have HB9 : Hid (Below X.heap.size X w9) := Lib.hid ((HB8.out.alloc HB8.out.size _).trans (hb9.mono (by have := HB8.out.size; simp; omega)))
                clear hb9
                go_wp2_with fail
                refine (HCD.out _ HB9.out).mono ?_; rintro e w10 ⟨rfl, hb10⟩
                have HB10 := Lib.hid (HB9.out.trans (hb10.mono HB9.out.size))
                have hC3 := HC3.out
                clear hb10
                go_wp2_with fail
                go_roundg (n3 - (k + 1))
                case measure => have := HG.out; omega
                case rel => exact ⟨k + 1, S', paid + m5, rfl, by omega, by omega, by go_num, rfl, HX.out.below HB10.out⟩
          · have hd0 : decide ((k : Int) < 40) = false := by simp; omega
            clear hinv
            go_wp2_with fail
            all_goals go_ret
            all_goals exact ⟨rfl, HV.out.acc.bel⟩
        · clear hinv
          go_wp2_with fail
          all_goals go_ret
          all_goals exact ⟨rfl, HV.out.acc.bel⟩
end Go.Proofs.YtbjjgnaojoaoiaaGreat
