/- The walk of SkipTurned. -/
import Derived.Test.YtpgbinijocbfmaaTU3
import Derived.Test.YtpgbinijocbfmaaP9
import Derived.Maps.Own
import Derived.Maps.RangeWalk
import Derived.WalkKit
namespace Go.Proofs.Ytpgbinijocbfmaa
open Go.RowKit Go Go.Maps Go.WideMaps
set_option linter.unusedVariables false
set_option linter.unusedSimpArgs false

theorem lawS : Keyed Try.prog 9 := string_keyed Try.underlying9
abbrev IM (w : World) (b n : Nat) : Prop := ∃ D : DataW Unit, w.ownsMap Try.prog 9 (plainElem Try.prog 3) b n D
theorem own_kept {w w' : World} {B s n : Nat} {e : TypeId} {v : Value} {xs : List Value} {row : Option Nat} (h : w.ownsRow B e s v n xs) (hg : w.grownBy w' row) (hne : ∀ b, v.ownBlock = some b → some b ≠ row) : w'.ownsRow B e s v n xs := by
  refine ⟨h.1, ?_⟩
  rcases h.2 with h2 | ⟨g, cap, cur, rfl, hb, hc, r⟩
  · exact .inl h2
  · exact .inr ⟨g, cap, cur, rfl, hb, (hg.block g (blk_lt hc) (hne g rfl)).trans hc, r⟩
theorem Rd.numT {w : World} {B n : Nat} {A : Option Addr} {d : List Int} (h : Rd w B 1 A n (ints d)) {k : Nat} (hk : k < d.length) : ∃ b off, A = some ⟨b, off, none⟩ ∧ b < B ∧ w.cell? ⟨b, off + k, none⟩ = some (.int .i64 d[k]) := by
  have hl := h.1
  have hn : n = d.length := by simpa [ints] using hl.symm
  obtain ⟨b, off, e, hb, hc⟩ := h.2 (by omega)
  exact ⟨b, off, e, hb, (hc k (by omega)).trans (by simp [ints, hk])⟩
theorem item_one {A A' : Option Addr} {n n' c c' : Nat} {s d : Int} {b : Bool} : ∀ u ∈ (#[.slice A n c, .int .i64 s, .bool b, .slice A' n' c', .int .i64 d] : Array Value).toList, u.oneCell' = true := by
  intro u hu; simp at hu; rcases hu with rfl | rfl | rfl | rfl | rfl <;> rfl
/-- A map's block is no row's. -/
theorem map_row {w : World} {H : Type} {P : Program} {k : TypeId} {R : Value → Option (DataW H × List MemPlace)} {g n B s m : Nat} {D : DataW H} {e : TypeId} {v : Value} {xs : List Value} (h : w.ownsMap P k R g n D) (ho : w.ownsRow B e s v m xs) : some g ≠ v.ownBlock := by
  intro e
  obtain ⟨es, cl, h1, _⟩ := h
  obtain ⟨_, cs, h2⟩ := own_block_type ho e.symm
  rw [h1] at h2; simp at h2
/-- One item more, laid first in a block of its own; the map stays. -/
theorem app_it {ops : Array Oper} {rest : List Oper} {o : Oper} {a : Act} {Q : Exit → Act → World → Prop} (hgd : o.guard = none) (s x : Operand)
    (ho : o.op = .call { callee := .builtin .append, args := #[s, x], argTypes := #[22, 22] })
    (w3 w : World) (gm n k : Nat) (D : DataW Unit) (v : Value) (xs : List Value) (A A' : Option Addr) (m c m' c' : Nat) (sq d : Int) (b : Bool) (hs : a.eval s = v) (hx : a.eval x = .slice (some ⟨w.heap.size, 0, none⟩) 1 1)
    (hO : w.ownsRow w3.heap.size 37 5 v k xs) (hM : w.ownsMap Try.prog 9 (plainElem Try.prog 3) gm n D) (hB : Below w3.heap.size w3 w) (hk : k ≤ 1000000)
    (h : ∀ v' w', w'.ownsRow w3.heap.size 37 5 v' (k + 1) (xs ++ [.slice A m c, .int .i64 sq, .bool b, .slice A' m' c', .int .i64 d]) → w'.ownsMap Try.prog 9 (plainElem Try.prog 3) gm n D → Below w3.heap.size w3 w' → wpList Try.prog ops Q rest (a.put o.dst v') w') :
    wpList Try.prog ops Q (o :: rest) a (w.alloc (.cells #[.slice A m c, .int .i64 sq, .bool b, .slice A' m' c', .int .i64 d] 37)) := by
  obtain ⟨i0, hi, hz0, hz1, hz2⟩ := info_parts item_info
  have hsz : w3.heap.size ≤ (w.alloc (.cells #[.slice A m c, .int .i64 sq, .bool b, .slice A' m' c', .int .i64 d] 37)).heap.size := Nat.le_trans hB.size (by simp)
  have hO' := World.ownsRow.alloc hO (.cells #[.slice A m c, .int .i64 sq, .bool b, .slice A' m' c', .int .i64 d] 37)
  have hM' := hM.alloc (.cells #[.slice A m c, .int .i64 sq, .bool b, .slice A' m' c', .int .i64 d] 37)
  refine wpList_app hgd s x _ ho w3.heap.size 37 i0 _ 5 72 Try.underlying22 hi hz0 hz1 hz2 rfl (by omega) v k xs hs hO' _ (some ⟨w.heap.size, 0, none⟩) 1 1 _ hx (Rd.fresh w #[.slice A m c, .int .i64 sq, .bool b, .slice A' m' c', .int .i64 d] 37 1 5 rfl) item_one (by unfold maxLen; omega) (by omega) hsz ?_
  intro v6 w6 hO6 hgr _
  exact h v6 w6 hO6 (hM'.kept hgr (map_row hM' hO')) ((hB.alloc hB.size _).grown hgr hsz (fun j hj => (own_block_type hO hj).1))
theorem str_size (l : List UInt8) : (strOfNums (nums l)).size = l.length := by
  rw [strOfNums_size, nums_len]
set_option maxHeartbeats 30000000 in
set_option maxRecDepth 100000 in
theorem skipTurned_walk (A : Option Addr) (its : List It) (c : Nat) (Ad : Option Addr) (ds : List Int) (cd : Nat) (w : World) (h : ItemsAt w A its) (hd : Rd w w.heap.size 1 Ad ds.length (ints ds)) (hdw : ∀ z ∈ ds, -9223372036854775808 ≤ z ∧ z ≤ 9223372036854775807) :
    Calls Try.prog 6 #[.slice A its.length c, .slice Ad ds.length cd] w fun e w' => e = .returned (.bool true) ∧ Below w.heap.size w w' := by
  have HI := Lib.hid h; have HD := Lib.hid hd; have HDW := Lib.hid hdw
  clear h hd hdw
  have hmm := @run_makeMap Try.prog
  obtain ⟨i0, hi, hz0, hz1, hz2⟩ := info_parts item_info
  have hi' := Lib.hid hi; clear hi
  go_enter Try.func6, Try.ntmps6
  go_wp2_with fail
  refine (awake_any _).mono ?_; rintro e w1 ⟨rfl, hw1⟩
  have HW1 := Lib.hid hw1; clear hw1
  go_wp2_with fail
  refine (much2_any A its c w1 (HI.out.up HW1.out)).mono ?_; rintro e w2 ⟨m, rfl, hm, n, rfl⟩
  have HM := Lib.hid hm; clear hm
  cases m with
  | true =>
    go_wp2_with fail
    go_ret
    exact ⟨rfl, below_drewN HW1.out n⟩
  | false =>
    obtain ⟨hN, hKL⟩ := HM.out rfl
    have HKL := Lib.hid hKL
    clear hKL HM
    obtain ⟨N, hN0⟩ : ∃ N, its.length = N := ⟨_, rfl⟩
    have HN := Lib.hid hN0
    rw [hN0] at hN ⊢
    clear hN0
    have HW0 : Hid (Below w.heap.size w (w1.drewN n)) := below_drewN HW1.out n
    generalize w1.drewN n = wa at *
    go_wp2_with fail
    refine (new_any wa).mono ?_; rintro e w2 ⟨L1, rfl, hs1, hb1⟩
    have HS1 := Lib.hid hs1; have HB1 := Lib.hid hb1
    clear hs1 hb1
    unfold ptr
    go_wp2_with fail
    refine (new_any w2).mono ?_; rintro e w3 ⟨L2, rfl, hs2, hb2⟩
    have HT0 : Hid (Two wa w3.heap.size w3.heap.size w3 L1 [] 0 L2 [] 0) := Lib.hid (Two.start HS1.out HB1.out hs2 hb2 (Nat.le_refl _) (Nat.le_refl _))
    clear HS1 HB1 hs2 hb2
    unfold ptr
    go_wp2_with fail
    have HM0 : Hid (IM (w3.alloc (.map #[] 0)) w3.heap.size 0) := Lib.hid ⟨.map [], World.ownsMap_made w3 Try.prog 9 _⟩
    have HB0 : Hid (Below w3.heap.size w3 (w3.alloc (.map #[] 0))) := Lib.hid ((Below.refl w3.heap.size w3).alloc (Nat.le_refl _) _)
    generalize w3.alloc (.map #[] 0) = wm at *
    obtain ⟨gm, hgm⟩ : ∃ gm, gm = w3.heap.size := ⟨_, rfl⟩
    rw [← hgm] at HM0 ⊢
    have HGM := Lib.hid hgm
    clear hgm
    go_loopg [10, 11] N (fun g vo vi wr => ∃ (k : Nat), g = N - k ∧ k ≤ N ∧ vi = .int .i64 k ∧ wr.ownsRow w3.heap.size 37 5 vo k (itCells ((onc its).take k)) ∧ IM wr gm k ∧ Below w3.heap.size w3 wr)
    case atStart => exact ⟨0, rfl, Nat.zero_le _, rfl, World.ownsRow_nil _ _ _ _, HM0.out, HB0.out⟩
    case round =>
      obtain ⟨k, hg, hk, rfl, ho, hm, hb⟩ := hrel
      clear HM0 HB0
      have HG := Lib.hid hg; have HO := Lib.hid ho; have HMM := Lib.hid hm; have HB := Lib.hid hb
      have hbw : Below w.heap.size w wr := (HW0.out.trans (HT0.out.below.mono HW0.out.size)).trans (hb.mono (by have := HW0.out.size; have := HT0.out.below.size; omega))
      have HBW := Lib.hid hbw
      obtain ⟨Ao, co, rfl, _⟩ := own_form ho
      clear hg ho hm hb hbw
      by_cases hlt : k < N
      · have hkl : k < its.length := by rw [HN.out]; exact hlt
        obtain ⟨b, off, rfl, hbl, _⟩ := HI.out.1 (by omega)
        obtain ⟨c0, c1, c2, c3, c4⟩ := item_at HI.out HBW.out hkl
        have hok0 := HI.out.2 _ (List.getElem_mem hkl)
        have hok := hok0.up HBW.out
        have hon := onc_at its hkl
        obtain ⟨it, hit⟩ : ∃ it, its[k] = it := ⟨_, rfl⟩
        rw [hit] at c0 c1 c2 c3 c4 hok hok0 hon
        obtain ⟨⟨Ak, ck, ek, hrk⟩, ⟨Av, cv, ev, hrv⟩, hdr⟩ := hok
        rw [ek] at c0; rw [ev] at c3
        have HK : Hid (Bs wr wr.heap.size (.slice Ak it.r.key.length ck) it.r.key) := Lib.hid ⟨Ak, ck, rfl, hrk⟩
        have HV : Hid (Bs wr wr.heap.size (.slice Av it.r.val.length cv) it.r.val) := Lib.hid ⟨Av, cv, rfl, hrv⟩
        have HKK : Hid (it.r.key.length ≤ 2000) := Lib.hid (by rw [← hit]; exact HKL.out _ (List.getElem_mem hkl))
        have HON := Lib.hid hon; have HOK := Lib.hid hok0; have EK := Lib.hid ek; have EV := Lib.hid ev
        clear hrk hrv hon hok0 ek ev hit hdr
        have i1 : (0 : Int) ≤ (k : Int) := by omega
        have i2 : (k : Int) < (N : Int) := by omega
        have hbe := (Below.refl wr.heap.size wr).alloc (Nat.le_refl _) (.cells #[.slice Ak it.r.key.length ck, .int .i64 ((k : Int) + 1), .bool it.r.del, .slice Av it.r.val.length cv, .int .i64 it.draw] 37)
        have k1 := (HK.out.up hbe).conv
        have hsl : (strOfNums (nums it.r.key)).size ≤ maxLen := by rw [str_size]; have := HKK.out; unfold maxLen; omega
        have hkey := keyOf_string_mk (P := Try.prog) (k := 9) Try.underlying9 hsl
        obtain ⟨D, hD⟩ := HMM.out
        have HOA := Lib.hid (World.ownsRow.alloc (o := .cells #[.slice Ak it.r.key.length ck, .int .i64 ((k : Int) + 1), .bool it.r.del, .slice Av it.r.val.length cv, .int .i64 it.draw] 37) HO.out)
        have HMA := Lib.hid (hD.alloc (.cells #[.slice Ak it.r.key.length ck, .int .i64 ((k : Int) + 1), .bool it.r.del, .slice Av it.r.val.length cv, .int .i64 it.draw] 37))
        have hgml : gm < wr.heap.size := hD.lt
        have q1 : Hid (k + 1 ≤ maxLen) := Lib.hid (by unfold maxLen; omega)
        have q2 : Hid ((k + 1) * 72 ≤ 140737488355328) := Lib.hid (by omega)
        clear hD hbe
        go_wp2_with (first
          | (at_mapUpdate; go_loud (refine wpList_mapUpdate_own _ rfl _ _ _ 48 rfl 9 3 lawS Try.underlying48 _ gm k _ rfl HMA.out (by unfold maxLen; omega) _ _ _ rfl rfl hkey _ [] (plainElem_int Try.underlying3 (WalkArith.wf_i64 (by omega))) ?_); intro w4 hown4 hgr4
             have hne : some wr.heap.size ≠ some gm := fun e => by have := Option.some.inj e; omega
             have hbx := grow_x hgr4 (blk_new wr (.cells #[.slice Ak it.r.key.length ck, .int .i64 ((k : Int) + 1), .bool it.r.del, .slice Av it.r.val.length cv, .int .i64 it.draw] 37) rfl) hne
             obtain ⟨x0, x1, x2, x3, x4, x5⟩ := cells5 hbx
             have HM4 := Lib.hid hown4
             have HO4 := Lib.hid (own_kept HOA.out hgr4 (fun b hb e => map_row HMA.out HOA.out (by rw [hb, ← e])))
             have HB4 := Lib.hid (((HB.out.alloc HB.out.size (.cells #[.slice Ak it.r.key.length ck, .int .i64 ((k : Int) + 1), .bool it.r.del, .slice Av it.r.val.length cv, .int .i64 it.draw] 37)).grown hgr4 (Nat.le_trans HB.out.size (by simp)) (fun j hj => by injection hj with hj; rw [← hj, HGM.out]; exact Nat.le_refl _)))
             clear hown4 hgr4 hne hbx)
          | (at_builtin; go_loud (refine app_it rfl (.tmp 58) (.tmp 60) rfl w3 w4 gm _ k _ (.slice Ao k co) (itCells ((onc its).take k)) Ak Av it.r.key.length ck it.r.val.length cv ((k : Int) + 1) it.draw it.r.del (by rfl) (by rfl) HO4.out HM4.out HB4.out (by omega) ?_)
             intro v6 w6 hO6 hM6 hB6
             obtain ⟨A6, c6, rfl, _⟩ := own_form hO6
             have HO6 := Lib.hid hO6; have HM6 := Lib.hid hM6; have HB6 := Lib.hid hB6
             clear hO6 hM6 hB6)
          | go_in)
        go_roundg (N - (k + 1))
        case measure => have := HG.out; omega
        case rel => exact ⟨k + 1, rfl, by omega, by go_num, by
            rw [List.take_succ_eq_append_getElem (by rw [onc_len]; exact hkl), itCells_app, HON.out, EK.out, EV.out]; simpa [itCells, It.cells] using HO6.out, ⟨_, HM6.out⟩, HB6.out⟩
      · have hkN : k = N := by omega
        subst hkN
        have n1 : ¬ ((k : Int) < (k : Int)) := by omega
        have htk : (onc its).take k = onc its := List.take_of_length_le (by rw [onc_len, HN.out]; exact Nat.le_refl _)
        rw [htk] at HO
        have hbw : Below wa.heap.size wa wr := HT0.out.below.trans (HB.out.mono HT0.out.below.size)
        have HT1 := Lib.hid (HT0.out.apart HB.out)
        have hIA : ItemsAt wr Ao (onc its) := by
          have hr := Rd.of_own HO.out
          refine ItemsAt.of_rd (by rw [onc_len, HN.out]; exact hr) fun i hi => ?_
          obtain ⟨j, hj, rfl⟩ := List.getElem_of_mem hi
          rw [onc_len] at hj
          have := (HI.out.2 _ (List.getElem_mem hj)).up HBW.out
          rw [onc_at its hj]; exact this
        have HIA := Lib.hid hIA
        have hAo : ∀ b off, Ao = some ⟨b, off, none⟩ → w3.heap.size ≤ b := fun b off e => by
          subst e; exact (own_block_type HO.out rfl).1
        have HAO := Lib.hid hAo
        have HMM2 := HMM
        clear htk hbw hIA hAo HB HO HG HMM HT0
        go_wp2_with fail
        generalize wr = wl at *
        clear n1
        go_loopg [13] k (fun g vi wx => ∃ (j : Nat) (rs1 rs2 : List Rc) (h1 h2 : Nat), g = k - j ∧ j ≤ k ∧ vi = .int .i64 j ∧ Two wa w3.heap.size wl.heap.size wx L1 rs1 h1 L2 rs2 h2 ∧ Put1 its j rs1 ∧ Put2 its j rs2 ∧ rs1.length ≤ j ∧ rs2.length ≤ j ∧ (∀ b, w3.heap.size ≤ b → b < wl.heap.size → wx.heap[b]? = wl.heap[b]?))
        case atStart => exact ⟨0, [], [], 0, 0, rfl, Nat.zero_le _, rfl, HT1.out, Put1.start its, Put2.start its, Nat.le_refl _, Nat.le_refl _, fun _ _ _ => rfl⟩
        case round =>
          obtain ⟨j, rs1, rs2, h1, h2, hg, hj, rfl, ht, hp1, hp2, hl1, hl2, hkb⟩ := hrel
          clear HT1
          have HG := Lib.hid hg; have HT := Lib.hid ht; have HP1 := Lib.hid hp1; have HP2 := Lib.hid hp2; have HKB := Lib.hid hkb
          have HBX : Hid (Below w.heap.size w wr) := Lib.hid (HW0.out.trans (ht.below.mono HW0.out.size))
          clear hg ht hp1 hp2 hkb
          by_cases hlt : j < k
          · obtain ⟨J, hJ⟩ : ∃ J, J + j + 1 = k := ⟨k - 1 - j, by omega⟩
            have jj1 : IntKind.i64.wrap ((k : Int) - 1) = (k : Int) - 1 := IntWalk.i64_in _ (by omega)
            have jj2 : IntKind.i64.wrap ((k : Int) - 1 - (j : Int)) = (J : Int) := by rw [IntWalk.i64_in _ (by omega)]; omega
            have hjl : j < (onc its).length := by rw [onc_len, HN.out]; exact hlt
            have hJl : J < (onc its).length := by rw [onc_len, HN.out]; omega
            obtain ⟨b, off, rfl, hbl, hcl⟩ := HIA.out.1 (by omega)
            have hlo := HAO.out b off rfl
            obtain ⟨c0, c1, c2, c3, c4⟩ := hcl j hjl
            obtain ⟨d0, d1, d2, d3, d4⟩ := hcl J hJl
            have hcc := fun (wy : World) (hy : ∀ b, w3.heap.size ≤ b → b < wl.heap.size → wy.heap[b]? = wl.heap[b]?) (o : Nat) => World.cell?_of_block (a := ⟨b, o, none⟩) (hy b hlo hbl)
            have HCC := Lib.hid hcc
            have hej : (onc its)[j]? = some (onc its)[j] := List.getElem?_eq_getElem hjl
            have heJ : (onc its)[J]? = some (onc its)[J] := List.getElem?_eq_getElem hJl
            have okj := HIA.out.2 _ (List.getElem_mem hjl)
            have okJ := HIA.out.2 _ (List.getElem_mem hJl)
            have hoj : It.ok wr (onc its)[j] := by
              have hjn : j < its.length := by rw [HN.out]; exact hlt
              have := (HI.out.2 _ (List.getElem_mem hjn)).up HBX.out
              rw [onc_at its hjn]; exact this
            have hoJ : ∀ wy, Below w.heap.size w wy → It.ok wy (onc its)[J] := fun wy hwy => by
              have hjn : J < its.length := by rw [HN.out]; omega
              have := (HI.out.2 _ (List.getElem_mem hjn)).up hwy
              rw [onc_at its hjn]; exact this
            generalize (onc its)[j] = x at *
            generalize (onc its)[J] = y at *
            have EJ := Lib.hid hej; have EJJ := Lib.hid heJ; have OX := Lib.hid hoj; have OY := Lib.hid hoJ
            clear hej heJ okj okJ hoj hoJ hcl hcc hJl hjl
            have e0 := (HCC.out wr HKB.out _).trans c0; have e1 := (HCC.out wr HKB.out _).trans c1; have e2 := (HCC.out wr HKB.out _).trans c2; have e3 := (HCC.out wr HKB.out _).trans c3; have e4 := (HCC.out wr HKB.out _).trans c4
            have D0 := Lib.hid d0; have D1 := Lib.hid d1; have D2 := Lib.hid d2; have D3 := Lib.hid d3
            have C0 := Lib.hid c0; have C1 := Lib.hid c1; have C2 := Lib.hid c2; have C3 := Lib.hid c3; have C4 := Lib.hid c4
            clear c0 c1 c2 c3 c4 d0 d1 d2 d3 d4
            have i1 : (0 : Int) ≤ (j : Int) := by omega
            have i2 : (j : Int) < (k : Int) := by omega
            have i3 : (0 : Int) ≤ (J : Int) := by omega
            have i4 : (J : Int) < (k : Int) := by omega
            have hbw : b < wr.heap.size := by have := HT.out.top; omega
            go_upto_if 76 with fail
            go_cut [15] from 62 to 114 (fun v15 wz => ∃ dr : Int, v15 = .int .i64 dr ∧ (-9223372036854775808 ≤ dr ∧ dr ≤ 9223372036854775807) ∧ wz = wr)
            case first =>
              by_cases hd : j < ds.length
              · have hd' : (j : Int) < (ds.length : Int) := by omega
                have hdm := HDW.out _ (List.getElem_mem hd)
                obtain ⟨bd, od, rfl, hbd, s0⟩ := ((HD.out.below HBX.out).wider HBX.out.size).numT hd
                generalize ds[j] = dr at *
                go_wp2_with fail
                go_meet
                exact ⟨dr, rfl, hdm, rfl⟩
              · have hd' : ¬ (j : Int) < (ds.length : Int) := by omega
                go_wp2_with fail
                go_meet
                exact ⟨0, rfl, by omega, rfl⟩
            case rest =>
              obtain ⟨dr, rfl, hdr, rfl⟩ := hcut
              have HDR := Lib.hid hdr
              clear hdr
              go_wp2_with fail
              go_cut [16] from 62 to 114 (fun v16 wz => ∃ (cx : Int) (rs1' : List Rc) (h1' : Nat), v16 = .int .i64 cx ∧ putS rs1 h1 x.r x.draw = (cx, rs1', h1') ∧ Two wa w3.heap.size wl.heap.size wz L1 rs1' h1' L2 rs2 h2 ∧ (∀ b, w3.heap.size ≤ b → b < wl.heap.size → wz.heap[b]? = wl.heap[b]?))
              case first =>
                go_region_held3 (fun w' => w'.cell? ⟨b, off + j * 5, none⟩ = some x.kv ∧ w'.cell? ⟨b, off + j * 5 + 1, none⟩ = some (.int .i64 x.r.seq) ∧ w'.cell? ⟨b, off + j * 5 + 2, none⟩ = some (.bool x.r.del) ∧ w'.cell? ⟨b, off + j * 5 + 3, none⟩ = some x.vv ∧ w'.cell? ⟨b, off + j * 5 + 4, none⟩ = some (.int .i64 x.draw))
                  ((first | (with_reducible exact ⟨e0, e1, e2, e3, e4⟩) | exact ⟨e0, e1, e2, e3, e4⟩ | exact hcy))
                  ((go_at_call 10; refine (two_put (HT.out.up (Below.refl _ _).drew) (by omega) x.kv x.vv x.r x.draw (OX.out.1.up (Below.refl _ _).drew) (OX.out.2.1.up (Below.refl _ _).drew) OX.out.2.2).mono ?_; rintro e w4 ⟨cx, rs1', h1', rfl, hp, ht, hkb⟩; have hkb' : ∀ b, w3.heap.size ≤ b → b < wl.heap.size → w4.heap[b]? = wl.heap[b]? := fun b h1 h2 => (hkb b h1 h2).trans (HKB.out b h1 h2); have hcy := And.intro ((HCC.out w4 hkb' _).trans C0.out) (And.intro ((HCC.out w4 hkb' _).trans C1.out) (And.intro ((HCC.out w4 hkb' _).trans C2.out) (And.intro ((HCC.out w4 hkb' _).trans C3.out) ((HCC.out w4 hkb' _).trans C4.out)))); have HP := Lib.hid hp; have HT4 := Lib.hid ht; have HKB4 := Lib.hid hkb'; clear hp ht hkb hkb'))
                all_goals go_wp2_with fail
                all_goals go_meet
                all_goals exact ⟨cx, rs1', h1', rfl, HP.out, HT4.out, HKB4.out⟩
              case rest =>
                obtain ⟨cx, rs1', h1', rfl, hp, ht4, hkb4⟩ := hcut
                obtain ⟨hcx, hmx⟩ := putS_mem hp (HP1.out.apart EJ.out)
                have HP1' := Lib.hid (HP1.out.step EJ.out hmx)
                have hl1' := (putS_inv hp HT.out.r1 HT.out.hh1).2.1
                have HT4 := Lib.hid ht4; have HKB4 := Lib.hid hkb4
                have hbx4 : Below w.heap.size w wc := HW0.out.trans (ht4.below.mono HW0.out.size)
                have f0 := (HCC.out wc hkb4 _).trans D0.out; have f1 := (HCC.out wc hkb4 _).trans D1.out; have f2 := (HCC.out wc hkb4 _).trans D2.out; have f3 := (HCC.out wc hkb4 _).trans D3.out
                obtain ⟨oy1, oy2, _⟩ := OY.out wc hbx4
                have HPUT := Lib.hid (two_put HT4.out.symm (by omega) y.kv y.vv y.r dr oy1 oy2 HDR.out)
                have hbw4 : b < wc.heap.size := by have := HT4.out.top; omega
                have HL1 := Lib.hid (Nat.le_trans hl1' (Nat.succ_le_succ hl1))
                clear hp hmx hl1' ht4 hkb4 hbx4 oy1 oy2 e0 e1 e2 e3 e4 hbw hl1
                go_wp2_with fail
                refine HPUT.out.mono ?_
                rintro e w5 ⟨cy, rs2', h2', rfl, hp, ht5, hkb5⟩
                have hJj : its.length - 1 - j = J := by rw [HN.out]; omega
                have hEJ : (onc its)[its.length - 1 - j]? = some y := by rw [hJj]; exact EJJ.out
                obtain ⟨hcy, hmy⟩ := putS_mem hp (HP2.out.apart (by rw [HN.out]; exact hlt) hEJ)
                have HP2' := Lib.hid (HP2.out.step (by rw [HN.out]; exact hlt) hEJ hmy)
                have hl2' := (putS_inv hp HT4.out.r2 HT4.out.hh2).2.1
                have HL2 := Lib.hid (Nat.le_trans hl2' (Nat.succ_le_succ hl2))
                have HT5 := Lib.hid ht5.symm
                have HKB5 : Hid (∀ b, w3.heap.size ≤ b → b < wl.heap.size → w5.heap[b]? = wl.heap[b]?) := Lib.hid (fun b h1 h2 => (hkb5 b h1 h2).trans (HKB4.out b h1 h2))
                clear hp hmy hl2' ht5 hkb5 hJj hEJ f0 f1 f2 f3 hbw4 hl2 HPUT
                rcases hcx with rfl | rfl <;> rcases hcy with rfl | rfl <;>
                  (go_wp2_with fail
                   go_roundg (k - (j + 1))
                   (case measure => have := HG.out; omega)
                   (case rel => exact ⟨j + 1, rs1', rs2', h1', h2', rfl, by omega, by go_num, HT5.out, HP1'.out, HP2'.out, HL1.out, HL2.out, HKB5.out⟩))
          · have hjk : j = k := by omega
            subst hjk
            have HP1N : Hid (Put1 its its.length rs1) := Lib.hid (by rw [HN.out]; exact HP1.out)
            have HP2N : Hid (Put2 its its.length rs2) := Lib.hid (by rw [HN.out]; exact HP2.out)
            have hrs := put_both HP1N.out HP2N.out HT.out.sorted.1 HT.out.sorted.2
            subst hrs
            have n1 : ¬ ((j : Int) < (j : Int)) := by omega
            have hrl : rs1.length ≤ 1000 := by omega
            have HRL := Lib.hid hrl
            have HBX0 := Lib.hid (HW0.out.trans (HT.out.below.mono HW0.out.size))
            have HF1 := Lib.hid (two_from HT.out (by omega) [] 2000 (.slice none 0 0) Bs.nil (by omega))
            have HF2 := Lib.hid (fun (wy : World) (hy : Below wr.heap.size wr wy) => two_from (HT.out.up hy).symm (by omega) [] 2000 (.slice none 0 0) Bs.nil (by omega))
            clear hrl
            go_wp2_with fail
            refine HF1.out.mono ?_
            rintro e w4 ⟨v4, rfl, ht4⟩
            obtain ⟨A4, n4, c4, rfl⟩ := told_form ht4
            have hb4 : Below wr.heap.size wr w4 := by obtain ⟨_, _, _, _, h⟩ := ht4; exact h
            have HB4 := Lib.hid hb4
            have HT4 := Lib.hid ht4
            have HF2' := Lib.hid (HF2.out w4 hb4)
            clear ht4 hb4 HF2 HF1
            go_wp2_with fail
            refine HF2'.out.mono ?_
            rintro e w5 ⟨v5, rfl, ht5⟩
            obtain ⟨A5, n5, c5, rfl⟩ := told_form ht5
            have hb5 : Below w4.heap.size w4 w5 := by obtain ⟨_, _, _, _, h⟩ := ht5; exact h
            have HSA := Lib.hid (told_same2 (HT4.out.below hb5) ht5 (by have := from_len rs1 [] 2000; have := HRL.out; omega))
            have HB5 := Lib.hid (HB4.out.trans (hb5.mono HB4.out.size))
            clear ht5 hb5 HF2' HT4 HB4
            go_wp2_with fail
            refine HSA.out.mono ?_
            rintro e w6 ⟨rfl, hb6⟩
            have HB6 := Lib.hid (HB5.out.trans (hb6.mono HB5.out.size))
            have HT6 := Lib.hid (HT.out.up HB6.out)
            clear hb6 HSA HB5
            have HLEN1 := Lib.hid (two_len HT6.out); have HLEN2 := Lib.hid (two_len HT6.out.symm)
            have HSZ1 := Lib.hid (two_size HT6.out); have HSZ2 := Lib.hid (two_size HT6.out.symm)
            go_wp2_with fail
            refine HLEN1.out.mono ?_; rintro e w' ⟨rfl, rfl⟩
            go_wp2_with fail
            refine HLEN2.out.mono ?_; rintro e w' ⟨rfl, rfl⟩
            go_wp2_with fail
            refine HSZ1.out.mono ?_; rintro e w' ⟨rfl, rfl⟩
            go_wp2_with fail
            refine HSZ2.out.mono ?_; rintro e w' ⟨rfl, rfl⟩
            obtain ⟨D, hD⟩ := HMM2.out
            have hgl : gm < wl.heap.size := hD.lt
            have hD6 := own_map_blk hD (w' := w') ((HB6.out.block gm (by have := HT.out.top; omega)).trans (HKB.out gm (by rw [HGM.out]; exact Nat.le_refl _) hgl))
            have HD6 := Lib.hid hD6
            clear hD hD6 HLEN1 HLEN2 HSZ1 HSZ2
            clear HT HKB HB6
            go_wp2_with (first
              | (at_range; go_loud (refine wpList_range_own _ rfl _ 48 rfl 9 3 lawS Try.underlying48 _ gm j D rfl HD6.out ?_); intro w8 hrg0 hg0 hs0)
              | go_in)
            go_frame
            have hb8 : Below w'.heap.size w' w8 := (Below.refl _ _).grown hg0 (Nat.le_refl _) (fun i hi => by simp at hi)
            have HT8 : Hid (Two wa w'.heap.size (w'.heap.size + 1) w8 L1 rs1 h1 L2 rs1 h2) := Lib.hid (by have := HT6.out.apart hb8; rwa [hs0] at this)
            have HR8 := Lib.hid hrg0
            have hwaw : wa.heap.size ≤ w'.heap.size := HT6.out.below.size
            generalize w'.heap.size = rr at *
            have hcv := fun (wy : World) (s : ByteArray) => Lib.run_convert_string_bytes (P := Try.prog) wy 9 33 5 s Try.underlying9 Try.underlying33 Try.underlying5
            clear hb8 hg0 hs0 hrg0 HD6 HT6 HBX0
            go_loopg [] (Maps.size D) (fun g wx => ∃ (left : Lit → Bool) (cnt : Nat), g = cnt ∧ wx.ranges Try.prog 9 (plainElem Try.prog 3) gm rr j D left cnt ∧ Two wa rr (rr + 1) wx L1 rs1 h1 L2 rs1 h2)
            case atStart => exact ⟨_, _, rfl, HR8.out, HT8.out⟩
            case round =>
              obtain ⟨left, cnt, hg, hrg, ht⟩ := hrel
              have HG2 := Lib.hid hg; have HRG := Lib.hid hrg; have HTR := Lib.hid ht
              clear hg hrg ht HT8 HR8
              go_wp2_with (first
                | (at_next; go_loud (refine wpList_next_ranges _ rfl _ rfl 9 lawS (plainElem (H := Unit) Try.prog 3) (fun x : ByteArray => Value.string x) (fun z : Int => Value.int .i64 z) key_string_inv (fun v y hv => by obtain ⟨a, h, _⟩ := plainElem_int_inv Try.underlying3 hv; exact ⟨a, h⟩) gm rr j D left cnt rfl HRG.out ?_ ?_))
                | go_in)
              · intro hc0 hl0
                go_wp2_with fail
                go_ret
                exact ⟨rfl, HW0.out.trans (HTR.out.below.mono HW0.out.size)⟩
              · intro x cc kl y1 y2 w1 cnt1 hkx hlx hcx hat hrg1 hlt hg1 hs1 hen
                have hrr : rr < wr.heap.size := HRG.out.lt
                have HT1' := Lib.hid (HTR.out.only hg1 (Nat.le_refl _) (Nat.lt_succ_self _) hwaw hs1)
                have HRG1 := Lib.hid hrg1; have HLT := Lib.hid hlt
                have hbb := bytes_below w1 5 x
                have HTB := Lib.hid (HT1'.out.up hbb)
                have HGET := Lib.hid (fun (sq : Int) (cp : Nat) => two_get HTB.out x.data.toList sq (.slice (some ⟨w1.heap.size, 0, none⟩) x.size cp) (bytes_bs w1 x cp))
                have HBB := Lib.hid hbb
                clear hrg1 hlt hg1 hs1 hkx hlx hcx hat hbb
                go_wp2_with fail
                refine (HGET.out _ _).mono ?_
                rintro e wg ⟨vg, rfl, htg, hbg⟩
                obtain ⟨r, hr⟩ : ∃ r, (getS rs1 x.data.toList (wrap64 (cc + 1))).getD zeroRc = r := ⟨_, rfl⟩
                obtain ⟨bb, hbb⟩ : ∃ bb, (getS rs1 x.data.toList (wrap64 (cc + 1))).isSome = bb := ⟨_, rfl⟩
                have hr' := hr; have hbb' := hbb
                change ToldRc _ wg vg ((getS rs1 x.data.toList (wrap64 (cc + 1))).getD zeroRc) at htg
                rw [hr] at htg
                have hbg1 : Below w1.heap.size w1 wg := HBB.out.trans (hbg.mono HBB.out.size)
                have HREC := Lib.hid (told_rec htg)
                obtain ⟨A1, q1, A2, q2, rfl, _, _⟩ := htg
                have hbl := (Below.refl wg.heap.size wg).alloc (Nat.le_refl _) (.cells #[.slice A1 r.key.length q1, .int .i64 r.seq, .bool r.del, .slice A2 r.val.length q2] 35)
                have hbox := blk_new wg (.cells #[.slice A1 r.key.length q1, .int .i64 r.seq, .bool r.del, .slice A2 r.val.length q2] 35) rfl
                have hbb2 := bytes_below (wg.alloc (.cells #[.slice A1 r.key.length q1, .int .i64 r.seq, .bool r.del, .slice A2 r.val.length q2] 35)) 5 x
                have HT2 := Lib.hid (((HT1'.out.up hbg1).up hbl).up hbb2)
                have HGET2 : Hid (∀ cp : Nat, Calls Try.prog 18 #[ptr L2.g, .slice (some ⟨(wg.alloc (.cells #[.slice A1 r.key.length q1, .int .i64 r.seq, .bool r.del, .slice A2 r.val.length q2] 35)).heap.size, 0, none⟩) x.size cp, .int .i64 (wrap64 (cc + 1))] (Lib.bytesWorld (wg.alloc (.cells #[.slice A1 r.key.length q1, .int .i64 r.seq, .bool r.del, .slice A2 r.val.length q2] 35)) 5 x) fun e w' => ∃ v, e = .returned (.tuple #[v, .bool bb]) ∧ ToldRc (Lib.bytesWorld (wg.alloc (.cells #[.slice A1 r.key.length q1, .int .i64 r.seq, .bool r.del, .slice A2 r.val.length q2] 35)) 5 x).heap.size w' v r ∧ Below (Lib.bytesWorld (wg.alloc (.cells #[.slice A1 r.key.length q1, .int .i64 r.seq, .bool r.del, .slice A2 r.val.length q2] 35)) 5 x).heap.size (Lib.bytesWorld (wg.alloc (.cells #[.slice A1 r.key.length q1, .int .i64 r.seq, .bool r.del, .slice A2 r.val.length q2] 35)) 5 x) w') := Lib.hid (fun cp => by
                  have g := two_get HT2.out.symm x.data.toList (wrap64 (cc + 1)) (.slice (some ⟨(wg.alloc (.cells #[.slice A1 r.key.length q1, .int .i64 r.seq, .bool r.del, .slice A2 r.val.length q2] 35)).heap.size, 0, none⟩) x.size cp) (bytes_bs _ x cp)
                  rw [hr', hbb'] at g
                  exact g)
                have HBL := Lib.hid hbl; have HBOX := Lib.hid hbox; have HBB2 := Lib.hid hbb2; have HBG := Lib.hid hbg1
                have HBQ := Lib.hid hbb
                clear hr hr' hbb' hbg hbg1 hbl hbox hbb2 hcv
                have hcv2 := fun (s : ByteArray) => Lib.run_convert_string_bytes (P := Try.prog) (wg.alloc (.cells #[.slice A1 r.key.length q1, .int .i64 r.seq, .bool r.del, .slice A2 r.val.length q2] 35)) 9 33 5 s Try.underlying9 Try.underlying33 Try.underlying5
                have hsz1 : (wg.alloc (.cells #[.slice A1 r.key.length q1, .int .i64 r.seq, .bool r.del, .slice A2 r.val.length q2] 35)).heap.size = wg.heap.size + 1 := by simp
                rw [hsz1] at hcv2 HGET2
                rw [hbb]
                clear hbb hsz1
                go_wp2_with fail
                refine (HGET2.out _).mono ?_
                rintro e wh ⟨vh, rfl, hth, hbh⟩
                have HREC2 := Lib.hid (told_rec hth)
                obtain ⟨B1, p1, B2, p2, rfl, _, _⟩ := hth
                have hbgh : Below wg.heap.size wg wh := HBL.out.trans ((HBB2.out.trans (hbh.mono HBB2.out.size)).mono HBL.out.size)
                have hboxh := blk_below (blk_below HBOX.out HBB2.out (blk_lt HBOX.out)) hbh (Nat.lt_of_lt_of_le (blk_lt HBOX.out) HBB2.out.size)
                obtain ⟨z0, z1, z2, z3, z4⟩ := cells4 hboxh
                have hlth : wg.heap.size < wh.heap.size := blk_lt hboxh
                have hba := (Below.refl wh.heap.size wh).alloc (Nat.le_refl _) (.cells #[.slice B1 r.key.length p1, .int .i64 r.seq, .bool r.del, .slice B2 r.val.length p2] 35)
                have HSAME := Lib.hid (same_true r (.agg #[.slice A1 r.key.length q1, .int .i64 r.seq, .bool r.del, .slice A2 r.val.length q2]) (.agg #[.slice B1 r.key.length p1, .int .i64 r.seq, .bool r.del, .slice B2 r.val.length p2]) _ (isRc_up (isRc_up HREC.out hbgh) hba) (isRc_up HREC2.out hba))
                have HW1H : Hid (Below w1.heap.size w1 (wh.alloc (.cells #[.slice B1 r.key.length p1, .int .i64 r.seq, .bool r.del, .slice B2 r.val.length p2] 35))) := Lib.hid ((HBG.out.trans (hbgh.mono HBG.out.size)).trans (hba.mono (Nat.le_trans HBG.out.size hbgh.size)))
                clear hbgh hboxh hba hbh hcv2 HGET2 HREC HREC2
                go_wp2_with fail
                refine HSAME.out.mono ?_
                rintro e wz ⟨rfl, hbz⟩
                have HWZ := Lib.hid (HW1H.out.trans (hbz.mono HW1H.out.size))
                have HTZ := Lib.hid (HT1'.out.up HWZ.out)
                have HRZ : Hid (wz.ranges Try.prog 9 (plainElem (H := Unit) Try.prog 3) gm rr j D (fun z => left z && !z.sameKey kl) cnt1) := Lib.hid (HRG1.out.kept (row := none) ⟨HWZ.out.os, HWZ.out.tape, HWZ.out.output, HWZ.out.size, fun i hi _ => HWZ.out.block i hi⟩ (by simp) (by simp))
                clear hbz z0 z1 z2 z3 z4 HSAME HW1H
                cases bb with
                | true =>
                  go_wp2_with fail
                  go_roundg cnt1
                  case measure => have := HG2.out; have := HLT.out; omega
                  case rel => exact ⟨_, cnt1, rfl, HRZ.out, HTZ.out⟩
                | false =>
                  go_wp2_with fail
                  go_roundg cnt1
                  case measure => have := HG2.out; have := HLT.out; omega
                  case rel => exact ⟨_, cnt1, rfl, HRZ.out, HTZ.out⟩
end Go.Proofs.Ytpgbinijocbfmaa
