/- The walk of SkipPuts. -/
import Derived.Test.YtpgbinijocbfmaaP8
import Derived.Test.YtpgbinijocbfmaaP9
namespace Go.Proofs.Ytpgbinijocbfmaa
open Go.RowKit Go
set_option linter.unusedVariables false
set_option linter.unusedSimpArgs false

set_option maxHeartbeats 30000000 in
set_option maxRecDepth 100000 in
theorem skipPuts_walk (A : Option Addr) (its : List It) (c : Nat) (w : World) (h : ItemsAt w A its) :
    Calls Try.prog 3 #[.slice A its.length c] w fun e w' => e = .returned (.bool true) ∧ Below w.heap.size w w' := by
  have HI := Lib.hid h; clear h
  go_enter Try.func3, Try.ntmps3
  go_wp2_with fail
  refine (awake_any _).mono ?_; rintro e w1 ⟨rfl, hw1⟩
  have HW1 := Lib.hid hw1; clear hw1
  go_wp2_with fail
  refine (much_any A its c w1 (HI.out.up HW1.out)).mono ?_; rintro e w2 ⟨m, rfl, hm, n, rfl⟩
  have HM := Lib.hid hm; clear hm
  cases m with
  | true =>
    go_wp2_with fail
    go_ret
    exact ⟨rfl, below_drewN HW1.out n⟩
  | false =>
    have hN := HM.out rfl
    obtain ⟨N, hN0⟩ : ∃ N, its.length = N := ⟨_, rfl⟩
    have HN := Lib.hid hN0
    rw [hN0] at hN ⊢
    clear hN0
    go_wp2_with fail
    refine (new_any _).mono ?_; rintro e w2 ⟨L, rfl, hs, hb⟩
    have HB0 := Lib.hid (Both.start hs hb)
    have HW0 : Hid (Below w.heap.size w (w1.drewN n)) := below_drewN HW1.out n
    clear hs hb
    unfold ptr
    generalize hw0 : w1.drewN n = w0 at HB0 HW0
    clear hw0
    go_wp2_with fail
    go_loopg [7, 8] N (fun g vi ve wr => ∃ (k : Nat) (rs : List Rc) (high : Nat), g = N - k ∧ k ≤ N ∧ vi = .int .i64 k ∧ rs.length ≤ k ∧ Both w0 wr L w2.heap.size rs high)
    case atStart => exact ⟨0, [], 0, rfl, by omega, rfl, by simp, HB0.out⟩
    case round =>
      obtain ⟨k, rs, high, hgk, hk, rfl, hrs, hBo⟩ := hrel
      have HG := Lib.hid hgk; have HBO := Lib.hid hBo; have HB := Lib.hid (both_base hBo HW0.out)
      clear hgk hBo
      by_cases hlt : k < N
      · have hlt' : k < its.length := by have := HN.out; omega
        obtain ⟨b, off, rfl, hb, _⟩ := HI.out.1 (by omega)
        obtain ⟨c0, c1, c2, c3, c4⟩ := item_at HI.out HB.out hlt'
        have hok := (HI.out.2 _ (List.getElem_mem hlt')).up HB.out
        have hok0 := HI.out.2 _ (List.getElem_mem hlt')
        have HCELL := fun w' (hw : Below w.heap.size w w') => item_at HI.out hw hlt'
        generalize its[k] = it at *
        have HC := Lib.hid HCELL; have HOK := Lib.hid hok0; clear HCELL hok0
        have HK := Lib.hid hok.1; have HV := Lib.hid hok.2.1
        have hdr := hok.2.2
        clear hok
        have i1 : (0 : Int) ≤ (k : Int) := by omega
        have i2 : (k : Int) < (N : Int) := by omega
        go_wp2_with fail
        go_cut [8] from 27 to 38 (fun v wc => ∃ (c3 : Int) (rs3 : List Rc) (high3 : Nat), v = .int .i64 c3 ∧ putS rs high it.r it.draw = (c3, rs3, high3) ∧ Half w0 wc L w2.heap.size rs rs3 high high3)
        case first =>
          go_region_held3 (fun w' => w'.cell? ⟨b, off + k * 5, none⟩ = some it.kv ∧ w'.cell? ⟨b, off + k * 5 + 1, none⟩ = some (.int .i64 it.r.seq) ∧ w'.cell? ⟨b, off + k * 5 + 2, none⟩ = some (.bool it.r.del) ∧ w'.cell? ⟨b, off + k * 5 + 3, none⟩ = some it.vv ∧ w'.cell? ⟨b, off + k * 5 + 4, none⟩ = some (.int .i64 it.draw))
            ((first | (with_reducible exact ⟨c0, c1, c2, c3, c4⟩) | exact ⟨c0, c1, c2, c3, c4⟩ | exact hcc))
            ((go_at_call 10; refine (both_put (HBO.out.below' (Below.refl _ _).drew) (by omega) it.kv it.vv it.r it.draw (HK.out.up (Below.refl _ _).drew) (HV.out.up (Below.refl _ _).drew) hdr).mono ?_; rintro e w3 ⟨x3, rs3, high3, rfl, hp, hH⟩; have hcc := HC.out _ (half_base hH HW0.out); have HP := Lib.hid hp; have HH := Lib.hid hH; clear hp hH))
          go_wp2_with fail
          go_meet
          exact ⟨x3, rs3, high3, rfl, HP.out, HH.out⟩
        case rest =>
          obtain ⟨x3, rs3, high3, rfl, hp, hH⟩ := hcut
          have HP := Lib.hid hp; have HH := Lib.hid hH; have HB3 := Lib.hid (half_base hH HW0.out)
          obtain ⟨c0', c1', c2', c3', c4'⟩ := HC.out _ HB3.out
          have hlen3 := (putS_inv HP.out HBO.out.right HBO.out.hh).2.1
          clear hp hH c0 c1 c2 c3 c4
          go_upto_region 11 with fail
          go_cut [78] from 39 to 77 (fun v w5 => v = .bool false ∧ Both w0 w5 L w2.heap.size rs3 high3)
          case first =>
            go_region_with (first
                | (go_at_call 11; refine (half_put (HH.out.below' (Below.refl _ _).drew) (by omega) it.kv it.vv it.r it.draw x3 (HOK.out.up HB3.out.drew).1 (HOK.out.up HB3.out.drew).2.1 hdr HP.out).mono ?_; rintro e w4 ⟨rfl, hB4⟩; obtain ⟨A9, c9, y0, y1⟩ := both_cells hB4; have HB4 := Lib.hid hB4; clear hB4)
                | (go_at_call 12; refine (both_len (HB4.out.below' (by repeat' (first | (with_reducible exact Below.refl _ _) | (with_reducible refine Below.alloc ?_ ?_ _) | (with_reducible refine below_drewN ?_ _) | (with_reducible refine Below.drew ?_) | (with_reducible refine Below.setCell ?_ ?_ _) | (with_reducible refine Below.trans ?_ (Below.mono HW0.out ?_)) | (with_reducible refine Below.trans ?_ (Below.mono HW1.out ?_)) | (with_reducible refine Below.trans ?_ (Below.mono HW2.out ?_)) | (with_reducible refine Below.trans ?_ (Below.mono HW3.out ?_)) | (with_reducible refine Below.trans ?_ (Below.mono HW4.out ?_)) | (with_reducible refine Below.trans ?_ (Below.mono HW5.out ?_)) | (with_reducible refine Below.trans ?_ (Below.mono HW6.out ?_)) | (with_reducible refine Below.trans ?_ (Below.mono HW7.out ?_)) | (with_reducible exact Nat.le_refl _) | omega | (simp only [World.size_alloc, World.size_setCell, World.size_drew, size_drewN]; omega) | (simp; done) | (simp; omega))))).mono ?_; rintro e w' ⟨rfl, rfl⟩)
                | (go_at_call 13; refine (both_size (HB4.out.below' (by repeat' (first | (with_reducible exact Below.refl _ _) | (with_reducible refine Below.alloc ?_ ?_ _) | (with_reducible refine below_drewN ?_ _) | (with_reducible refine Below.drew ?_) | (with_reducible refine Below.setCell ?_ ?_ _) | (with_reducible refine Below.trans ?_ (Below.mono HW0.out ?_)) | (with_reducible refine Below.trans ?_ (Below.mono HW1.out ?_)) | (with_reducible refine Below.trans ?_ (Below.mono HW2.out ?_)) | (with_reducible refine Below.trans ?_ (Below.mono HW3.out ?_)) | (with_reducible refine Below.trans ?_ (Below.mono HW4.out ?_)) | (with_reducible refine Below.trans ?_ (Below.mono HW5.out ?_)) | (with_reducible refine Below.trans ?_ (Below.mono HW6.out ?_)) | (with_reducible refine Below.trans ?_ (Below.mono HW7.out ?_)) | (with_reducible exact Nat.le_refl _) | omega | (simp only [World.size_alloc, World.size_setCell, World.size_drew, size_drewN]; omega) | (simp; done) | (simp; omega))))).mono ?_; rintro e w' ⟨rfl, rfl⟩)
                | (go_at_call 15; refine (both_height (HB4.out.below' (by repeat' (first | (with_reducible exact Below.refl _ _) | (with_reducible refine Below.alloc ?_ ?_ _) | (with_reducible refine below_drewN ?_ _) | (with_reducible refine Below.drew ?_) | (with_reducible refine Below.setCell ?_ ?_ _) | (with_reducible refine Below.trans ?_ (Below.mono HW0.out ?_)) | (with_reducible refine Below.trans ?_ (Below.mono HW1.out ?_)) | (with_reducible refine Below.trans ?_ (Below.mono HW2.out ?_)) | (with_reducible refine Below.trans ?_ (Below.mono HW3.out ?_)) | (with_reducible refine Below.trans ?_ (Below.mono HW4.out ?_)) | (with_reducible refine Below.trans ?_ (Below.mono HW5.out ?_)) | (with_reducible refine Below.trans ?_ (Below.mono HW6.out ?_)) | (with_reducible refine Below.trans ?_ (Below.mono HW7.out ?_)) | (with_reducible exact Nat.le_refl _) | omega | (simp only [World.size_alloc, World.size_setCell, World.size_drew, size_drewN]; omega) | (simp; done) | (simp; omega))))).mono ?_; rintro e w' ⟨rfl, rfl⟩)
                | (go_at_call 14; refine (both_rsize (HB4.out.below' (by repeat' (first | (with_reducible exact Below.refl _ _) | (with_reducible refine Below.alloc ?_ ?_ _) | (with_reducible refine below_drewN ?_ _) | (with_reducible refine Below.drew ?_) | (with_reducible refine Below.setCell ?_ ?_ _) | (with_reducible refine Below.trans ?_ (Below.mono HW0.out ?_)) | (with_reducible refine Below.trans ?_ (Below.mono HW1.out ?_)) | (with_reducible refine Below.trans ?_ (Below.mono HW2.out ?_)) | (with_reducible refine Below.trans ?_ (Below.mono HW3.out ?_)) | (with_reducible refine Below.trans ?_ (Below.mono HW4.out ?_)) | (with_reducible refine Below.trans ?_ (Below.mono HW5.out ?_)) | (with_reducible refine Below.trans ?_ (Below.mono HW6.out ?_)) | (with_reducible refine Below.trans ?_ (Below.mono HW7.out ?_)) | (with_reducible exact Nat.le_refl _) | omega | (simp only [World.size_alloc, World.size_setCell, World.size_drew, size_drewN]; omega) | (simp; done) | (simp; omega)))) (by omega)).mono ?_; rintro e w' ⟨rfl, n9, rfl⟩))
            all_goals go_wp2_with fail
            all_goals go_meet
            all_goals exact ⟨rfl, HB4.out.below' (by repeat' (first | (with_reducible exact Below.refl _ _) | (with_reducible refine Below.alloc ?_ ?_ _) | (with_reducible refine below_drewN ?_ _) | (with_reducible refine Below.drew ?_) | (with_reducible refine Below.setCell ?_ ?_ _) | (with_reducible refine Below.trans ?_ (Below.mono HW0.out ?_)) | (with_reducible refine Below.trans ?_ (Below.mono HW1.out ?_)) | (with_reducible refine Below.trans ?_ (Below.mono HW2.out ?_)) | (with_reducible refine Below.trans ?_ (Below.mono HW3.out ?_)) | (with_reducible refine Below.trans ?_ (Below.mono HW4.out ?_)) | (with_reducible refine Below.trans ?_ (Below.mono HW5.out ?_)) | (with_reducible refine Below.trans ?_ (Below.mono HW6.out ?_)) | (with_reducible refine Below.trans ?_ (Below.mono HW7.out ?_)) | (with_reducible exact Nat.le_refl _) | omega | (simp only [World.size_alloc, World.size_setCell, World.size_drew, size_drewN]; omega) | (simp; done) | (simp; omega)))⟩
          case rest =>
            obtain ⟨rfl, hb5⟩ := hcut
            have HB5 := Lib.hid hb5; clear hb5
            go_wp2_with fail
            go_roundg (N - (k + 1))
            case measure => have := HG.out; omega
            case rel => exact ⟨k + 1, rs3, high3, rfl, by omega, by go_num, by omega, HB5.out⟩
      · obtain ⟨A9, c9, y0, y1⟩ := both_cells HBO.out
        have zR : w2.heap.size < wr.heap.size := World.block_lt_of_cell? wr _ y0
        go_wp2_with fail
        go_region_with (first
          | (go_at_call 17; refine (both_from (HBO.out.below' (by repeat' (first | (with_reducible exact Below.refl _ _) | (with_reducible refine Below.alloc ?_ ?_ _) | (with_reducible refine below_drewN ?_ _) | (with_reducible refine Below.drew ?_) | (with_reducible refine Below.setCell ?_ ?_ _) | (with_reducible refine Below.trans ?_ (Below.mono HW0.out ?_)) | (with_reducible refine Below.trans ?_ (Below.mono HW1.out ?_)) | (with_reducible refine Below.trans ?_ (Below.mono HW2.out ?_)) | (with_reducible refine Below.trans ?_ (Below.mono HW3.out ?_)) | (with_reducible refine Below.trans ?_ (Below.mono HW4.out ?_)) | (with_reducible refine Below.trans ?_ (Below.mono HW5.out ?_)) | (with_reducible refine Below.trans ?_ (Below.mono HW6.out ?_)) | (with_reducible refine Below.trans ?_ (Below.mono HW7.out ?_)) | (with_reducible exact Nat.le_refl _) | omega | (simp only [World.size_alloc, World.size_setCell, World.size_drew, size_drewN]; omega) | (simp; done) | (simp; omega)))) (by omega)).mono ?_; rintro e w3 ⟨v, rfl, hF⟩; have HF := Lib.hid hF; have y2 := (hF.1.base.cell (p := ⟨w2.heap.size, 0, none⟩) zR).trans y0; clear hF)
          | (go_at_call 16; refine (both_same HF.out (by omega) y2).mono ?_; rintro e w4 ⟨rfl, hw4⟩; have HW4 := Lib.hid hw4; clear hw4))
        all_goals
          have hb3 := both_base HF.out.2 HW0.out
          have hb4 := hb3.trans (HW4.out.mono hb3.size)
          have HB5 := Lib.hid hb4; clear hb3 hb4
          go_wp2_with fail
          go_ret
          exact ⟨rfl, by first | exact HB5.out | exact HB5.out.drew | exact HB5.out.drew.drew⟩
end Go.Proofs.Ytpgbinijocbfmaa
