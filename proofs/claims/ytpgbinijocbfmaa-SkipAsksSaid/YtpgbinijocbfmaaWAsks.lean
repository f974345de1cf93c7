/- The walk of SkipAsks. -/
import Derived.Test.YtpgbinijocbfmaaP12
namespace Go.Proofs.Ytpgbinijocbfmaa
open Go.RowKit Go
set_option linter.unusedVariables false
set_option linter.unusedSimpArgs false

/-- A record lies in a box of its own. -/
def BoxRc (wr : World) (g : Nat) (r : Rc) : Prop := ∃ A c A' c', wr.heap[g]? = some (.cells #[.slice A r.key.length c, .int .i64 r.seq, .bool r.del, .slice A' r.val.length c'] 35 (0, 0)) ∧ Bs wr wr.heap.size (.slice A r.key.length c) r.key ∧ Bs wr wr.heap.size (.slice A' r.val.length c') r.val
theorem BoxRc.below {w w' : World} {g : Nat} {r : Rc} (h : BoxRc w g r) (hb : Below w.heap.size w w') : BoxRc w' g r := by
  obtain ⟨A, c, A', c', h1, h2, h3⟩ := h
  exact ⟨A, c, A', c', blk_below h1 hb (blk_lt h1), h2.up hb, h3.up hb⟩
/-- A record is told, then a box is made for it. -/
theorem box_late {w : World} {r : Rc} {A A' : Option Addr} {c c' : Nat} (h1 : BsU w (fun b => b < w.heap.size) (.slice A r.key.length c) r.key) (h2 : BsU w (fun b => b < w.heap.size) (.slice A' r.val.length c') r.val) :
    BoxRc (w.alloc (.cells #[.slice A r.key.length c, .int .i64 r.seq, .bool r.del, .slice A' r.val.length c'] 35)) w.heap.size r :=
  have hb : Below w.heap.size w (w.alloc (.cells #[.slice A r.key.length c, .int .i64 r.seq, .bool r.del, .slice A' r.val.length c'] 35)) := (Below.refl _ _).alloc (Nat.le_refl _) _
  ⟨A, c, A', c', blk_new _ _ rfl, (h1.bs (fun _ h => h)).up hb, (h2.bs (fun _ h => h)).up hb⟩
/-- The box was made ahead. -/
theorem box_soon {w : World} {g : Nat} {r : Rc} {A A' : Option Addr} {c c' : Nat} {cs : Array Value} (hg : w.heap[g]? = some (.cells cs 35 (0, 0))) (hcs : cs.size = 4) (h1 : BsU w (fun b => b < w.heap.size) (.slice A r.key.length c) r.key) (h2 : BsU w (fun b => b < w.heap.size) (.slice A' r.val.length c') r.val) :
    BoxRc ((((w.setCell ⟨g, 0, none⟩ (.slice A r.key.length c)).setCell ⟨g, 1, none⟩ (.int .i64 r.seq)).setCell ⟨g, 2, none⟩ (.bool r.del)).setCell ⟨g, 3, none⟩ (.slice A' r.val.length c')) g r := by
  have hb := blk_set (blk_set (blk_set (blk_set hg 0 (.slice A r.key.length c)) 1 (.int .i64 r.seq)) 2 (.bool r.del)) 3 (.slice A' r.val.length c')
  have e : (((cs.setIfInBounds 0 (.slice A r.key.length c)).setIfInBounds 1 (.int .i64 r.seq)).setIfInBounds 2 (.bool r.del)).setIfInBounds 3 (.slice A' r.val.length c') = #[.slice A r.key.length c, .int .i64 r.seq, .bool r.del, .slice A' r.val.length c'] := by
    obtain ⟨l⟩ := cs
    match l, hcs with
    | [x0, x1, x2, x3], _ => rfl
  rw [e] at hb
  have far : ∀ (b : Nat) (ds : Array Value), w.heap[b]? = some (Obj.cells ds 5 (0, 0)) → ((((w.setCell ⟨g, 0, none⟩ (.slice A r.key.length c)).setCell ⟨g, 1, none⟩ (.int .i64 r.seq)).setCell ⟨g, 2, none⟩ (.bool r.del)).setCell ⟨g, 3, none⟩ (.slice A' r.val.length c')).heap[b]? = w.heap[b]? := fun b ds hd => by
    have hne := ne_of_type hd hg (by decide)
    rw [Below.heap_setCell _ _ _ _ hne, Below.heap_setCell _ _ _ _ hne, Below.heap_setCell _ _ _ _ hne, Below.heap_setCell _ _ _ _ hne]
  refine ⟨A, c, A', c', hb, (h1.keepT (fun b ds _ hd => far b ds hd)).bs (fun b h => ?_), (h2.keepT (fun b ds _ hd => far b ds hd)).bs (fun b h => ?_)⟩
  · simpa using h
  · simpa using h

theorem soon_blk {wr w3 : World} {o : Obj} (h : Below (wr.alloc o).drew.heap.size (wr.alloc o).drew w3) : w3.heap[wr.heap.size]? = some o := by
  have h1 : (wr.alloc o).drew.heap[wr.heap.size]? = some o := blk_new wr o rfl
  exact blk_below h1 h (blk_lt h1)
set_option maxHeartbeats 30000000 in
set_option maxRecDepth 100000 in
theorem skipAsks_walk (A : Option Addr) (its : List It) (c : Nat) (A2 : Option Addr) (qs : List El) (c2 : Nat) (w : World) (h : ItemsAt w A its) (h2 : RecsAt w A2 qs) (hql : qs.length ≤ maxLen) :
    Calls Try.prog 4 #[.slice A its.length c, .slice A2 qs.length c2] w fun e w' => e = .returned (.bool true) ∧ Below w.heap.size w w' := by
  have HI := Lib.hid h; have HI2 := Lib.hid h2; clear h h2
  unfold maxLen at hql
  go_enter Try.func4, Try.ntmps4
  go_wp2_with fail
  refine (awake_any _).mono ?_; rintro e w1 ⟨rfl, hw1⟩
  have HW1 := Lib.hid hw1; clear hw1
  go_wp2_with fail
  refine (much_any A its c w1 (HI.out.up HW1.out)).mono ?_; rintro e w2 ⟨m, rfl, hm, n, rfl⟩
  have HM := Lib.hid hm; clear hm
  cases m with
  | true =>
    go_wp2_with fail
    go_ret
    exact ⟨rfl, below_drewN HW1.out n⟩
  | false =>
    have hN := HM.out rfl
    obtain ⟨N, hN0⟩ : ∃ N, its.length = N := ⟨_, rfl⟩
    have HN := Lib.hid hN0
    rw [hN0] at hN ⊢
    clear hN0
    obtain ⟨Q, hQ0⟩ : ∃ Q, qs.length = Q := ⟨_, rfl⟩
    have HQ := Lib.hid hQ0
    rw [hQ0] at hql ⊢
    clear hQ0
    go_wp2_with fail
    refine (new_any _).mono ?_; rintro e w2 ⟨L, rfl, hs, hb⟩
    have HB0 := Lib.hid (Both.start hs hb)
    have HW0 : Hid (Below w.heap.size w (w1.drewN n)) := below_drewN HW1.out n
    clear hs hb
    unfold ptr
    generalize hw0 : w1.drewN n = w0 at HB0 HW0
    clear hw0
    go_wp2_with fail
    go_loopg [9] N (fun g vi wr => ∃ (k : Nat) (rs : List Rc) (high : Nat), g = N - k ∧ k ≤ N ∧ vi = .int .i64 k ∧ rs.length ≤ k ∧ Both w0 wr L w2.heap.size rs high)
    case atStart => exact ⟨0, [], 0, rfl, by omega, rfl, by simp, HB0.out⟩
    case round =>
      obtain ⟨k, rs, high, hgk, hk, rfl, hrs, hBo⟩ := hrel
      have HG := Lib.hid hgk; have HBO := Lib.hid hBo; have HB := Lib.hid (both_base hBo HW0.out)
      clear hgk hBo
      by_cases hlt : k < N
      · have hlt' : k < its.length := by have := HN.out; omega
        obtain ⟨b, off, rfl, hb, _⟩ := HI.out.1 (by omega)
        obtain ⟨c0, c1, c2, c3, c4⟩ := item_at HI.out HB.out hlt'
        have hok := (HI.out.2 _ (List.getElem_mem hlt')).up HB.out
        have hok0 := HI.out.2 _ (List.getElem_mem hlt')
        have HCELL := fun w' (hw : Below w.heap.size w w') => item_at HI.out hw hlt'
        generalize its[k] = it at *
        have HC := Lib.hid HCELL; have HOK := Lib.hid hok0; clear HCELL hok0
        have HK := Lib.hid hok.1; have HV := Lib.hid hok.2.1
        have hdr := hok.2.2
        clear hok
        have i1 : (0 : Int) ≤ (k : Int) := by omega
        have i2 : (k : Int) < (N : Int) := by omega
        go_wp2_with fail
        go_region_held3 (fun w' => w'.cell? ⟨b, off + k * 5, none⟩ = some it.kv ∧ w'.cell? ⟨b, off + k * 5 + 1, none⟩ = some (.int .i64 it.r.seq) ∧ w'.cell? ⟨b, off + k * 5 + 2, none⟩ = some (.bool it.r.del) ∧ w'.cell? ⟨b, off + k * 5 + 3, none⟩ = some it.vv ∧ w'.cell? ⟨b, off + k * 5 + 4, none⟩ = some (.int .i64 it.draw))
          ((first | (with_reducible exact ⟨c0, c1, c2, c3, c4⟩) | exact ⟨c0, c1, c2, c3, c4⟩ | exact hcc))
          ((go_at_call 10; refine (both_put (HBO.out.below' (Below.refl _ _).drew) (by omega) it.kv it.vv it.r it.draw (HK.out.up (Below.refl _ _).drew) (HV.out.up (Below.refl _ _).drew) hdr).mono ?_; rintro e w3 ⟨x3, rs3, high3, rfl, hp, hH⟩; have hcc := HC.out _ (half_base hH HW0.out); have HP := Lib.hid hp; have HH := Lib.hid hH; clear hp hH))
        obtain ⟨c0', c1', c2', c3', c4'⟩ := HC.out _ (half_base HH.out HW0.out)
        have hlen3 := (putS_inv HP.out HBO.out.right HBO.out.hh).2.1
        clear c0 c1 c2 c3 c4 hcc
        have HB3 := Lib.hid (half_base HH.out HW0.out)
        go_wp2_with fail
        go_region_held3 (fun w' => w'.cell? ⟨b, off + k * 5, none⟩ = some it.kv ∧ w'.cell? ⟨b, off + k * 5 + 1, none⟩ = some (.int .i64 it.r.seq) ∧ w'.cell? ⟨b, off + k * 5 + 2, none⟩ = some (.bool it.r.del) ∧ w'.cell? ⟨b, off + k * 5 + 3, none⟩ = some it.vv ∧ w'.cell? ⟨b, off + k * 5 + 4, none⟩ = some (.int .i64 it.draw))
          ((first | (with_reducible exact ⟨c0', c1', c2', c3', c4'⟩) | exact ⟨c0', c1', c2', c3', c4'⟩ | exact hcc))
          ((go_at_call 11; refine (half_put (HH.out.below' (Below.refl _ _).drew) (by omega) it.kv it.vv it.r it.draw x3 (HOK.out.up HB3.out.drew).1 (HOK.out.up HB3.out.drew).2.1 hdr HP.out).mono ?_; rintro e w4 ⟨rfl, hB4⟩; have hcc := HC.out _ (both_base hB4 HW0.out); have HB4 := Lib.hid hB4; clear hB4))
        clear c0' c1' c2' c3' c4' hcc
        go_wp2_with fail
        go_roundg (N - (k + 1))
        case measure => have := HG.out; omega
        case rel => exact ⟨k + 1, rs3, high3, rfl, by omega, by go_num, by omega, by first | exact HB4.out | exact HB4.out.below' (Below.refl _ _).drew⟩
      · have hrn : rs.length ≤ 1000000 := by omega
        go_wp2_with fail
        clear HG hrs hlt
        obtain ⟨wo, hwo⟩ : ∃ wo : World, wo = wr := ⟨_, rfl⟩
        subst hwo
        go_loopg [10] Q (fun g vi wx => ∃ k : Nat, g = Q - k ∧ k ≤ Q ∧ vi = .int .i64 k ∧ Both w0 wx L w2.heap.size rs high)
        case atStart => exact ⟨0, rfl, by omega, rfl, HBO.out⟩
        case round =>
          clear HBO HB
          obtain ⟨k, hgk, hk, rfl, hBo⟩ := hrel
          have HG := Lib.hid hgk; have HBO := Lib.hid hBo; have HB := Lib.hid (both_base hBo HW0.out)
          clear hgk hBo
          by_cases hlt : k < Q
          · by_cases h60 : k < 60
            · have hlt' : k < qs.length := by have := HQ.out; omega
              obtain ⟨b, off, rfl, hb, _⟩ := recAt HI2.out hlt'
              obtain ⟨c0, c1, c2, c3⟩ := rec_at HI2.out HB.out hlt'
              have hok := HI2.out.2 _ (List.getElem_mem hlt')
              have HCELL := fun w' (hw : Below w.heap.size w w') => rec_at HI2.out hw hlt'
              generalize qs[k] = q at *
              have HC := Lib.hid HCELL; have HOK := Lib.hid hok; clear HCELL hok
              have HKW := Lib.hid HOK.out.1
              have hsq := HOK.out.2.2
              obtain ⟨Ak, ck, ek, _⟩ := HOK.out.1
              have EK := Lib.hid ek; clear ek
              rw [EK.out] at c0
              have i1 : (0 : Int) ≤ (k : Int) := by omega
              have i2 : (k : Int) < (Q : Int) := by omega
              have h60d : decide ((k : Int) < 60) = true := by simpa using (by omega : (k : Int) < 60)
              by_cases h2k : 2000 < q.r.key.length
              · have h2k' : (2000 : Int) < (q.r.key.length : Int) := by omega
                go_wp2_with fail
                go_ret
                exact ⟨rfl, HB.out⟩
              · have h2k' : (q.r.key.length : Int) ≤ 2000 := by omega
                go_upto_region 17 with fail
                have HKB : Hid (Bs w w.heap.size (.slice Ak q.r.key.length ck) q.r.key) := by have := HKW.out; rw [EK.out] at this; exact this
                have HCC : Hid (∀ w', Below w.heap.size w w' → w'.cell? ⟨b, off + k * 4, none⟩ = some (.slice Ak q.r.key.length ck) ∧ w'.cell? ⟨b, off + k * 4 + 1, none⟩ = some (.int .i64 q.r.seq)) := fun w' hw => by have := HC.out w' hw; rw [EK.out] at this; exact ⟨this.1, this.2.1⟩
                have HBW := HB
                have s1 : w.heap.size ≤ wr.heap.size := HB.out.size
                clear c2 c3
                obtain ⟨r1, hr1⟩ : ∃ r1, (getS rs q.r.key q.r.seq).getD zeroRc = r1 := ⟨_, rfl⟩
                obtain ⟨b1, hb1⟩ : ∃ b1, (getS rs q.r.key q.r.seq).isSome = b1 := ⟨_, rfl⟩
                have HR1 := Lib.hid hr1; have HB1 := Lib.hid hb1
                clear hr1 hb1
                go_cut [11, 12] from 76 to 90 (fun v11 v12 wc => ∃ g, v11 = .pointer (some ⟨g, 0, none⟩) ∧ BoxRc wc g r1 ∧ v12 = .bool b1 ∧ Below wr.heap.size wr wc)
                case first =>
                  go_region_held3 (fun w' => w'.cell? ⟨b, off + k * 4, none⟩ = some (.slice Ak q.r.key.length ck) ∧ w'.cell? ⟨b, off + k * 4 + 1, none⟩ = some (.int .i64 q.r.seq))
                    ((first | (with_reducible exact ⟨c0, c1⟩) | exact ⟨c0, c1⟩ | exact HCC.out _ (by repeat' (first | (with_reducible exact Below.refl _ _) | (with_reducible refine Below.alloc ?_ ?_ _) | (with_reducible refine below_drewN ?_ _) | (with_reducible refine Below.drew ?_) | (with_reducible refine Below.setCell ?_ ?_ _) | (with_reducible refine Below.trans ?_ (Below.mono HBW.out ?_)) | (with_reducible refine Below.trans ?_ (Below.mono HW0.out ?_)) | (with_reducible refine Below.trans ?_ (Below.mono HW1.out ?_)) | (with_reducible refine Below.trans ?_ (Below.mono HW2.out ?_)) | (with_reducible refine Below.trans ?_ (Below.mono HW3.out ?_)) | (with_reducible refine Below.trans ?_ (Below.mono HW4.out ?_)) | (with_reducible refine Below.trans ?_ (Below.mono HW5.out ?_)) | (with_reducible refine Below.trans ?_ (Below.mono HW6.out ?_)) | (with_reducible refine Below.trans ?_ (Below.mono HW7.out ?_)) | (with_reducible exact Nat.le_refl _) | omega | (simp only [World.size_alloc, World.size_setCell, World.size_drew, size_drewN]; omega) | (simp; done) | (simp; omega)))))
                    ((go_at_call 18; refine (both_get (HBO.out.below' (by repeat' (first | (with_reducible exact Below.refl _ _) | (with_reducible refine Below.alloc ?_ ?_ _) | (with_reducible refine below_drewN ?_ _) | (with_reducible refine Below.drew ?_) | (with_reducible refine Below.setCell ?_ ?_ _) | (with_reducible refine Below.trans ?_ (Below.mono HW0.out ?_)) | (with_reducible refine Below.trans ?_ (Below.mono HW1.out ?_)) | (with_reducible refine Below.trans ?_ (Below.mono HW2.out ?_)) | (with_reducible refine Below.trans ?_ (Below.mono HW3.out ?_)) | (with_reducible refine Below.trans ?_ (Below.mono HW4.out ?_)) | (with_reducible refine Below.trans ?_ (Below.mono HW5.out ?_)) | (with_reducible refine Below.trans ?_ (Below.mono HW6.out ?_)) | (with_reducible refine Below.trans ?_ (Below.mono HW7.out ?_)) | (with_reducible exact Nat.le_refl _) | omega | (simp only [World.size_alloc, World.size_setCell, World.size_drew, size_drewN]; omega) | (simp; done) | (simp; omega)))) q.r.key q.r.seq _ (HKB.out.up (by repeat' (first | (with_reducible exact Below.refl _ _) | (with_reducible refine Below.alloc ?_ ?_ _) | (with_reducible refine below_drewN ?_ _) | (with_reducible refine Below.drew ?_) | (with_reducible refine Below.setCell ?_ ?_ _) | (with_reducible refine Below.trans ?_ (Below.mono HBW.out ?_)) | (with_reducible refine Below.trans ?_ (Below.mono HW0.out ?_)) | (with_reducible refine Below.trans ?_ (Below.mono HW1.out ?_)) | (with_reducible refine Below.trans ?_ (Below.mono HW2.out ?_)) | (with_reducible refine Below.trans ?_ (Below.mono HW3.out ?_)) | (with_reducible refine Below.trans ?_ (Below.mono HW4.out ?_)) | (with_reducible refine Below.trans ?_ (Below.mono HW5.out ?_)) | (with_reducible refine Below.trans ?_ (Below.mono HW6.out ?_)) | (with_reducible refine Below.trans ?_ (Below.mono HW7.out ?_)) | (with_reducible exact Nat.le_refl _) | omega | (simp only [World.size_alloc, World.size_setCell, World.size_drew, size_drewN]; omega) | (simp; done) | (simp; omega))))).mono ?_; rintro e w3 ⟨A5, c5, A6, c6, rfl, m1, m2, hw3⟩; rw [HR1.out] at m1 m2; rw [HR1.out, HB1.out]; have HM1 := Lib.hid m1; have HM2 := Lib.hid m2; clear m1 m2; obtain ⟨hc3, hf3⟩ := bcell hw3; have hz3 := hw3.size; (try simp only [World.size_alloc, World.size_setCell, World.size_drew, size_drewN, Nat.add_one_le_iff] at hz3); (try have hy3 : w.heap.size < w3.heap.size := by omega); (try have hx3 : w.heap.size + 1 < w3.heap.size := by omega); have HW3 := Lib.hid hw3; clear hw3))
                  all_goals go_wp2_with fail
                  all_goals go_meet
                  all_goals first
                    | exact ⟨w3.heap.size, rfl, box_late HM1.out HM2.out, rfl, (by repeat' (first | (with_reducible exact Below.refl _ _) | (with_reducible refine Below.alloc ?_ ?_ _) | (with_reducible refine below_drewN ?_ _) | (with_reducible refine Below.drew ?_) | (with_reducible refine Below.setCell ?_ ?_ _) | (with_reducible refine Below.trans ?_ (Below.mono HW0.out ?_)) | (with_reducible refine Below.trans ?_ (Below.mono HW1.out ?_)) | (with_reducible refine Below.trans ?_ (Below.mono HW2.out ?_)) | (with_reducible refine Below.trans ?_ (Below.mono HW3.out ?_)) | (with_reducible refine Below.trans ?_ (Below.mono HW4.out ?_)) | (with_reducible refine Below.trans ?_ (Below.mono HW5.out ?_)) | (with_reducible refine Below.trans ?_ (Below.mono HW6.out ?_)) | (with_reducible refine Below.trans ?_ (Below.mono HW7.out ?_)) | (with_reducible exact Nat.le_refl _) | omega | (simp only [World.size_alloc, World.size_setCell, World.size_drew, size_drewN]; omega) | (simp; done) | (simp; omega)))⟩
                    | exact ⟨wr.heap.size, rfl, box_soon (soon_blk HW3.out) rfl HM1.out HM2.out, rfl, (by repeat' (first | (with_reducible exact Below.refl _ _) | (with_reducible refine Below.alloc ?_ ?_ _) | (with_reducible refine below_drewN ?_ _) | (with_reducible refine Below.drew ?_) | (with_reducible refine Below.setCell ?_ ?_ _) | (with_reducible refine Below.trans ?_ (Below.mono HW0.out ?_)) | (with_reducible refine Below.trans ?_ (Below.mono HW1.out ?_)) | (with_reducible refine Below.trans ?_ (Below.mono HW2.out ?_)) | (with_reducible refine Below.trans ?_ (Below.mono HW3.out ?_)) | (with_reducible refine Below.trans ?_ (Below.mono HW4.out ?_)) | (with_reducible refine Below.trans ?_ (Below.mono HW5.out ?_)) | (with_reducible refine Below.trans ?_ (Below.mono HW6.out ?_)) | (with_reducible refine Below.trans ?_ (Below.mono HW7.out ?_)) | (with_reducible exact Nat.le_refl _) | omega | (simp only [World.size_alloc, World.size_setCell, World.size_drew, size_drewN]; omega) | (simp; done) | (simp; omega)))⟩
                case rest =>
                  obtain ⟨g1, rfl, hx1, rfl, hw4⟩ := hcut
                  have HX1 := Lib.hid hx1
                  have HBO4 := Lib.hid (HBO.out.below' hw4)
                  have HB4 := Lib.hid (HB.out.trans (hw4.mono HB.out.size))
                  clear hx1 hw4 c0 c1 HBO HB HBW s1
                  have HBW := HB4
                  have s1 : w.heap.size ≤ wc.heap.size := HB4.out.size
                  obtain ⟨c0, c1⟩ := HCC.out _ HB4.out
                  go_upto_region 18 with fail
                  go_cut [13, 14] from 91 to 105 (fun v11 v12 wd => ∃ g, v11 = .pointer (some ⟨g, 0, none⟩) ∧ BoxRc wd g r1 ∧ v12 = .bool b1 ∧ Below wc.heap.size wc wd)
                  case first =>
                    go_region_held3 (fun w' => w'.cell? ⟨b, off + k * 4, none⟩ = some (.slice Ak q.r.key.length ck) ∧ w'.cell? ⟨b, off + k * 4 + 1, none⟩ = some (.int .i64 q.r.seq))
                      ((first | (with_reducible exact ⟨c0, c1⟩) | exact ⟨c0, c1⟩ | exact HCC.out _ (by repeat' (first | (with_reducible exact Below.refl _ _) | (with_reducible refine Below.alloc ?_ ?_ _) | (with_reducible refine below_drewN ?_ _) | (with_reducible refine Below.drew ?_) | (with_reducible refine Below.setCell ?_ ?_ _) | (with_reducible refine Below.trans ?_ (Below.mono HBW.out ?_)) | (with_reducible refine Below.trans ?_ (Below.mono HW0.out ?_)) | (with_reducible refine Below.trans ?_ (Below.mono HW1.out ?_)) | (with_reducible refine Below.trans ?_ (Below.mono HW2.out ?_)) | (with_reducible refine Below.trans ?_ (Below.mono HW3.out ?_)) | (with_reducible refine Below.trans ?_ (Below.mono HW4.out ?_)) | (with_reducible refine Below.trans ?_ (Below.mono HW5.out ?_)) | (with_reducible refine Below.trans ?_ (Below.mono HW6.out ?_)) | (with_reducible refine Below.trans ?_ (Below.mono HW7.out ?_)) | (with_reducible exact Nat.le_refl _) | omega | (simp only [World.size_alloc, World.size_setCell, World.size_drew, size_drewN]; omega) | (simp; done) | (simp; omega)))))
                      ((go_at_call 19; refine (both_rget (HBO4.out.below' (by repeat' (first | (with_reducible exact Below.refl _ _) | (with_reducible refine Below.alloc ?_ ?_ _) | (with_reducible refine below_drewN ?_ _) | (with_reducible refine Below.drew ?_) | (with_reducible refine Below.setCell ?_ ?_ _) | (with_reducible refine Below.trans ?_ (Below.mono HW0.out ?_)) | (with_reducible refine Below.trans ?_ (Below.mono HW1.out ?_)) | (with_reducible refine Below.trans ?_ (Below.mono HW2.out ?_)) | (with_reducible refine Below.trans ?_ (Below.mono HW3.out ?_)) | (with_reducible refine Below.trans ?_ (Below.mono HW4.out ?_)) | (with_reducible refine Below.trans ?_ (Below.mono HW5.out ?_)) | (with_reducible refine Below.trans ?_ (Below.mono HW6.out ?_)) | (with_reducible refine Below.trans ?_ (Below.mono HW7.out ?_)) | (with_reducible exact Nat.le_refl _) | omega | (simp only [World.size_alloc, World.size_setCell, World.size_drew, size_drewN]; omega) | (simp; done) | (simp; omega)))) hrn q.r.key q.r.seq _ (HKB.out.up (by repeat' (first | (with_reducible exact Below.refl _ _) | (with_reducible refine Below.alloc ?_ ?_ _) | (with_reducible refine below_drewN ?_ _) | (with_reducible refine Below.drew ?_) | (with_reducible refine Below.setCell ?_ ?_ _) | (with_reducible refine Below.trans ?_ (Below.mono HBW.out ?_)) | (with_reducible refine Below.trans ?_ (Below.mono HW0.out ?_)) | (with_reducible refine Below.trans ?_ (Below.mono HW1.out ?_)) | (with_reducible refine Below.trans ?_ (Below.mono HW2.out ?_)) | (with_reducible refine Below.trans ?_ (Below.mono HW3.out ?_)) | (with_reducible refine Below.trans ?_ (Below.mono HW4.out ?_)) | (with_reducible refine Below.trans ?_ (Below.mono HW5.out ?_)) | (with_reducible refine Below.trans ?_ (Below.mono HW6.out ?_)) | (with_reducible refine Below.trans ?_ (Below.mono HW7.out ?_)) | (with_reducible exact Nat.le_refl _) | omega | (simp only [World.size_alloc, World.size_setCell, World.size_drew, size_drewN]; omega) | (simp; done) | (simp; omega))))).mono ?_; rintro e w3 ⟨A5, c5, A6, c6, rfl, m1, m2, hw3⟩; rw [HR1.out] at m1 m2; rw [HR1.out, HB1.out]; have HM1 := Lib.hid m1; have HM2 := Lib.hid m2; clear m1 m2; obtain ⟨hc3, hf3⟩ := bcell hw3; have hz3 := hw3.size; (try simp only [World.size_alloc, World.size_setCell, World.size_drew, size_drewN, Nat.add_one_le_iff] at hz3); (try have hy3 : w.heap.size < w3.heap.size := by omega); (try have hx3 : w.heap.size + 1 < w3.heap.size := by omega); have HW3 := Lib.hid hw3; clear hw3))
                    all_goals go_wp2_with fail
                    all_goals go_meet
                    all_goals first
                      | exact ⟨w3.heap.size, rfl, box_late HM1.out HM2.out, rfl, (by repeat' (first | (with_reducible exact Below.refl _ _) | (with_reducible refine Below.alloc ?_ ?_ _) | (with_reducible refine below_drewN ?_ _) | (with_reducible refine Below.drew ?_) | (with_reducible refine Below.setCell ?_ ?_ _) | (with_reducible refine Below.trans ?_ (Below.mono HW0.out ?_)) | (with_reducible refine Below.trans ?_ (Below.mono HW1.out ?_)) | (with_reducible refine Below.trans ?_ (Below.mono HW2.out ?_)) | (with_reducible refine Below.trans ?_ (Below.mono HW3.out ?_)) | (with_reducible refine Below.trans ?_ (Below.mono HW4.out ?_)) | (with_reducible refine Below.trans ?_ (Below.mono HW5.out ?_)) | (with_reducible refine Below.trans ?_ (Below.mono HW6.out ?_)) | (with_reducible refine Below.trans ?_ (Below.mono HW7.out ?_)) | (with_reducible exact Nat.le_refl _) | omega | (simp only [World.size_alloc, World.size_setCell, World.size_drew, size_drewN]; omega) | (simp; done) | (simp; omega)))⟩
                      | exact ⟨wc.heap.size, rfl, box_soon (soon_blk HW3.out) rfl HM1.out HM2.out, rfl, (by repeat' (first | (with_reducible exact Below.refl _ _) | (with_reducible refine Below.alloc ?_ ?_ _) | (with_reducible refine below_drewN ?_ _) | (with_reducible refine Below.drew ?_) | (with_reducible refine Below.setCell ?_ ?_ _) | (with_reducible refine Below.trans ?_ (Below.mono HW0.out ?_)) | (with_reducible refine Below.trans ?_ (Below.mono HW1.out ?_)) | (with_reducible refine Below.trans ?_ (Below.mono HW2.out ?_)) | (with_reducible refine Below.trans ?_ (Below.mono HW3.out ?_)) | (with_reducible refine Below.trans ?_ (Below.mono HW4.out ?_)) | (with_reducible refine Below.trans ?_ (Below.mono HW5.out ?_)) | (with_reducible refine Below.trans ?_ (Below.mono HW6.out ?_)) | (with_reducible refine Below.trans ?_ (Below.mono HW7.out ?_)) | (with_reducible exact Nat.le_refl _) | omega | (simp only [World.size_alloc, World.size_setCell, World.size_drew, size_drewN]; omega) | (simp; done) | (simp; omega)))⟩
                  case rest =>
                    rename_i wd
                    obtain ⟨g2, rfl, hx2, rfl, hw5⟩ := hcut
                    have HBO5 := Lib.hid (HBO4.out.below' hw5)
                    have HB5 := Lib.hid (HB4.out.trans (hw5.mono HB4.out.size))
                    obtain ⟨B1, d1, B1', d1', e1, e2, e3⟩ := HX1.out.below hw5
                    obtain ⟨B2, d2, B2', d2', f1, f2, f3⟩ := hx2
                    obtain ⟨x0, x1, x2, x3, x4⟩ := cells4 e1
                    obtain ⟨y0, y1, y2, y3, y4⟩ := cells4 f1
                    have E2 := Lib.hid e2; have E3 := Lib.hid e3; have F2 := Lib.hid f2; have F3 := Lib.hid f3
                    clear e1 e2 e3 f1 f2 f3 hw5 c0 c1 HBO4 HB4 HBW s1
                    go_wp2_with fail
                    refine (same_any r1 r1 _ _ 0 _ ⟨_, _, rfl, E2.out, E3.out⟩ ⟨_, _, rfl, F2.out, F3.out⟩).mono ?_
                    rintro e w5 ⟨rfl, hw5⟩
                    rw [same_eq, decide_eq_true (rfl : r1 = r1)]
                    have HBO6 := Lib.hid (HBO5.out.below' hw5)
                    have HB6 := Lib.hid (HB5.out.trans (hw5.mono HB5.out.size))
                    clear hw5 x0 x1 x2 x3 x4 y0 y1 y2 y3 y4 HBO5 HB5 E2 E3 F2 F3
                    have HBW := HB6
                    have s1 : w.heap.size ≤ w5.heap.size := HB6.out.size
                    obtain ⟨c0, c1⟩ := HCC.out _ HB6.out
                    go_upto_region 20 with fail
                    go_cut [16] from 109 to 133 (fun v wx => v = .bool true ∧ Below w5.heap.size w5 wx)
                    case first =>
                      go_region_held3 (fun w' => w'.cell? ⟨b, off + k * 4, none⟩ = some (.slice Ak q.r.key.length ck) ∧ w'.cell? ⟨b, off + k * 4 + 1, none⟩ = some (.int .i64 q.r.seq))
                        ((first | (with_reducible exact ⟨c0, c1⟩) | exact ⟨c0, c1⟩ | exact HCC.out _ (by repeat' (first | (with_reducible exact Below.refl _ _) | (with_reducible refine Below.alloc ?_ ?_ _) | (with_reducible refine below_drewN ?_ _) | (with_reducible refine Below.drew ?_) | (with_reducible refine Below.setCell ?_ ?_ _) | (with_reducible refine Below.trans ?_ (Below.mono HBW.out ?_)) | (with_reducible refine Below.trans ?_ (Below.mono HW0.out ?_)) | (with_reducible refine Below.trans ?_ (Below.mono HW1.out ?_)) | (with_reducible refine Below.trans ?_ (Below.mono HW2.out ?_)) | (with_reducible refine Below.trans ?_ (Below.mono HW3.out ?_)) | (with_reducible refine Below.trans ?_ (Below.mono HW4.out ?_)) | (with_reducible refine Below.trans ?_ (Below.mono HW5.out ?_)) | (with_reducible refine Below.trans ?_ (Below.mono HW6.out ?_)) | (with_reducible refine Below.trans ?_ (Below.mono HW7.out ?_)) | (with_reducible exact Nat.le_refl _) | omega | (simp only [World.size_alloc, World.size_setCell, World.size_drew, size_drewN]; omega) | (simp; done) | (simp; omega)))))
                        ((first
                          | (go_at_call 17; refine (both_fromk (HBO6.out.below' (by repeat' (first | (with_reducible exact Below.refl _ _) | (with_reducible refine Below.alloc ?_ ?_ _) | (with_reducible refine below_drewN ?_ _) | (with_reducible refine Below.drew ?_) | (with_reducible refine Below.setCell ?_ ?_ _) | (with_reducible refine Below.trans ?_ (Below.mono HW0.out ?_)) | (with_reducible refine Below.trans ?_ (Below.mono HW1.out ?_)) | (with_reducible refine Below.trans ?_ (Below.mono HW2.out ?_)) | (with_reducible refine Below.trans ?_ (Below.mono HW3.out ?_)) | (with_reducible refine Below.trans ?_ (Below.mono HW4.out ?_)) | (with_reducible refine Below.trans ?_ (Below.mono HW5.out ?_)) | (with_reducible refine Below.trans ?_ (Below.mono HW6.out ?_)) | (with_reducible refine Below.trans ?_ (Below.mono HW7.out ?_)) | (with_reducible exact Nat.le_refl _) | omega | (simp only [World.size_alloc, World.size_setCell, World.size_drew, size_drewN]; omega) | (simp; done) | (simp; omega)))) hrn q.r.key q.r.seq _ (HKB.out.up (by repeat' (first | (with_reducible exact Below.refl _ _) | (with_reducible refine Below.alloc ?_ ?_ _) | (with_reducible refine below_drewN ?_ _) | (with_reducible refine Below.drew ?_) | (with_reducible refine Below.setCell ?_ ?_ _) | (with_reducible refine Below.trans ?_ (Below.mono HBW.out ?_)) | (with_reducible refine Below.trans ?_ (Below.mono HW0.out ?_)) | (with_reducible refine Below.trans ?_ (Below.mono HW1.out ?_)) | (with_reducible refine Below.trans ?_ (Below.mono HW2.out ?_)) | (with_reducible refine Below.trans ?_ (Below.mono HW3.out ?_)) | (with_reducible refine Below.trans ?_ (Below.mono HW4.out ?_)) | (with_reducible refine Below.trans ?_ (Below.mono HW5.out ?_)) | (with_reducible refine Below.trans ?_ (Below.mono HW6.out ?_)) | (with_reducible refine Below.trans ?_ (Below.mono HW7.out ?_)) | (with_reducible exact Nat.le_refl _) | omega | (simp only [World.size_alloc, World.size_setCell, World.size_drew, size_drewN]; omega) | (simp; done) | (simp; omega)))) hsq).mono ?_; rintro e w6 ⟨v6, rfl, hF⟩; have HF := Lib.hid hF; have HW6 := Lib.hid hF.base; have s6 := hF.base.size; (try simp only [World.size_drew] at s6); clear hF)
                          | (go_at_call 21; refine (both_rfrom (HBO6.out.below' (by repeat' (first | (with_reducible exact Below.refl _ _) | (with_reducible refine Below.alloc ?_ ?_ _) | (with_reducible refine below_drewN ?_ _) | (with_reducible refine Below.drew ?_) | (with_reducible refine Below.setCell ?_ ?_ _) | (with_reducible refine Below.trans ?_ (Below.mono HW0.out ?_)) | (with_reducible refine Below.trans ?_ (Below.mono HW1.out ?_)) | (with_reducible refine Below.trans ?_ (Below.mono HW2.out ?_)) | (with_reducible refine Below.trans ?_ (Below.mono HW3.out ?_)) | (with_reducible refine Below.trans ?_ (Below.mono HW4.out ?_)) | (with_reducible refine Below.trans ?_ (Below.mono HW5.out ?_)) | (with_reducible refine Below.trans ?_ (Below.mono HW6.out ?_)) | (with_reducible refine Below.trans ?_ (Below.mono HW7.out ?_)) | (with_reducible exact Nat.le_refl _) | omega | (simp only [World.size_alloc, World.size_setCell, World.size_drew, size_drewN]; omega) | (simp; done) | (simp; omega)))) hrn q.r.key q.r.seq _ (HKB.out.up (by repeat' (first | (with_reducible exact Below.refl _ _) | (with_reducible refine Below.alloc ?_ ?_ _) | (with_reducible refine below_drewN ?_ _) | (with_reducible refine Below.drew ?_) | (with_reducible refine Below.setCell ?_ ?_ _) | (with_reducible refine Below.trans ?_ (Below.mono HBW.out ?_)) | (with_reducible refine Below.trans ?_ (Below.mono HW0.out ?_)) | (with_reducible refine Below.trans ?_ (Below.mono HW1.out ?_)) | (with_reducible refine Below.trans ?_ (Below.mono HW2.out ?_)) | (with_reducible refine Below.trans ?_ (Below.mono HW3.out ?_)) | (with_reducible refine Below.trans ?_ (Below.mono HW4.out ?_)) | (with_reducible refine Below.trans ?_ (Below.mono HW5.out ?_)) | (with_reducible refine Below.trans ?_ (Below.mono HW6.out ?_)) | (with_reducible refine Below.trans ?_ (Below.mono HW7.out ?_)) | (with_reducible exact Nat.le_refl _) | omega | (simp only [World.size_alloc, World.size_setCell, World.size_drew, size_drewN]; omega) | (simp; done) | (simp; omega)))) hsq).mono ?_; rintro e w7 ⟨v7, rfl, V7, hR, hV7⟩; have HR := Lib.hid hR; have HV7 := Lib.hid hV7; have HW7 := Lib.hid hR.base; have s7 := hR.base.size; (try simp only [World.size_drew] at s7); clear hR hV7)
                          | (go_at_call 16; (first | refine (told_same (HF.out.below HR.out.base) HR.out HV7.out (Nat.le_trans (fromS_len _ _ _) hrn)).mono ?_ | refine (told_same HF.out (HR.out.below HV7.out HF.out.base) (fun x hx => Nat.lt_of_lt_of_le (HV7.out x hx) HF.out.base.size) (Nat.le_trans (fromS_len _ _ _) hrn)).mono ?_); rintro e w4 ⟨rfl, hw4⟩; have HW4 := Lib.hid hw4; clear hw4)))
                      all_goals go_wp2_with fail
                      all_goals go_meet
                      all_goals exact ⟨rfl, (by repeat' (first | (with_reducible exact Below.refl _ _) | (with_reducible refine Below.alloc ?_ ?_ _) | (with_reducible refine below_drewN ?_ _) | (with_reducible refine Below.drew ?_) | (with_reducible refine Below.setCell ?_ ?_ _) | (with_reducible refine Below.trans ?_ (Below.mono HW0.out ?_)) | (with_reducible refine Below.trans ?_ (Below.mono HW1.out ?_)) | (with_reducible refine Below.trans ?_ (Below.mono HW2.out ?_)) | (with_reducible refine Below.trans ?_ (Below.mono HW3.out ?_)) | (with_reducible refine Below.trans ?_ (Below.mono HW4.out ?_)) | (with_reducible refine Below.trans ?_ (Below.mono HW5.out ?_)) | (with_reducible refine Below.trans ?_ (Below.mono HW6.out ?_)) | (with_reducible refine Below.trans ?_ (Below.mono HW7.out ?_)) | (with_reducible exact Nat.le_refl _) | omega | (simp only [World.size_alloc, World.size_setCell, World.size_drew, size_drewN]; omega) | (simp; done) | (simp; omega)))⟩
                    case rest =>
                      rename_i wx
                      obtain ⟨rfl, hw8⟩ := hcut
                      have HBO8 := Lib.hid (HBO6.out.below' hw8)
                      clear hw8 c0 c1
                      go_wp2_with fail
                      go_roundg (Q - (k + 1))
                      case measure => have := HG.out; omega
                      case rel => exact ⟨k + 1, rfl, by omega, by go_num, HBO8.out⟩
            · go_wp2_with fail
              go_ret
              exact ⟨rfl, HB.out⟩
          · go_wp2_with fail
            go_ret
            exact ⟨rfl, HB.out⟩
end Go.Proofs.Ytpgbinijocbfmaa
