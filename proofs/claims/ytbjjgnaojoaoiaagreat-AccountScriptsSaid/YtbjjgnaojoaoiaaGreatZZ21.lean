/- Laws. -/
import Derived.Test.YtbjjgnaojoaoiaaGreatZZ14
import Derived.Test.YtbjjgnaojoaoiaaGreatZZ20
import Derived.Test.YtbjjgnaojoaoiaaGreatZZ17
namespace Go.Proofs.YtbjjgnaojoaoiaaGreat
open Go.RowKit Go
set_option linter.unusedVariables false
set_option linter.unusedSimpArgs false
set_option maxHeartbeats 6400000
set_option maxRecDepth 100000
theorem items_step {ps : List Per} {k : Nat} (h : k < ps.length) {a b c d a' b' c' d' a'' b'' c'' d'' : Value}
  (e : [a, b, c, d] ++ ([a', b', c', d'] ++ [a'', b'', c'', d'']) = itCs (itemsP ps[k])) : ((itCs (itemsOf (ps.take k)) ++ [a, b, c, d]) ++ [a', b', c', d']) ++ [a'', b'', c'', d''] = itCs (itemsOf (ps.take (k + 1))) := by
 rw [itemsOf_take h, itCs_app, ← e]; simp
theorem grown_box {X Y : World} {row : Option Nat} {k : Nat} {o : Obj} (hb : X.heap[k]? = some o) (hg : X.grownBy Y row) (hn : row ≠ some k) : Y.heap[k]? = some o := (hg.block k (blk_lt hb) (fun e => hn e.symm)).trans hb
def ItemsOf (w : World) (ps : List Per) (e : Ending) (w' : World) : Prop := Below w.heap.size w w' ∧ ∃ A c s, e = .returned (.slice A (itemsOf ps).length c) ∧ w'.ownsRow w.heap.size 58 4 (.slice A (itemsOf ps).length c) (itemsOf ps).length (itCs s) ∧ IsOrd (itemsOf ps) s
theorem items_any (g B : Nat) (S : Ac) (vp vq : Value) (qs : List PmE) (w : World) (h : OwnV w B g S vp vq qs) (hN : S.ps.length ≤ 1000) (hP : placesE (itemsOf S.ps) = 0) :
  Calls Tryz.prog 47 #[.pointer (some ⟨g, 0, none⟩)] w (ItemsOf w S.ps) := by
 obtain ⟨i0, hi, hz0, hz1', hz9⟩ := info_parts info_it
 obtain ⟨A, c, rfl, hc, hr⟩ := h.rdp
 obtain ⟨a0, a1, a2, a3, a4, a5⟩ := cells5U h.hg
 have hgl := blk_lt h.hg
 obtain ⟨n, hn⟩ : ∃ n, S.ps.length = n := ⟨_, rfl⟩
 have HP := hyd hP; have HN := hyd hn; have HR := hyd hr
 rw [hn] at HR hN hc a3
 clear h hr hP hn
 go_enter Tryz.func47, Tryz.ntmps47
 go_wp2_with fail
 go_loopg [3, 13] n (fun gh v i wr => ∃ k : Nat, gh = n - k ∧ k ≤ n ∧ i = .int .i64 k ∧ wr.ownsRow w.heap.size 58 4 v (k * 3) (itCs (itemsOf (S.ps.take k))) ∧ Below w.heap.size w wr)
 case atStart => exact ⟨0, rfl, by omega, rfl, World.ownsRow_nil _ _ _ _, Below.refl _ _⟩
 case round =>
  obtain ⟨k, hgk, hk, rfl, hown, hbr⟩ := hrel
  have HG := hyd hgk; have HO := hyd hown; have HB := hyd hbr
  have hzr := hbr.size
  by_cases hlt : k < n
  · have hl1 : k < S.ps.length := by rw [HN.out]; exact hlt
    obtain ⟨b, off, rfl, hb, c0, c1, c2, c3, c4, c5, c6, c7, c8, c9, c10⟩ := (HR.out.below hbr).per hl1
    have HST : Hid (((itCs (itemsOf (S.ps.take k)) ++ [.int .i64 S.ps[k].ret.due, .int .i64 0, .int .i64 S.ps[k].ret.per, .int .i64 S.ps[k].o0]) ++ [.int .i64 S.ps[k].ret.due, .int .i64 1, .int .i64 S.ps[k].ret.per, .int .i64 S.ps[k].o1]) ++ [.int .i64 S.ps[k].ret.due, .int .i64 2, .int .i64 S.ps[k].ret.per, .int .i64 S.ps[k].o2] = itCs (itemsOf (S.ps.take (k + 1)))) := hyd (items_step hl1 rfl)
    generalize S.ps[k] = p at *
    clear hbr hown hgk
    have i1 : (0 : Int) ≤ (k : Int) := by omega
    have i2 : (k : Int) < (n : Int) := by omega
    have hx0 : ∀ wx : World, (Instr.index 31 (.agg #[.int .i64 p.o0, .int .i64 p.o1, .int .i64 p.o2]) (.int .i64 0)).run Tryz.prog wx = .ok (.int .i64 p.o0) wx := fun _ => by kernel_rfl
    have hx1 : ∀ wx : World, (Instr.index 31 (.agg #[.int .i64 p.o0, .int .i64 p.o1, .int .i64 p.o2]) (.int .i64 1)).run Tryz.prog wx = .ok (.int .i64 p.o1) wx := fun _ => by kernel_rfl
    have hx2 : ∀ wx : World, (Instr.index 31 (.agg #[.int .i64 p.o0, .int .i64 p.o1, .int .i64 p.o2]) (.int .i64 2)).run Tryz.prog wx = .ok (.int .i64 p.o2) wx := fun _ => by kernel_rfl
    go_wp2_with fail
    refine wp_loop_rounds 4 ?_
    rw [rounds_succ]
    go_wp2_with (at_builtin; refine wpList_app rfl (.tmp 23) (.tmp 33) _ rfl w.heap.size 58 i0 _ 4 32 Tryz.underlying41 hi hz0 hz1' hz9 rfl (by omega) _ _ _ rfl ((HO.out.alloc _).alloc _) _ _ 1 1 [.int .i64 p.ret.due, .int .i64 0, .int .i64 p.ret.per, .int .i64 p.o0] rfl (Rd.new (cs := #[.int .i64 p.ret.due, .int .i64 0, .int .i64 p.ret.per, .int .i64 p.o0]) (by simp) rfl) (by simp [Value.oneCell']) (by unfold maxLen; omega) (by omega) (by simp; omega) ?_; intro v1 w1 hown1 hg1 hat1)
    have hb1 := grown_box (blk_alloc (blk_new wr _ rfl) _) hg1 (fun e => absurd ((HO.out.lt _ e).2) (Nat.lt_irrefl _))
    have hB1 := ((HB.out.alloc hzr _).alloc (by simp; omega) _).grown hg1 (by simp; omega) (fun k hk => (HO.out.lt k hk).1)
    have y10 : w1.cell? ⟨wr.heap.size, 0, none⟩ = some (.int .i64 p.ret.per) := (blk_cell hb1 0).trans rfl
    have y11 : w1.cell? ⟨wr.heap.size, 1, none⟩ = some (.int .i64 p.ret.due) := (blk_cell hb1 1).trans rfl
    have HX1 := hyd hb1; have HB1 := hyd hB1; have HO1 := hyd hown1; have HZ1 := hyd hB1.size
    have zb1 : wr.heap.size < w1.heap.size := blk_lt hb1
    obtain ⟨A1, k1, rfl, _⟩ := own_form hown1
    clear hb1 hB1 hown1 hg1 hat1
    go_wp2_with fail
    rw [rounds_succ]
    go_wp2_with (at_builtin; refine wpList_app rfl (.tmp 23) (.tmp 33) _ rfl w.heap.size 58 i0 _ 4 32 Tryz.underlying41 hi hz0 hz1' hz9 rfl (by omega) _ _ _ rfl (HO1.out.alloc _) _ _ 1 1 [.int .i64 p.ret.due, .int .i64 1, .int .i64 p.ret.per, .int .i64 p.o1] rfl (Rd.new (cs := #[.int .i64 p.ret.due, .int .i64 1, .int .i64 p.ret.per, .int .i64 p.o1]) (by simp) rfl) (by simp [Value.oneCell']) (by unfold maxLen; omega) (by omega) (by have := HZ1.out; simp; omega) ?_; intro v2 w2 hown2 hg2 hat2)
    have hb2 := grown_box (blk_alloc HX1.out _) hg2 (fun e => by obtain ⟨_, cs, hcs⟩ := own_block_type HO1.out e; exact ne_of_type' HX1.out hcs (by decide) rfl)
    have hB2 := (HB1.out.alloc HZ1.out _).grown hg2 (by have := HZ1.out; simp; omega) (fun k hk => (own_block_type HO1.out hk).1)
    have y20 : w2.cell? ⟨wr.heap.size, 0, none⟩ = some (.int .i64 p.ret.per) := (blk_cell hb2 0).trans rfl
    have y21 : w2.cell? ⟨wr.heap.size, 1, none⟩ = some (.int .i64 p.ret.due) := (blk_cell hb2 1).trans rfl
    have HX2 := hyd hb2; have HB2 := hyd hB2; have HO2 := hyd hown2; have HZ2 := hyd hB2.size
    have zb2 : wr.heap.size < w2.heap.size := blk_lt hb2
    obtain ⟨A2, k2, rfl, _⟩ := own_form hown2
    clear hb2 hB2 hown2 hg2 hat2
    go_wp2_with fail
    rw [rounds_succ]
    go_wp2_with (at_builtin; refine wpList_app rfl (.tmp 23) (.tmp 33) _ rfl w.heap.size 58 i0 _ 4 32 Tryz.underlying41 hi hz0 hz1' hz9 rfl (by omega) _ _ _ rfl (HO2.out.alloc _) _ _ 1 1 [.int .i64 p.ret.due, .int .i64 2, .int .i64 p.ret.per, .int .i64 p.o2] rfl (Rd.new (cs := #[.int .i64 p.ret.due, .int .i64 2, .int .i64 p.ret.per, .int .i64 p.o2]) (by simp) rfl) (by simp [Value.oneCell']) (by unfold maxLen; omega) (by omega) (by have := HZ2.out; simp; omega) ?_; intro v3 w3 hown3 hg3 hat3)
    have hb3 := grown_box (blk_alloc HX2.out _) hg3 (fun e => by obtain ⟨_, cs, hcs⟩ := own_block_type HO2.out e; exact ne_of_type' HX2.out hcs (by decide) rfl)
    have hB3 := (HB2.out.alloc HZ2.out _).grown hg3 (by have := HZ2.out; simp; omega) (fun k hk => (own_block_type HO2.out hk).1)
    have y30 : w3.cell? ⟨wr.heap.size, 0, none⟩ = some (.int .i64 p.ret.per) := (blk_cell hb3 0).trans rfl
    have y31 : w3.cell? ⟨wr.heap.size, 1, none⟩ = some (.int .i64 p.ret.due) := (blk_cell hb3 1).trans rfl
    have HX3 := hyd hb3; have HB3 := hyd hB3; have HO3 := hyd hown3; have HZ3 := hyd hB3.size
    have zb3 : wr.heap.size < w3.heap.size := blk_lt hb3
    obtain ⟨A3, k3, rfl, _⟩ := own_form hown3
    clear hb3 hB3 hown3 hg3 hat3
    go_wp2_with fail
    rw [rounds_succ]
    go_wp2_with fail
    go_roundg (n - (k + 1))
    case measure => have := HG.out; omega
    case rel => exact ⟨k + 1, rfl, by omega, by go_num, by have := HO3.out; rw [HST.out] at this; rw [show (k + 1) * 3 = k * 3 + 1 + 1 + 1 by omega]; exact this, HB3.out⟩
  · have hkn : k = n := by omega
    subst hkn
    rw [List.take_of_length_le (by rw [HN.out]; exact Nat.le_refl _)] at hown
    obtain ⟨A2, c2, rfl, _⟩ := own_form hown
    have HL : Hid ((itemsOf S.ps).length = k * 3) := hyd (by rw [itemsOf_len, HN.out])
    have HOR := hyd (order_own A2 (itemsOf S.ps) (k * 3) c2 wr HL.out (Rd.of_own hown) (by unfold maxLen; omega) HP.out)
    clear hown hbr hgk
    go_wp2_with fail
    refine HOR.out.mono ?_; rintro e w1 ⟨hb1, A', c', s, rfl, ho1, hs⟩
    rw [HL.out] at ho1 ⊢
    have HB1 := hyd hb1; have HO1 := hyd ho1; have HS1 := hyd hs
    clear hb1 ho1 hs
    go_wp2_with fail
    go_ret
    exact ⟨HB.out.trans (HB1.out.mono hzr), A', c', s, by first | rfl | (rw [HL.out]; rfl), by rw [HL.out]; exact own_mono HO1.out hzr, HS1.out⟩
def mixK (s : List Dq) (a : Int) (k : Nat) : List Dq := (paidRow s a).take k ++ s.drop k
theorem mixK_len {s : List Dq} {a : Int} {k : Nat} (h : k ≤ s.length) : (mixK s a k).length = s.length := by simp [mixK, paidRow_len]; omega
theorem mixK_at {s : List Dq} {a : Int} {k : Nat} (h : k < s.length) : (mixK s a k)[k]'(by rw [mixK_len (by omega)]; exact h) = s[k] := by
 unfold mixK
 rw [List.getElem_append_right (by simp [paidRow_len]; omega)]
 simp only [List.length_take, paidRow_len, Nat.min_eq_left (Nat.le_of_lt h), Nat.sub_self, List.getElem_drop]
 simp
theorem mixK_step {s : List Dq} {a : Int} {k : Nat} (h : k < s.length) : (itCs (mixK s a k)).set (k * 4 + 3) (.int .i64 (paidI s a s[k])) = itCs (mixK s a (k + 1)) := by
 have hk : k < (mixK s a k).length := by rw [mixK_len (by omega)]; exact h
 have e := flat_set (c := itC) (j := 3) itC_len hk (by omega) (u := .int .i64 (paidI s a s[k])) (y := { s[k] with opn := paidI s a s[k] }) (by rw [mixK_at h]; rfl)
 refine e.trans ?_
 congr 1
 unfold mixK
 have hl : ((paidRow s a).take k).length = k := by simp [paidRow_len]; omega
 rw [List.set_append_right _ _ (by omega), hl, Nat.sub_self, List.drop_eq_getElem_cons h, List.set_cons_zero, List.take_succ_eq_append_getElem (by rw [paidRow_len]; exact h), List.append_assoc]
 simp [paidRow]
theorem Rd.far {w : World} {B s n : Nat} {A : Option Addr} {xs : List Value} (h : Rd w B s A n xs) {p : Addr} (hp : ∀ b, A = some b → b.block ≠ p.block) (u : Value) : Rd (w.setCell p u) B s A n xs := by
 refine ⟨h.1, fun h0 => ?_⟩
 obtain ⟨b, off, e, hb, hc⟩ := h.2 h0
 refine ⟨b, off, e, hb, fun j hj => ?_⟩
 rw [← hc j hj]
 have := Below.heap_setCell w p u b (hp _ e)
 simp only [World.cell?, this]
def UPayOf (w : World) (B g : Nat) (S : Ac) (vp vq : Value) (qs : List PmE) (a : Int) (e : Ending) (w' : World) : Prop := Turn w B vp w' ∧
 match giveS S.day (-1) S.ps (partsOf (itemsOf S.ps) a) with
 | some ps => ∃ A c, e = .returned (.tuple #[.slice A (partsOf (itemsOf S.ps) a).length c, .int .i64 (leftI (itemsOf S.ps) a)]) ∧ OwnV w' B g { S with ps := ps } vp vq qs ∧ PartsAt w' (.slice A (partsOf (itemsOf S.ps) a).length c) (partsOf (itemsOf S.ps) a) ∧ ps.length = S.ps.length
 | none => e = pan 2
theorem upay_any (g B : Nat) (S : Ac) (vp vq : Value) (qs : List PmE) (a : Int) (w : World) (h : OwnV w B g S vp vq qs) (hB : B ≤ w.heap.size) (hN : S.ps.length ≤ 60) (ha : 0 ≤ a ∧ a ≤ 4611686018427387904)
  (h1 : 0 ≤ S.day ∧ S.day ≤ 3652058) (hP : placesE (itemsOf S.ps) = 0)
  (hgood : ∀ k ps (hk : k < (partsOf (itemsOf S.ps) a).length), giveS S.day (-1) S.ps ((partsOf (itemsOf S.ps) a).take k) = some ps → GoodAt S.day S.bp (-1) ps (partsOf (itemsOf S.ps) a)[k]) :
  Calls Tryz.prog 52 #[.pointer (some ⟨g, 0, none⟩), .int .i64 a] w (UPayOf w B g S vp vq qs a) := by
 have HI := hyd (items_any g B S vp vq qs w h (by omega) hP)
 have HGD := hyd hgood; have HV0 := hyd h; have HPL := hyd hP
 obtain ⟨n, hn⟩ : ∃ n, (itemsOf S.ps).length = n := ⟨_, rfl⟩
 have HNN := hyd hn
 have hn2 : n ≤ 1000 := by rw [← hn, itemsOf_len]; omega
 clear hgood h hP hn
 go_enter Tryz.func52, Tryz.ntmps52
 go_wp2_with fail
 refine HI.out.mono ?_; rintro e w1 ⟨hb1, A, c, s, rfl, ho1, hs⟩
 rw [HNN.out] at ho1 ⊢
 have hsp := hs.places HPL.out
 have hse := hs.eq HPL.out
 have hsl : s.length = n := by rw [hs.len]; exact HNN.out
 have hpe : payE s a = 0 := by unfold payE; rw [if_pos ha]; exact hsp
 have HPY := hyd (pay_nN A s a n c w1 hsl (Rd.of_own ho1) (by unfold maxLen; omega))
 have HB1 := hyd hb1; have HO1 := hyd ho1; have HSL := hyd hsl; have HSE := hyd hse; have HPE := hyd hpe
 have HLF : Hid (leftI s a = leftI (itemsOf S.ps) a) := hyd (leftI_perm hs.1 a)
 clear hb1 ho1 hs hsp hse hsl hpe
 go_wp2_with fail
 refine HPY.out.mono ?_; rintro e w2 ⟨hb2, ⟨hne, _⟩ | ⟨_, A', c', rfl, hrd, hc', hnew⟩⟩
 · exact absurd HPE.out hne
 rw [HSL.out] at hrd hc' ⊢
 have HB2 := hyd (HB1.out.trans (hb2.mono HB1.out.size))
 have HO2 : Hid (w2.ownsRow w.heap.size 58 4 (.slice A n c) n (itCs (mixK s a 0))) := hyd (by
  have e : mixK s a 0 = s := by simp [mixK]
  rw [e]; exact own_below HO1.out hb2)
 have HRD := hyd hrd
 have HNEW := hyd hnew
 clear hb2 hrd hnew HPY
 go_wp2_with fail
 go_loopg [23] n (fun gh v23 wr => ∃ k : Nat, gh = n - k ∧ k ≤ n ∧ v23 = .int .i64 k ∧ wr.ownsRow w.heap.size 58 4 (.slice A n c) n (itCs (mixK s a k)) ∧ Rd wr wr.heap.size 1 A' n (ints (payL s a)) ∧ Below w.heap.size w wr)
 case atStart => exact ⟨0, rfl, by omega, rfl, HO2.out, HRD.out, HB2.out⟩
 case round =>
  obtain ⟨k, hgk, hk, rfl, hown, hrr, hbr⟩ := hrel
  have HG := hyd hgk; have HO := hyd hown; have HB := hyd hbr; have HRR := hyd hrr
  by_cases hlt : k < n
  · have hks : k < s.length := by rw [HSL.out]; exact hlt
    have hkm : k < (mixK s a k).length := by rw [mixK_len (by omega)]; exact hks
    obtain ⟨gi, cap, ev, hgB, hgl⟩ := hown.form (by omega)
    injection ev with ev _ ev2
    subst ev ev2
    obtain ⟨⟨c0, c1, c2, c3⟩, hf⟩ := own_it hown hkm
    have hkp : k < (payL s a).length := by rw [payL_lenP]; exact hks
    obtain ⟨b', off', rfl, hb', cp⟩ := hrr.num hkp
    rw [payL_atP s a k hks] at cp
    have hbg : gi < w1.heap.size := by
     obtain ⟨_, cs, hcs⟩ := own_block_type HO1.out (b := gi) rfl
     exact blk_lt hcs
    have hnb : w1.heap.size ≤ b' := HNEW.out _ rfl
    have hne : b' ≠ gi := by omega
    have HST : Hid (∀ u, u = Value.int .i64 (paidI s a s[k]) → (wr.setCell ⟨gi, k * 4 + 3, none⟩ u).ownsRow w.heap.size 58 4 (.slice (some ⟨gi, 0, none⟩) n c) n (itCs (mixK s a (k + 1))) ∧ Rd (wr.setCell ⟨gi, k * 4 + 3, none⟩ u) (wr.setCell ⟨gi, k * 4 + 3, none⟩ u).heap.size 1 (some ⟨b', off', none⟩) n (ints (payL s a)) ∧ Below w.heap.size w (wr.setCell ⟨gi, k * 4 + 3, none⟩ u)) := hyd (fun u hu => by
     subst hu
     refine ⟨?_, by rw [World.size_setCell]; exact hrr.far (fun b e => by injection e with e; subst e; exact hne) _, hbr.setCell hgB _⟩
     rw [← mixK_step hks]
     exact own_set hown (by omega) _)
    generalize (mixK s a k)[k] = y at c0 c1 c2 c3
    generalize paidI s a s[k] = pv at *
    have hgi := hf (k * 4 + 3)
    have hgr := hgl
    have j1 : (0 : Int) ≤ (k : Int) := by omega
    have j2 : (k : Int) < (n : Int) := by omega
    clear hown hrr hbr hgk c0 c1 c2 hf
    go_wp2_with fail
    go_roundg (n - (k + 1))
    case measure => have := HG.out; omega
    case rel => exact ⟨k + 1, rfl, by omega, by go_num, (HST.out _ rfl).1, (HST.out _ rfl).2.1, (HST.out _ rfl).2.2⟩
  · have hkn : k = n := by omega
    subst hkn
    have hmx : mixK s a k = paidRow s a := by unfold mixK; rw [List.drop_of_length_le (by rw [HSL.out]; exact Nat.le_refl _), List.take_of_length_le (by rw [paidRow_len, HSL.out]; exact Nat.le_refl _), List.append_nil]
    rw [hmx] at hown
    have HDL := hyd (delete_any 112 pay1_tells w.heap.size A k c (paidRow s a) wr (by rw [paidRow_len, HSL.out]) hown hbr.size (by omega))
    have HPO : Hid (live (paidRow s a) = partsOf (itemsOf S.ps) a) := hyd (by rw [HSE.out]; rfl)
    rw [HPO.out] at HDL
    have hpl : (partsOf (itemsOf S.ps) a).length ≤ k := by rw [← HPO.out]; exact Nat.le_trans (List.length_filter_le _ _) (by rw [paidRow_len, HSL.out]; exact Nat.le_refl _)
    clear hown hrr hbr hgk hmx
    go_wp2_with fail
    refine HDL.out.mono ?_; rintro e w3 ⟨A3, c3, rfl, ho3, hb3⟩
    have hbw3 : Below w.heap.size w w3 := HB.out.trans hb3
    have HGV := hyd (give_any g B S vp vq qs A3 _ c3 (partsOf (itemsOf S.ps) a) (-1) w3 (HV0.out.below hbw3) (PartsAt.of_own ho3) (Nat.le_trans hB hbw3.size) (by omega) (by omega) h1 HGD.out)
    have HB3 := hyd hbw3
    clear ho3 hb3 hbw3
    obtain ⟨pn, hpn⟩ : ∃ pn, (partsOf (itemsOf S.ps) a).length = pn := ⟨_, rfl⟩
    have HPN := hyd hpn
    rw [hpn] at HGV ⊢
    clear hpn hpl
    go_wp2_with fail
    refine HGV.out.mono ?_; rintro e w4 ⟨hb4, hm⟩
    have HB4 := hyd (hb4.ahead HB3.out hB)
    cases hgs : giveS S.day (-1) S.ps (partsOf (itemsOf S.ps) a) with
    | none =>
      rw [hgs] at hm
      simp only at hm
      subst hm
      have HGS := hyd hgs
      unfold UPayOf; rw [HGS.out]
      exact ⟨rfl, HB4.out, rfl⟩
    | some ps =>
      rw [hgs] at hm
      obtain ⟨⟨x, rfl⟩, ho4, hpt4, hl4⟩ := hm
      have HGS := hyd hgs; have HO4 := hyd ho4; have HPT4 := hyd hpt4; have HL4 := hyd hl4
      clear hb4 hgs ho4 hpt4 hl4
      go_wp2_with fail
      go_ret2
      unfold UPayOf; rw [HGS.out]
      refine ⟨HB4.out, ?_⟩
      exact ⟨A3, c3, by rw [HPN.out, ← HLF.out]; rfl, HO4.out, by rw [HPN.out]; exact HPT4.out, HL4.out⟩
theorem Turn.box {w w' : World} {B g : Nat} {S : Ac} {vp vq : Value} {qs : List PmE} {cs : Array Value} {t : Nat} {fr : Nat × Nat} {k : Nat} (h : Turn w B vp w') (ho : OwnV w B g S vp vq qs) (hk : w.heap[k]? = some (.cells cs t fr)) (ht : t ≠ 92) : w'.heap[k]? = some (.cells cs t fr) := by
 refine (h.gr.block k (blk_lt hk) (fun e => ?_)).trans hk
 obtain ⟨_, cs', hcs⟩ := own_block_type ho.hp e.symm
 exact ne_of_type' hk hcs ht rfl
theorem leftI_bd {its : List Dq} {a : Int} (h : placesE its = 0) (ha : 0 ≤ a) : 0 ≤ leftI its a ∧ leftI its a ≤ a := by
 have := opens_nonneg (placesE_ok h).2.1
 unfold leftI; omega
theorem offset1_any (gb B ga : Nat) (S : Ac) (a : Int) (w : World) (h : OwnAt w B gb S) (hB : B ≤ w.heap.size) (ha : w.heap[ga]? = some (.cells #[.int .i64 a] 2 (0, 0))) (hG : Good S) (hc : a ≤ S.cr) (h2 : 1 ≤ a ∧ a ≤ 1125899906842624) :
  Calls Tryz.prog 60 #[.pointer (some ⟨gb, 0, none⟩), .pointer (some ⟨ga, 0, none⟩)] w (StepOf w B gb (offset1 S a)) := by
 obtain ⟨vp, vq, qs, h⟩ := h
 have hPF := pay_facts hG.day hG.bp hG.rise hG.per (by have := hG.np; omega) (show 0 ≤ a by omega)
 have hBg := h.hB
 have hgl := blk_lt h.hg
 have hal := blk_lt ha
 have hb0 : Below w.heap.size w (w.alloc (.cells #[.int .i64 0, .int .i64 0, .int .i64 0, .int .i64 0, .int .i64 0, .int .i64 0] 33)) := bnewU _ _
 have hv0 := h.below hb0
 have HP := hyd (upay_any gb B S vp vq qs a _ hv0 (Nat.le_trans hB hb0.size) (by have := hG.np; omega) (by omega) hG.day hG.places hPF.1)
 obtain ⟨ps, hgs, hit, hret, hok, hrise⟩ := hPF.2
 have HGS := hyd hgs
 have HV0 := hyd hv0; have HB0 := hyd hb0
 have hlb := leftI_bd hG.places (show 0 ≤ a by omega)
 have HO : Hid (offset1 S a = ({ S with ps := ps, cr := S.cr - (a - leftI (itemsOf S.ps) a) }, ⟨0, 0, 0, a - leftI (itemsOf S.ps) a, leftI (itemsOf S.ps) a - a, 0⟩, 0)) := hyd (by unfold offset1; rw [hgs])
 have hcr := hG.cr
 have HA0 := hyd (blk_alloc ha (.cells #[.int .i64 0, .int .i64 0, .int .i64 0, .int .i64 0, .int .i64 0, .int .i64 0] 33))
 have HM0 := hyd (blk_new w (.cells #[.int .i64 0, .int .i64 0, .int .i64 0, .int .i64 0, .int .i64 0, .int .i64 0] 33) rfl)
 have ca0 : w.cell? ⟨ga, 0, none⟩ = some (.int .i64 a) := (blk_cell ha 0).trans rfl
 have n2 : ga ≠ w.heap.size := by omega
 obtain ⟨rest, hrest⟩ : ∃ rest, leftI (itemsOf S.ps) a = rest := ⟨_, rfl⟩
 rw [hrest] at hlb HO
 have HR := hyd hrest
 have w1' : IntKind.i64.wrap (a - rest) = a - rest := IntWalk.i64_in _ (by omega)
 have w2' : IntKind.i64.wrap (S.cr - (a - rest)) = S.cr - (a - rest) := IntWalk.i64_in _ (by omega)
 have w3' : IntKind.i64.wrap (rest - a) = rest - a := IntWalk.i64_in _ (by omega)
 clear h hPF hb0 hv0 hgs hit hret hok hrise ha hrest hG
 go_enter Tryz.func60, Tryz.ntmps60
 go_wp2_with fail
 refine HP.out.mono ?_; rintro e w1 ⟨ht, hm⟩
 rw [HGS.out] at hm
 obtain ⟨A, c, rfl, ho1, hpt1, hl1⟩ := hm
 rw [HR.out]
 have ha1 := ht.box HV0.out HA0.out (by decide)
 have hm1 := ht.box HV0.out HM0.out (by decide)
 obtain ⟨a0, a1, a2, a3, a4, a5⟩ := cells5U ho1.hg
 have ca1 : w1.cell? ⟨ga, 0, none⟩ = some (.int .i64 a) := (blk_cell ha1 0).trans rfl
 obtain ⟨m0, m1, m2, m3, m4, m5, m6⟩ := cells6U hm1
 have hgl1 := blk_lt ho1.hg
 have hgne : gb ≠ ga := ne_of_type' ho1.hg ha1 (by decide)
 have hgnm : w.heap.size ≠ gb := fun e => by rw [e] at hm1; exact ne_of_type' ho1.hg hm1 (by decide) rfl
 have hgnm' : gb ≠ w.heap.size := fun e => hgnm e.symm
 have hml1 := blk_lt hm1
 have HT := hyd ht; have HO1 := hyd ho1; have HM1 := hyd hm1
 obtain ⟨pn, hpn⟩ : ∃ pn, (partsOf (itemsOf S.ps) a).length = pn := ⟨_, rfl⟩
 rw [hpn]
 clear ht ha1 hm1 ho1 hpt1 hl1 a0 a1 a3 a4 hpn
 go_wp2_with fail
 go_region_with (fail)
 all_goals go_wp2_with fail
 all_goals
  have p := (Puts.start (b := gb) (Below.refl w1.heap.size w1)).set 2 (.int .i64 (S.cr - (a - rest)))
  have hov := HO1.out.setCr p
  have hmv := (p.far w.heap.size hml1 hgnm).trans HM1.out
  have hbb : Below B w w1 := (HB0.out.mono hB).trans HT.out.bel
  obtain ⟨e1, e2⟩ := step_last { S with ps := ps, cr := S.cr - (a - rest) } ⟨0, 0, 0, a - rest, rest - a, 0⟩ (hbb.setCell hBg (.int .i64 (S.cr - (a - rest)))) ⟨vp, vq, qs, hov⟩ hmv hB
  rw [HO.out]
  exact mv_ret ⟨0, 0, 0, a - rest, rest - a, 0⟩ 0 w.heap.size rfl rfl rfl e1 e2
theorem offset_any (g B : Nat) (S : Ac) (a : Int) (w : World) (h : OwnAt w B g S) (hG : Good S) :
  Calls Tryz.prog 25 #[.pointer (some ⟨g, 0, none⟩), .int .i64 a] w (DoesOf w g S (offsetS S a)) := by
 have hgl := h.lt
 have hb0 : Below w.heap.size w ((w.alloc (.cells #[.int .i64 a] 2)).alloc (.cells #[.int .i64 0, .int .i64 0, .int .i64 0, .int .i64 0, .int .i64 0, .int .i64 0] 33)) := ((Below.refl _ _).alloc (Nat.le_refl _) _).alloc (by simp) _
 have hbx := blk_alloc (blk_new w (.cells #[.int .i64 a] 2) rfl) (.cells #[.int .i64 0, .int .i64 0, .int .i64 0, .int .i64 0, .int .i64 0, .int .i64 0] 33)
 have hz0 : ((w.alloc (.cells #[.int .i64 a] 2)).alloc (.cells #[.int .i64 0, .int .i64 0, .int .i64 0, .int .i64 0, .int .i64 0, .int .i64 0] 33)).heap.size = w.heap.size + 2 := by simp
 have HD := hyd (spends_any 60 (.pointer (some ⟨w.heap.size, 0, none⟩)) g B S a (offset1 S a) _ (h.below hb0) hG.small (fun u wx => by kernel_rfl)
  (fun h1 h2 gb B' wx hB hb hBx ho => offset1_any gb B' w.heap.size S a wx ho hBx (blk_below hbx hb (by rw [hz0]; omega)) hG h2 h1))
 have HB0 := hyd hb0
 have hm0 := blk_new (w.alloc (.cells #[.int .i64 a] 2)) (.cells #[.int .i64 0, .int .i64 0, .int .i64 0, .int .i64 0, .int .i64 0, .int .i64 0] 33) rfl
 have HM0 := hyd hm0
 have n1 : w.heap.size + 1 ≠ g := by omega
 have hmf : ∀ (fn : Fn) (first cap : Array Value) (w : World), (Instr.makeFunc fn first cap).run Tryz.prog w = .ok (.func fn first cap) w := fun _ _ _ _ => rfl
 clear h hb0 hbx hm0
 go_enter Tryz.func25, Tryz.ntmps25
 go_wp2_with fail
 refine HD.out.mono ?_; intro e w1 hd
 obtain ⟨m, er, rfl⟩ := hd.form
 have hm := move_keeps hd HM0.out (by simp; omega)
 simp only [World.size_alloc] at hm
 obtain ⟨m0, m1, m2, m3, m4, m5, m6⟩ := cells6U hm
 have HE := hyd (DoesOf.wrap HB0.out hd hm (by omega)); have HM := hyd (put6_at hm m)
 clear hd hm HD
 go_wp2_with fail
 exact mv_ret m er (w.heap.size + 1) rfl rfl rfl HM.out HE.out
theorem own_far_type {X Y : World} {B n s k : Nat} {v : Value} {e : TypeId} {xs : List Value} {cs : Array Value} {t : TypeId} {fr : Nat × Nat} (h : X.ownsRow B e s v n xs) (hg : X.grownBy Y v.ownBlock) (hk : X.heap[k]? = some (.cells cs t fr)) (ht : t ≠ e) : Y.heap[k]? = some (.cells cs t fr) :=
 (hg.block k (blk_lt hk) (fun e2 => by obtain ⟨_, cs', hcs⟩ := own_block_type h e2.symm; exact ne_of_type' hk hcs ht rfl)).trans hk
theorem own_app_end {X Y : World} {B gb : Nat} {S : Ac} {vp vq v5 v : Value} {qs : List PmE} {pm : Pm} {o : Obj} (h : OwnV X B gb S vp vq qs) (hpt : PartsAt X v pm.parts) (hg : (X.alloc o).grownBy Y vq.ownBlock)
  (ho : Y.ownsRow B 110 6 v5 (S.ms.length + 1) (pmCs qs ++ pmC ⟨pm, v⟩)) (hB : B ≤ X.heap.size) :
  OwnAt (Y.setCell ⟨gb, 4, none⟩ v5) B gb { S with ms := S.ms ++ [pm] } ∧ Below B X (Y.setCell ⟨gb, 4, none⟩ v5) ∧ ∀ (k : Nat) (cs : Array Value) (t : TypeId) (fr : Nat × Nat), X.heap[k]? = some (.cells cs t fr) → t ≠ 110 → k ≠ gb → (Y.setCell ⟨gb, 4, none⟩ v5).heap[k]? = some (.cells cs t fr) := by
 have hq' : (X.alloc o).ownsRow B 110 6 vq S.ms.length (pmCs qs) := h.hq.alloc _
 have keep : ∀ {k : Nat} {cs : Array Value} {t : TypeId} {fr : Nat × Nat}, X.heap[k]? = some (.cells cs t fr) → t ≠ 110 → Y.heap[k]? = some (.cells cs t fr) := fun hk ht => own_far_type hq' hg (blk_alloc hk o) ht
 have hgY := keep h.hg (by decide)
 have p : Puts Y gb [(4, v5)] (Y.setCell ⟨gb, 4, none⟩ v5) := (Puts.start (Below.refl _ _)).set 4 v5
 have hbY : Below B X Y := ((Below.refl B X).alloc hB o).grown hg (by simp; omega) (fun k hk => (own_block_type h.hq hk).1)
 refine ⟨⟨vp, v5, qs ++ [⟨pm, v⟩], p.near _ _ _ hgY, h.hB, ?_, ?_, by rw [List.map_append, h.hm]; rfl, fun q hq => ?_⟩, hbY.setCell h.hB _, fun k cs t fr hk ht hne => (p.far k (blk_lt (keep hk ht)) hne).trans (keep hk ht)⟩
 · have h1 : Y.ownsRow B 92 11 vp S.ps.length (perCs S.ps) := own_keep h.hp (fun b cs hb => (keep hb (by decide)).trans hb.symm)
   exact own_apart h1 p (fun e => by obtain ⟨_, cs, hcs⟩ := own_block_type h1 e; exact ne_of_type' hgY hcs (by decide) rfl)
 · have e1 : (S.ms ++ [pm]).length = S.ms.length + 1 := by simp
   show (Y.setCell ⟨gb, 4, none⟩ v5).ownsRow B 110 6 v5 (S.ms ++ [pm]).length (pmCs (qs ++ [⟨pm, v⟩]))
   rw [e1, pmCs_app, show pmCs [⟨pm, v⟩] = pmC ⟨pm, v⟩ by simp [pmCs]]
   exact own_apart ho p (fun e => by obtain ⟨_, cs, hcs⟩ := own_block_type ho e; exact ne_of_type' hgY hcs (by decide) rfl)
 · have h1 : PartsAt X q.v q.p.parts := by
     rcases List.mem_append.1 hq with hq | hq
     · exact h.parts q hq
     · rw [List.mem_singleton.1 hq]; exact hpt
   have h2 : PartsAt Y q.v q.p.parts := h1.keep (fun b cs hb => (keep hb (by decide)).trans hb.symm)
   exact h2.puts3 p hgY (by decide)
theorem step_last0 {w X : World} {B gb gm : Nat} (S' : Ac) (m : Mv) {x0 x1 x2 x3 x4 x5 : Value} (hb : Below B w X) (ho : OwnAt X B gb S') (hm : X.heap[gm]? = some (.cells #[x0, x1, x2, x3, x4, x5] 33 (0, 0))) (hgm : B ≤ gm) :
  (put6 X gm m).heap[gm]? = some (.cells #[.int .i64 m.c0, .int .i64 m.c1, .int .i64 m.c2, .int .i64 m.paid, .int .i64 m.cr, .int .i64 m.cash] 33 (0, 0)) ∧ StepOf w B gb (S', m, 0) (.returned (mvR m 0)) (put6 X gm m) := by
 have e1 := put6_at hm m
 have e2 := step_end (r := (S', m, 0)) hb ho hm hgm rfl
 have e3 : StepOf w B gb (S', m, 0) (.returned (mvR m 0)) (put6 X gm m) := e2
 generalize put6 X gm m = W at *
 exact ⟨e1, e3⟩
theorem OwnV.drew {w : World} {B g : Nat} {S : Ac} {vp vq : Value} {qs : List PmE} (h : OwnV w B g S vp vq qs) : OwnV w.drew B g S vp vq qs := h.below (Below.refl _ _).drew
theorem PartsAt.drew {w : World} {v : Value} {l : List Dq} (h : PartsAt w v l) : PartsAt w.drew v l := h.below (Below.refl _ _).drew
theorem pay1_any (gb B ga gi : Nat) (S : Ac) (id a : Int) (w : World) (h : OwnAt w B gb S) (hB : B ≤ w.heap.size) (ha : w.heap[ga]? = some (.cells #[.int .i64 a] 2 (0, 0))) (hi : w.heap[gi]? = some (.cells #[.int .i64 id] 3 (0, 0))) (hG : Good S) (h2 : 1 ≤ a ∧ a ≤ 1125899906842624) :
  Calls Tryz.prog 51 #[.pointer (some ⟨gb, 0, none⟩), .pointer (some ⟨ga, 0, none⟩), .pointer (some ⟨gi, 0, none⟩)] w (StepOf w B gb (pay1 S id a)) := by
 obtain ⟨vp, vq, qs, h⟩ := h
 have hPF := pay_facts hG.day hG.bp hG.rise hG.per (by have := hG.np; omega) (show 0 ≤ a by omega)
 have hBg := h.hB
 have hgl := blk_lt h.hg
 have hal := blk_lt ha
 have hil := blk_lt hi
 have hb0 : Below w.heap.size w (w.alloc (.cells #[.int .i64 0, .int .i64 0, .int .i64 0, .int .i64 0, .int .i64 0, .int .i64 0] 33)) := bnewU _ _
 have hv0 := h.below hb0
 have HP := hyd (upay_any gb B S vp vq qs a _ hv0 (Nat.le_trans hB hb0.size) (by have := hG.np; omega) (by omega) hG.day hG.places hPF.1)
 obtain ⟨ps, hgs, hit, hret, hok, hrise⟩ := hPF.2
 have HGS := hyd hgs
 have HV0 := hyd hv0; have HB0 := hyd hb0
 have hlb := leftI_bd hG.places (show 0 ≤ a by omega)
 have hmsl := hG.nm
 have HA0 := hyd (blk_alloc ha (.cells #[.int .i64 0, .int .i64 0, .int .i64 0, .int .i64 0, .int .i64 0, .int .i64 0] 33))
 have HI0 := hyd (blk_alloc hi (.cells #[.int .i64 0, .int .i64 0, .int .i64 0, .int .i64 0, .int .i64 0, .int .i64 0] 33))
 have HM0 := hyd (blk_new w (.cells #[.int .i64 0, .int .i64 0, .int .i64 0, .int .i64 0, .int .i64 0, .int .i64 0] 33) rfl)
 have ca0 : w.cell? ⟨ga, 0, none⟩ = some (.int .i64 a) := (blk_cell ha 0).trans rfl
 have n2 : ga ≠ w.heap.size := by omega
 obtain ⟨rest, hrest⟩ : ∃ rest, leftI (itemsOf S.ps) a = rest := ⟨_, rfl⟩
 obtain ⟨cr', er, hadd⟩ : ∃ cr' er, addS S.cr rest = (cr', er) := ⟨_, _, rfl⟩
 have HO : Hid (pay1 S id a = if er = 0 then ({ S with ps := ps, cr := cr', ms := S.ms ++ [⟨id, S.day, a, partsOf (itemsOf S.ps) a, rest, false⟩] }, ⟨0, 0, 0, a - rest, rest, a⟩, 0) else (S, Mv.zero, 2)) := hyd (by unfold pay1; rw [hgs, hrest]; simp only [hadd])
 rw [hrest] at hlb
 have HR := hyd hrest
 have w1' : IntKind.i64.wrap (a - rest) = a - rest := IntWalk.i64_in _ (by omega)
 have HADD := hyd hadd
 have hY := hyd (fun wx (h0 : er = 0) => uadd_yes S.cr rest wx (by rw [hadd]; exact h0))
 have hN := hyd (fun wx (h0 : er ≠ 0) => uadd_no S.cr rest wx (by rw [hadd]; exact h0))
 rw [hadd] at hY
 clear h hPF hb0 hv0 hgs hit hret hok hrise ha hi hrest hG hadd
 go_enter Tryz.func51, Tryz.ntmps51
 go_wp2_with fail
 refine HP.out.mono ?_; rintro e w1 ⟨ht, hm⟩
 rw [HGS.out] at hm
 obtain ⟨A, c, rfl, ho1, hpt1, hl1⟩ := hm
 rw [HR.out]
 have ha1 := ht.box HV0.out HA0.out (by decide)
 have hi1 := ht.box HV0.out HI0.out (by decide)
 have hm1 := ht.box HV0.out HM0.out (by decide)
 obtain ⟨a0, a1, a2, a3, a4, a5⟩ := cells5U ho1.hg
 have hgl1 := blk_lt ho1.hg
 have hgne : gb ≠ ga := ne_of_type' ho1.hg ha1 (by decide)
 have hgni : gb ≠ gi := ne_of_type' ho1.hg hi1 (by decide)
 have hgnm : w.heap.size ≠ gb := fun e => by rw [e] at hm1; exact ne_of_type' ho1.hg hm1 (by decide) rfl
 have hbb1 : Below B w w1 := (HB0.out.mono hB).trans ht.bel
 have HBB1 := hyd hbb1; have HO1 := hyd ho1; have HM1 := hyd hm1; have HA1 := hyd ha1; have HI1 := hyd hi1
 obtain ⟨pn, hpn⟩ : ∃ pn, (partsOf (itemsOf S.ps) a).length = pn := ⟨_, rfl⟩
 rw [hpn] at hpt1 ⊢
 have HPT1 := hyd hpt1
 clear ht ha1 hi1 hm1 ho1 hpt1 hl1 a0 a1 a3 a4 hpn hbb1
 by_cases h0 : er = 0
 · have hY2 := hY.out
   have HY := hyd (fun wx => hY2 wx h0)
   have HO2 := HO.out
   rw [if_pos h0] at HO2
   have HOO := hyd HO2
   clear hY2 HO2 hY hN HO h0 HADD
   go_wp2_with fail
   refine (HY.out _).mono ?_; rintro e w2 ⟨rfl, hw2⟩
   have ho2 := HO1.out.below hw2
   obtain ⟨b0, b1, b2, b3, b4, b5⟩ := cells5U ho2.hg
   have hgl2 := blk_lt ho2.hg
   have ha2 := blk_below HA1.out hw2 (blk_lt HA1.out)
   have hi2 := blk_below HI1.out hw2 (blk_lt HI1.out)
   have hm2 := blk_below HM1.out hw2 (blk_lt HM1.out)
   have hal2 := blk_lt ha2; have hil2 := blk_lt hi2
   have ca2 : w2.cell? ⟨ga, 0, none⟩ = some (.int .i64 a) := (blk_cell ha2 0).trans rfl
   have ci2 : w2.cell? ⟨gi, 0, none⟩ = some (.int .i64 id) := (blk_cell hi2 0).trans rfl
   obtain ⟨Aq, cq, rfl, hqc, _⟩ := ho2.rdq
   have p2 : Puts w2 gb [(2, .int .i64 cr')] (w2.setCell ⟨gb, 2, none⟩ (.int .i64 cr')) := (Puts.start (Below.refl _ _)).set 2 _
   have ho3 := (ho2.setCr p2).drew
   have hpt3 : PartsAt (w2.setCell ⟨gb, 2, none⟩ (.int .i64 cr')).drew (.slice A pn c) (partsOf (itemsOf S.ps) a) := ((HPT1.out.below hw2).puts3 p2 ho2.hg (by decide)).drew
   have hm3 := (p2.far w.heap.size (blk_lt hm2) hgnm).trans hm2
   have ha3 := (p2.far ga hal2 (Ne.symm hgne)).trans ha2
   have hbb3 : Below B w (w2.setCell ⟨gb, 2, none⟩ (.int .i64 cr')).drew := ((HBB1.out.trans (hw2.mono (Nat.le_trans hB HBB1.out.size))).setCell hBg _).drew
   have HO3 := hyd ho3; have HPT3 := hyd hpt3; have HBB3 := hyd hbb3
   have HM3 : Hid ((w2.setCell ⟨gb, 2, none⟩ (.int .i64 cr')).drew.heap[w.heap.size]? = _) := hyd hm3
   have HA3 : Hid ((w2.setCell ⟨gb, 2, none⟩ (.int .i64 cr')).drew.heap[ga]? = _) := hyd ha3
   obtain ⟨i0, hi, hz0, hz1, hz2⟩ := info_parts info_pm
   have HPO := hyd (pmCs_one HO1.out.parts)
   have HII := hyd hi
   have hz3 : B ≤ (w2.setCell ⟨gb, 2, none⟩ (.int .i64 cr')).drew.heap.size := Nat.le_trans hB hbb3.size
   clear hw2 ho2 ha2 hi2 hm2 p2 ho3 hpt3 hm3 ha3 hbb3 hi b1 b3
   go_wp2_with fail
   go_cut [] from 23 to 40 (fun wc => OwnAt wc B gb { S with ps := ps, cr := cr', ms := S.ms ++ [⟨id, S.day, a, partsOf (itemsOf S.ps) a, rest, false⟩] } ∧ Below B w wc ∧ wc.heap[w.heap.size]? = some (.cells #[.int .i64 0, .int .i64 0, .int .i64 0, .int .i64 0, .int .i64 0, .int .i64 0] 33 (0, 0)) ∧ wc.heap[ga]? = some (.cells #[.int .i64 a] 2 (0, 0)))
   case first =>
    go_region_law (first
     | (refine step_app rfl (.tmp 27) (.tmp 37) 81 rfl B 110 i0 _ 6 64 Tryz.underlying81 HII.out hz0 hz1 hz2 rfl (by omega) (.slice Aq S.ms.length cq) S.ms.length (pmCs qs) rfl (HO3.out.hq.alloc _) _ (some ⟨w2.heap.size, 0, none⟩) 1 1 _ rfl (Rd.new (w := (w2.setCell ⟨gb, 2, none⟩ (.int .i64 cr')).drew) (cs := #[.int .i64 id, .int .i64 S.day, .int .i64 a, .slice A pn c, .int .i64 rest, .bool false]) (t := 110) (by simp) rfl) (by intro u hu; simp at hu; rcases hu with rfl | rfl | rfl | rfl | rfl | rfl <;> rfl) (by unfold maxLen; omega) (by omega) (by simp at hz3 ⊢; omega) ?_
        intro v5 w5 hO hgr hat
        have hE := own_app_end (pm := ⟨id, S.day, a, partsOf (itemsOf S.ps) a, rest, false⟩) HO3.out HPT3.out hgr hO hz3
        have hgb5 := own_far_type (HO3.out.hq.alloc _) hgr (blk_alloc HO3.out.hg _) (by decide)
        obtain ⟨d0, d1, d2, d3, d4, d5⟩ := cells5U hgb5
        have hgl5 := blk_lt hgb5
        obtain ⟨A5, c5, rfl, _⟩ := own_form hO
        have HE := hyd hE
        clear hO hgr hat hE hgb5))
    all_goals go_wp2_with fail
    all_goals go_meet
    all_goals exact ⟨HE.out.1, HBB3.out.trans HE.out.2.1, HE.out.2.2 _ _ _ _ HM3.out (by decide) hgnm, HE.out.2.2 _ _ _ _ HA3.out (by decide) (Ne.symm hgne)⟩
   case rest =>
    obtain ⟨hoc, hbc, hmc, hac⟩ := hcut
    have cac : wc.cell? ⟨ga, 0, none⟩ = some (.int .i64 a) := (blk_cell hac 0).trans rfl
    obtain ⟨m0, m1, m2, m3, m4, m5, m6⟩ := cells6U hmc
    have hgac := blk_lt hac
    obtain ⟨e1, e2⟩ := step_last0 { S with ps := ps, cr := cr', ms := S.ms ++ [⟨id, S.day, a, partsOf (itemsOf S.ps) a, rest, false⟩] } ⟨0, 0, 0, a - rest, rest, a⟩ hbc hoc hmc hB
    have E1 := hyd e1; have E2 := hyd e2
    have n5 : ga ≠ w.heap.size := n2
    clear e1 e2 hoc hbc hmc hac
    go_wp2_with fail
    rw [HOO.out]
    exact mv_ret ⟨0, 0, 0, a - rest, rest, a⟩ 0 w.heap.size rfl rfl rfl E1.out E2.out
 · have hN2 := hN.out
   have HN := hyd (fun wx => hN2 wx h0)
   have HO2 := HO.out
   rw [if_neg h0] at HO2
   have HOO := hyd HO2
   clear hN2 HO2 hY hN HO h0 HADD
   go_wp2_with fail
   refine (HN.out _).mono ?_; rintro e w2 ⟨rfl, hw2⟩
   exact ⟨rfl, HBB1.out.trans (hw2.mono (Nat.le_trans hB HBB1.out.size)), by rw [HOO.out]; exact .inr ⟨by show (2 : Int) ≠ 0; decide, .inr rfl⟩⟩
theorem info_perR : (Tryz.prog.info? 169).map (fun i => (i.zero, i.size, i.bytes)) = some (some (.agg #[.int .i64 0, .int .i64 0, .int .i64 0, .int .i64 0, .int .i64 0, .int .i64 0, .int .i64 0, .int .i64 0, .int .i64 0, .int .i64 0, .int .i64 0, .int .i64 0, .int .i64 0]), 13, 104) := by kernel_rfl
theorem perRCs_one (bp : Int) (ps : List Per) : ∀ u ∈ perRCs bp ps, u.oneCell' = true := by
 intro u hu
 obtain ⟨q, _, hq⟩ := List.mem_flatMap.1 hu
 simp [perRC] at hq
 rcases hq with rfl | rfl | rfl | rfl | rfl | rfl | rfl | rfl | rfl | rfl | rfl | rfl | rfl <;> rfl
@[reducible] def acO (d b c : Int) (vp vq : Value) : Obj := .cells #[.int .i64 d, .int .i64 b, .int .i64 c, vp, vq] 123
structure CopInv (w wr : World) (g0 : Nat) (S : Ac) (k : Nat) (vp vq : Value) (rs : List PmE) : Prop where
 own : RefV wr w.heap.size g0 { S with ms := S.ms.take k } vp vq rs
 bel : Below w.heap.size w wr
theorem cop_start {X Y : World} {w : World} {g0 : Nat} {S : Ac} {vp : Value} (hX : Below w.heap.size w X) (hg : X.heap[g0]? = some (acO S.day S.bp S.cr (.slice none 0 0) (.slice none 0 0))) (hg0 : w.heap.size ≤ g0) (ho : Y.ownsRow w.heap.size 169 13 vp S.ps.length (perRCs S.bp S.ps)) (hgr : X.grownBy Y none) :
  CopInv w (Y.setCell ⟨g0, 3, none⟩ vp) g0 S 0 vp (.slice none 0 0) [] := by
 have hYg := (hgr.block g0 (blk_lt hg) (by simp)).trans hg
 have hb : Below w.heap.size w Y := hX.grown hgr hX.size (fun k hk => by cases hk)
 have p : Puts Y g0 [(3, vp)] (Y.setCell ⟨g0, 3, none⟩ vp) := (Puts.start (Below.refl _ _)).set 3 vp
 refine ⟨⟨p.near _ _ _ hYg, hg0, own_apart ho p (fun e => ?_), World.ownsRow_nil _ _ _ _, rfl, fun q hq => by simp at hq⟩, hb.setCell hg0 _⟩
 obtain ⟨_, cs, hcs⟩ := own_block_type ho e; exact ne_of_type' hYg hcs (by decide) rfl
theorem RefV.rdq {w : World} {B g : Nat} {S : Ac} {vp vq : Value} {qs : List PmE} (h : RefV w B g S vp vq qs) : ∃ A c, vq = .slice A S.ms.length c ∧ S.ms.length ≤ c ∧ Rd w w.heap.size 6 A S.ms.length (pmCs qs) := by
 obtain ⟨A, c, rfl, _⟩ := own_form h.hq
 refine ⟨A, c, rfl, ?_, Rd.of_own h.hq⟩
 rcases h.hq.2 with ⟨h1, h2⟩ | ⟨g, cap, cur, h1, _, _, h4, _⟩
 · omega
 · injection h1 with _ _ h1; omega
theorem ref_app_end {X Y : World} {B gb : Nat} {S : Ac} {vp vq v5 v : Value} {qs : List PmE} {pm : Pm} {o : Obj} (h : RefV X B gb S vp vq qs) (hpt : PartsAt X v pm.parts) (hg : (X.alloc o).grownBy Y vq.ownBlock)
  (ho : Y.ownsRow B 110 6 v5 (S.ms.length + 1) (pmCs qs ++ pmC ⟨pm, v⟩)) (hB : B ≤ X.heap.size) :
  RefV (Y.setCell ⟨gb, 4, none⟩ v5) B gb { S with ms := S.ms ++ [pm] } vp v5 (qs ++ [⟨pm, v⟩]) ∧ Below B X (Y.setCell ⟨gb, 4, none⟩ v5) := by
 have hq' : (X.alloc o).ownsRow B 110 6 vq S.ms.length (pmCs qs) := h.hq.alloc _
 have keep : ∀ {k : Nat} {cs : Array Value} {t : TypeId} {fr : Nat × Nat}, X.heap[k]? = some (.cells cs t fr) → t ≠ 110 → Y.heap[k]? = some (.cells cs t fr) := fun hk ht => own_far_type hq' hg (blk_alloc hk o) ht
 have hgY := keep h.hg (by decide)
 have p : Puts Y gb [(4, v5)] (Y.setCell ⟨gb, 4, none⟩ v5) := (Puts.start (Below.refl _ _)).set 4 v5
 have hbY : Below B X Y := ((Below.refl B X).alloc hB o).grown hg (by simp; omega) (fun k hk => (own_block_type h.hq hk).1)
 refine ⟨⟨p.near _ _ _ hgY, h.hB, ?_, ?_, by rw [List.map_append, h.hm]; rfl, fun q hq => ?_⟩, hbY.setCell h.hB _⟩
 · have h1 : Y.ownsRow B 169 13 vp S.ps.length (perRCs S.bp S.ps) := own_keep h.hp (fun b cs hb => (keep hb (by decide)).trans hb.symm)
   exact own_apart h1 p (fun e => by obtain ⟨_, cs, hcs⟩ := own_block_type h1 e; exact ne_of_type' hgY hcs (by decide) rfl)
 · have e1 : (S.ms ++ [pm]).length = S.ms.length + 1 := by simp
   show (Y.setCell ⟨gb, 4, none⟩ v5).ownsRow B 110 6 v5 (S.ms ++ [pm]).length (pmCs (qs ++ [⟨pm, v⟩]))
   rw [e1, pmCs_app, show pmCs [⟨pm, v⟩] = pmC ⟨pm, v⟩ by simp [pmCs]]
   exact own_apart ho p (fun e => by obtain ⟨_, cs, hcs⟩ := own_block_type ho e; exact ne_of_type' hgY hcs (by decide) rfl)
 · have h1 : PartsAt X q.v q.p.parts := by
     rcases List.mem_append.1 hq with hq | hq
     · exact h.parts q hq
     · rw [List.mem_singleton.1 hq]; exact hpt
   have h2 : PartsAt Y q.v q.p.parts := h1.keep (fun b cs hb => (keep hb (by decide)).trans hb.symm)
   exact h2.puts3 p hgY (by decide)
@[reducible] def pmO (q : PmE) : Obj := .cells #[.int .i64 q.p.id, .int .i64 q.p.day, .int .i64 q.p.amt, q.v, .int .i64 q.p.rest, .bool q.p.rev] 110
theorem cop_box2 {w X w1 : World} {g0 gl k nv cv : Nat} {S : Ac} {vp vq v1 : Value} {Av : Option Addr} {rs : List PmE} {p : Pm} (h : CopInv w X g0 S k vp vq rs) (hpa : PartsAt X (.slice Av nv cv) p.parts) (hx : X.heap[gl]? = some (pmO ⟨p, .slice Av nv cv⟩)) (hgl : w.heap.size ≤ gl) (hq : vq.ownBlock ≠ some gl)
  (hO : w1.ownsRow X.heap.size 58 4 v1 p.parts.length (itCs p.parts)) (hgr : (X.alloc (.cells #[] 58)).grownBy w1 (some X.heap.size)) :
  CopInv w (w1.setCell ⟨gl, 3, none⟩ v1) g0 S k vp vq rs ∧ PartsAt (w1.setCell ⟨gl, 3, none⟩ v1) v1 p.parts ∧ (w1.setCell ⟨gl, 3, none⟩ v1).heap[gl]? = some (pmO ⟨p, v1⟩) ∧ Below gl X (w1.setCell ⟨gl, 3, none⟩ v1) := by
 have hlX := blk_lt hx
 have hb0 : Below X.heap.size X (X.alloc (.cells #[] 58)) := bnewU _ _
 have hb1 : Below X.heap.size X w1 := hb0.grown hgr hb0.size (fun k hk => by injection hk with hk; subst hk; exact Nat.le_refl _)
 have hbx := (hb1.block gl hlX).trans hx
 have hp : Puts w1 gl [(3, v1)] (w1.setCell ⟨gl, 3, none⟩ v1) := (Puts.start (Below.refl _ _)).set 3 v1
 have hb2 : Below gl X (w1.setCell ⟨gl, 3, none⟩ v1) := (hb1.mono (Nat.le_of_lt hlX)).setCell (p := ⟨gl, 3, none⟩) (Nat.le_refl gl) _
 have hv1 := h.own.below hb1
 refine ⟨⟨⟨?_, hv1.hB, own_apart hv1.hp hp (fun e => ?_), own_apart hv1.hq hp hq, hv1.hm, fun q hq => (hv1.parts q hq).puts3 hp hbx (by decide)⟩, h.bel.trans (hb2.mono hgl)⟩, (PartsAt.of_own hO).puts3 hp hbx (by decide), hp.near _ _ _ hbx, hb2⟩
 · exact (hp.far g0 (blk_lt hv1.hg) (ne_of_type' hv1.hg hbx (by decide))).trans hv1.hg
 · obtain ⟨_, cs, hcs⟩ := own_block_type hv1.hp e; exact ne_of_type' hbx hcs (by decide) rfl
theorem cop_app {w Y w5 : World} {g0 k cq : Nat} {Aq : Option Addr} {S : Ac} {vp v5 v : Value} {rs : List PmE} {p : Pm} {o : Obj} (h : CopInv w Y g0 S k vp (.slice Aq k cq) rs) (hk : (S.ms.take k).length = k) (hpt : PartsAt Y v p.parts) (hT : S.ms.take k ++ [p] = S.ms.take (k + 1))
  (hg : (Y.drew.alloc o).grownBy w5 (Value.slice Aq k cq).ownBlock) (ho : w5.ownsRow w.heap.size 110 6 v5 (k + 1) (pmCs rs ++ pmC ⟨p, v⟩)) :
  CopInv w (w5.setCell ⟨g0, 4, none⟩ v5) g0 S (k + 1) vp v5 (rs ++ [⟨p, v⟩]) ∧ w5.heap[g0]? = some (acO S.day S.bp S.cr vp (.slice Aq k cq)) := by
 have hd := h.own.below (Below.refl _ _).drew
 have hE := ref_app_end (pm := p) (v := v) (v5 := v5) hd (hpt.below (Below.refl _ _).drew) hg (by show w5.ownsRow w.heap.size 110 6 v5 ((S.ms.take k).length + 1) (pmCs rs ++ pmC ⟨p, v⟩); rw [hk]; exact ho) h.bel.size
 refine ⟨⟨?_, h.bel.drew.trans hE.2⟩, own_far_type (hd.hq.alloc _) hg (blk_alloc (w := Y.drew) hd.hg _) (by decide)⟩
 rw [← hT]; exact hE.1
theorem rcopied_any (g B : Nat) (S : Ac) (w : World) (h : RefAt w B g S) (hs : S.small) :
  Calls Tryz.prog 120 #[.pointer (some ⟨g, 0, none⟩)] w fun e w' => ∃ gb, e = .returned (.pointer (some ⟨gb, 0, none⟩)) ∧ w.heap.size ≤ gb ∧ Below w.heap.size w w' ∧ RefAt w' w.heap.size gb S := by
 obtain ⟨vp, vq, qs, h⟩ := h
 obtain ⟨Ap, cp, rfl, hcp, hrp⟩ := h.rdp
 obtain ⟨Aq, cq, rfl, hq1⟩ := own_form h.hq
 obtain ⟨a0, a1, a2, a3, a4, a5⟩ := cells5U h.hg
 have hgl := blk_lt h.hg
 obtain ⟨i0, hi, hz0, hz1, hz2⟩ := info_parts info_perR
 obtain ⟨np, hnp⟩ : ∃ np, S.ps.length = np := ⟨_, rfl⟩
 obtain ⟨nm, hnm⟩ : ∃ nm, S.ms.length = nm := ⟨_, rfl⟩
 rw [hnp] at hrp a3
 rw [hnm] at a4
 have hnp1 : np ≤ 1000 := by have := hs.2.1; omega
 have hnm1 : nm ≤ 1000 := by have := hs.1; omega
 have HV := hyd h; have HRP := hyd hrp; have HNP := hyd hnp; have HNM := hyd hnm; have HS := hyd hs
 have n1 : g ≠ w.heap.size := by omega
 have n2 : w.heap.size ≠ g := by omega
 clear h hrp hq1 hs hcp hnp hnm
 go_enter Tryz.func120, Tryz.ntmps120
 go_wp2_with fail
 go_region
 have hX0 : (w.alloc (acO S.day S.bp S.cr (.slice none 0 0) (.slice none 0 0))).drew.heap[w.heap.size]? = some (acO S.day S.bp S.cr (.slice none 0 0) (.slice none 0 0)) := blk_new w _ rfl
 have hB0 : Below w.heap.size w (w.alloc (acO S.day S.bp S.cr (.slice none 0 0) (.slice none 0 0))).drew := (bnewU _ _).drew
 go_upto_region 2 with fail
 generalize (w.alloc (acO S.day S.bp S.cr (.slice none 0 0) (.slice none 0 0))).drew = X at *
 have HX0 := hyd hX0; have HB0 := hyd hB0
 have hvx := HV.out.below hB0
 have HVX := hyd hvx
 obtain ⟨a0, a1, a2, a3, a4, a5⟩ := cells5U hvx.hg
 rw [HNP.out] at a3
 obtain ⟨b0, b1, b2, b3, b4, b5⟩ := cells5U hX0
 have hgx := blk_lt hvx.hg; have hg0 := blk_lt hX0
 clear hX0 hB0 hvx
 have HRX : Hid (Rd X.drew X.drew.heap.size 13 Ap np (perRCs S.bp S.ps)) := hyd ((HRP.out.below (HB0.out.drew)).wider (HB0.out.drew.size))
 go_cut [] from 20 to 31 (fun wc => ∃ vp, CopInv w wc w.heap.size S 0 vp (.slice none 0 0) [])
 case first =>
  go_region_law (refine step_app rfl (.tmp 24) (.tmp 28) 121 rfl w.heap.size 169 i0 _ 13 104 Tryz.underlying121 hi hz0 hz1 hz2 rfl (by omega) (.slice none 0 0) 0 [] rfl (World.ownsRow_nil _ _ _ _) _ Ap np cp (perRCs S.bp S.ps) rfl HRX.out (perRCs_one _ _) (by unfold maxLen; omega) (by omega) (by simp; omega) ?_
                 intro v5 w5 hO hgr hat
                 have hgr' : X.grownBy w5 none := ⟨hgr.os, hgr.tape, hgr.output, hgr.size, hgr.block⟩
                 have hC := cop_start (g0 := w.heap.size) HB0.out HX0.out (Nat.le_refl _) (by rw [HNP.out]; simpa using hO) hgr'
                 have hd5 := (hgr'.block w.heap.size (blk_lt HX0.out) (by simp)).trans HX0.out
                 obtain ⟨d0, d1, d2, d3, d4, d5⟩ := cells5U hd5
                 have hgl5 := blk_lt hd5
                 obtain ⟨A5, c5, rfl, _⟩ := own_form hO
                 have HC := hyd hC
                 clear hO hgr hgr' hat hC hd5)
  all_goals go_wp2_with fail
  all_goals go_meet
  all_goals exact ⟨_, by have := HC.out; rwa [Nat.zero_add] at this⟩
 case rest =>
  obtain ⟨vp0, hcut⟩ := hcut
  have HC0 := hyd hcut
  obtain ⟨j0, hj, jz0, jz1, jz2⟩ := info_parts info_pm
  obtain ⟨t0, ht, tz0, tz1, tz2⟩ := info_parts info_it
  clear hcut a0 a1 a2 a3 a4 a5 b0 b1 b2 b3 b4 b5 hgx hg0 HRX HVX HX0 HB0
  go_wp2_with fail
  go_loopg [4] nm (fun gh v4 wr => ∃ k vp vq rs, gh = nm - k ∧ k ≤ nm ∧ v4 = .int .i64 k ∧ CopInv w wr w.heap.size S k vp vq rs)
  case atStart => exact ⟨0, _, _, _, rfl, by omega, rfl, HC0.out⟩
  case round =>
   obtain ⟨k, vp, vq, rs, hgk, hk, rfl, hinv⟩ := hrel
   have HG := hyd hgk; have HI := hyd hinv
   have hvr := HV.out.below hinv.bel
   obtain ⟨a0, a1, a2, a3, a4, a5⟩ := cells5U hvr.hg
   rw [HNM.out] at a4
   have hgr := blk_lt hvr.hg
   have hzr : w.heap.size ≤ wr.heap.size := hinv.bel.size
   by_cases hlt : k < nm
   · have hkl : k < qs.length := by rw [HV.out.len, HNM.out]; exact hlt
     have hkm : k < S.ms.length := by rw [HNM.out]; exact hlt
     obtain ⟨b, off, rfl, hb, c0, c1, c2, c3, c4, c5⟩ := (Rd.of_own hvr.hq).pm hkl
     have hpa := hvr.parts _ (List.getElem_mem hkl)
     have hqk : qs[k].p = S.ms[k] := by
      have := HV.out.hm
      simp only [← this, List.getElem_map]
     have HTK : Hid (S.ms.take k ++ [qs[k].p] = S.ms.take (k + 1)) := hyd (by rw [hqk, List.take_succ_eq_append_getElem hkm])
     have hql : qs[k].p.parts.length ≤ 1000 := by rw [hqk]; exact HS.out.2.2 _ (List.getElem_mem hkm)
     have hlr : rs.length = k := by have := hinv.own.len; simp at this; omega
     generalize qs[k] = q at *
     obtain ⟨Av, cv, ev⟩ := hpa.form
     obtain ⟨qp, qv⟩ := q
     simp only at ev
     subst ev
     obtain ⟨nv, hnv⟩ : ∃ nv, qp.parts.length = nv := ⟨_, rfl⟩
     simp only [hnv] at hpa c0 c1 c2 c3 c4 c5 hql
     have i1 : (0 : Int) ≤ (k : Int) := by omega
     have i2 : (k : Int) < (nm : Int) := by omega
     have HNV := hyd hnv
     have HPA := hyd hpa
     have hXb : Below wr.heap.size wr (wr.alloc (pmO ⟨qp, .slice Av nv cv⟩)) := bnewU _ _
     have hXs : (wr.alloc (pmO ⟨qp, .slice Av nv cv⟩)).heap.size = wr.heap.size + 1 := World.size_alloc _ _
     have hXg := blk_new wr (pmO ⟨qp, .slice Av nv cv⟩) rfl
     have HIX : Hid (CopInv w (wr.alloc (pmO ⟨qp, .slice Av nv cv⟩)) w.heap.size S k vp vq rs) := hyd ⟨hinv.own.below hXb, hinv.bel.trans (hXb.mono hzr)⟩
     have HPX := hyd (hpa.below hXb)
     have HVX := hyd (hvr.below hXb)
     have HIN := hyd hinv
     clear hgk hinv hvr hpa hqk hnv
     go_upto_region 7 with fail
     generalize wr.alloc (pmO ⟨qp, .slice Av nv cv⟩) = X at *
     have HXG := hyd hXg
     obtain ⟨x0, x1, x2, x3, x4, x5, x6⟩ := cells6U hXg
     have hxl := blk_lt hXg
     obtain ⟨gl, hgl7⟩ : ∃ gl, wr.heap.size = gl := ⟨_, rfl⟩
     rw [hgl7] at HXG x0 x1 x2 x3 x4 x5 x6 hxl hXb hXs
     have HMK : Hid ((X.alloc (.cells #[] 58)).ownsRow X.heap.size 58 4 (.slice (some ⟨X.heap.size, 0, none⟩) 0 0) 0 []) := hyd (World.ownsRow_made (e := 58) (size := 4) X #[] 0 (Nat.le_refl _) (by omega) rfl)
     have HRV : Hid (Rd (X.alloc (.cells #[] 58)) (X.alloc (.cells #[] 58)).heap.size 4 Av nv (itCs qp.parts)) := hyd (((HPX.out.rd.2.2.2).below (bnewU _ _)).wider (bnewU X _).size)
     have HCB := hyd (fun w1 v1 => cop_box2 (w1 := w1) (v1 := v1) HIX.out HPX.out HXG.out (by omega) (fun e => by obtain ⟨_, cs, hcs⟩ := own_block_type HIN.out.own.hq e; have := blk_lt hcs; omega))
     clear hXs hXg c0 c1 c2 c3 c4 c5 a0 a1 a2 a3 a4 x0 x1 x2 x4 x5
     go_wp2_with (at_builtin; (refine wpList_app rfl (.tmp 48) (.tmp 50) _ rfl X.heap.size 58 t0 _ 4 32 Tryz.underlying41 ht tz0 tz1 tz2 rfl (by omega) (.slice (some ⟨X.heap.size, 0, none⟩) 0 0) 0 [] rfl HMK.out (X.alloc (.cells #[] 58)).heap.size Av nv cv (itCs qp.parts) rfl HRV.out (itCs_one qp.parts) (by unfold maxLen; omega) (by omega) (by simp) ?_; intro v1 w1 hO hg hat; have hbx1 := (hg.block gl (blk_lt (blk_alloc HXG.out _)) (fun e => absurd (Option.some.inj e) (Nat.ne_of_lt (blk_lt HXG.out)))).trans (blk_alloc HXG.out _); obtain ⟨y0, y1, y2, y3, y4, y5, y6⟩ := cells6U hbx1; have hyl := blk_lt hbx1; have hCB := HCB.out w1 v1 (by rw [HNV.out]; simpa using hO) hg; obtain ⟨A1, k1, rfl, _⟩ := own_form hO; rw [Nat.zero_add] at hCB; have HCB1 := hyd hCB; clear hO hg hat hbx1 hCB y0 y1 y2 y4 y5))
     go_upto_region 8 with fail
     have hY := HCB1.out
     generalize w1.setCell ⟨gl, 3, none⟩ (.slice A1 nv k1) = Y at *
     obtain ⟨hI1, hP1, hX1, hB1⟩ := hY
     obtain ⟨z0, z1, z2, z3, z4, z5, z6⟩ := cells6U hX1
     simp only at z0 z1 z2 z3 z4 z5
     have hzl := blk_lt hX1
     have hlk : (S.ms.take k).length = k := by rw [List.length_take]; omega
     obtain ⟨Aq1, cq1, rfl, _⟩ := own_form hI1.own.hq
     obtain ⟨b0, b1, b2, b3, b4, b5⟩ := cells5U hI1.own.hg
     simp only [hlk] at b4
     have hgy := blk_lt hI1.own.hg
     have hOQ := hI1.own.hq
     simp only [hlk] at hOQ
     simp only [hlk] at hI1
     have HOQ := hyd hOQ; have HI1 := hyd hI1; have HP1 := hyd hP1; have HLK := hyd hlk
     have hwY : w.heap.size ≤ Y.heap.size := hI1.bel.size
     clear hI1 hP1 hX1 hB1 hOQ hlk y3 y6 hyl x3 x6 hxl HCB HCB1 HMK HRV HXG HPX HVX HIX
     go_region_law (refine step_app rfl (.tmp 57) (.tmp 59) 81 rfl w.heap.size 110 j0 _ 6 64 Tryz.underlying81 hj jz0 jz1 jz2 rfl (by omega) (.slice Aq1 k cq1) k (pmCs rs) rfl ((own_drew HOQ.out).alloc _) _ (some ⟨Y.heap.size, 0, none⟩) 1 1 _ rfl (Rd.new (w := Y.drew) (cs := #[.int .i64 qp.id, .int .i64 qp.day, .int .i64 qp.amt, .slice A1 nv k1, .int .i64 qp.rest, .bool qp.rev]) (t := 110) rfl rfl) (by intro u hu; simp at hu; rcases hu with rfl | rfl | rfl | rfl | rfl | rfl <;> rfl) (by unfold maxLen; omega) (by omega) (by simp; omega) ?_
                    intro v5 w5 hO hgr hat
                    have hE := cop_app (p := qp) (v := .slice A1 nv k1) HI1.out HLK.out HP1.out HTK.out hgr hO
                    obtain ⟨d0, d1, d2, d3, d4, d5⟩ := cells5U hE.2
                    have hgl5 := blk_lt hE.2
                    obtain ⟨A5, c5, rfl, _⟩ := own_form hO
                    have HE := hyd hE.1
                    clear hO hgr hat hE)
     all_goals go_wp2_with fail
     all_goals go_roundg (nm - (k + 1))
     all_goals first
      | exact ⟨k + 1, _, _, _, rfl, by omega, by go_num, HE.out⟩
      | (have := HG.out; omega)
   · have hkn : k = nm := by omega
     subst hkn
     have hown := HI.out.own
     rw [List.take_of_length_le (by rw [HNM.out]; exact Nat.le_refl _)] at hown
     have HO := hyd hown
     clear hgk hinv hvr hown
     go_wp2_with fail
     go_ret
     exact ⟨_, rfl, Nat.le_refl _, HI.out.bel, _, _, _, HO.out⟩
end Go.Proofs.YtbjjgnaojoaoiaaGreat
