/- items: those of all periods, in the order in which they are paid. -/
import Derived.Test.YtbjjgnaojoaoiaaGreatK15
import Derived.Test.YtbjjgnaojoaoiaaGreatK23
import Derived.Test.YtbjjgnaojoaoiaaGreatK18
import Derived.Test.YtbjjgnaojoaoiaaGreatK9
import Derived.Test.YtbjjgnaojoaoiaaGreatK17
namespace Go.Proofs.YtbjjgnaojoaoiaaGreat
open Go.RowKit Go
set_option linter.unusedVariables false
set_option linter.unusedSimpArgs false

theorem items_step {ps : List Per} {k : Nat} (h : k < ps.length) {a b c d a' b' c' d' a'' b'' c'' d'' : Value}
    (e : [a, b, c, d] ++ ([a', b', c', d'] ++ [a'', b'', c'', d'']) = itCs (itemsP ps[k])) : ((itCs (itemsOf (ps.take k)) ++ [a, b, c, d]) ++ [a', b', c', d']) ++ [a'', b'', c'', d''] = itCs (itemsOf (ps.take (k + 1))) := by
  rw [itemsOf_take h, itCs_app, ← e]; simp
theorem grown_box {X Y : World} {row : Option Nat} {k : Nat} {o : Obj} (hb : X.heap[k]? = some o) (hg : X.grownBy Y row) (hn : row ≠ some k) : Y.heap[k]? = some o := (hg.block k (blk_lt hb) (fun e => hn e.symm)).trans hb
/-- What items hands back. -/
def ItemsOf (w : World) (ps : List Per) (e : Ending) (w' : World) : Prop := Below w.heap.size w w' ∧ ∃ A c s, e = .returned (.slice A (itemsOf ps).length c) ∧ w'.ownsRow w.heap.size 58 4 (.slice A (itemsOf ps).length c) (itemsOf ps).length (itCs s) ∧ IsOrd (itemsOf ps) s
set_option maxHeartbeats 6400000 in
set_option maxRecDepth 100000 in
theorem items_any (g B : Nat) (S : Ac) (vp vq : Value) (qs : List PmE) (w : World) (h : OwnV w B g S vp vq qs) (hN : S.ps.length ≤ 1000) (hP : placesE (itemsOf S.ps) = 0) :
    Calls Tryz.prog 47 #[.pointer (some ⟨g, 0, none⟩)] w (ItemsOf w S.ps) := by
  obtain ⟨i0, hi, hz0, hz1', hz9⟩ := info_parts info_it
  obtain ⟨A, c, rfl, hc, hr⟩ := h.rdp
  obtain ⟨a0, a1, a2, a3, a4, a5⟩ := cells5U h.hg
  have hgl := blk_lt h.hg
  obtain ⟨n, hn⟩ : ∃ n, S.ps.length = n := ⟨_, rfl⟩
  have HP := Lib.hid hP; have HN := Lib.hid hn; have HR := Lib.hid hr
  rw [hn] at HR hN hc a3
  clear h hr hP hn
  go_enter Tryz.func47, Tryz.ntmps47
  go_wp2_with fail
  go_loopg [3, 13] n (fun gh v i wr => ∃ k : Nat, gh = n - k ∧ k ≤ n ∧ i = .int .i64 k ∧ wr.ownsRow w.heap.size 58 4 v (k * 3) (itCs (itemsOf (S.ps.take k))) ∧ Below w.heap.size w wr)
  case atStart => exact ⟨0, rfl, by omega, rfl, World.ownsRow_nil _ _ _ _, Below.refl _ _⟩
  case round =>
    obtain ⟨k, hgk, hk, rfl, hown, hbr⟩ := hrel
    have HG := Lib.hid hgk; have HO := Lib.hid hown; have HB := Lib.hid hbr
    have hzr := hbr.size
    by_cases hlt : k < n
    · have hl1 : k < S.ps.length := by rw [HN.out]; exact hlt
      obtain ⟨b, off, rfl, hb, c0, c1, c2, c3, c4, c5, c6, c7, c8, c9, c10⟩ := (HR.out.below hbr).per hl1
      have HST : Hid (((itCs (itemsOf (S.ps.take k)) ++ [.int .i64 S.ps[k].ret.due, .int .i64 0, .int .i64 S.ps[k].ret.per, .int .i64 S.ps[k].o0]) ++ [.int .i64 S.ps[k].ret.due, .int .i64 1, .int .i64 S.ps[k].ret.per, .int .i64 S.ps[k].o1]) ++ [.int .i64 S.ps[k].ret.due, .int .i64 2, .int .i64 S.ps[k].ret.per, .int .i64 S.ps[k].o2] = itCs (itemsOf (S.ps.take (k + 1)))) := Lib.hid (items_step hl1 rfl)
      generalize S.ps[k] = p at *
      clear hbr hown hgk
      have i1 : (0 : Int) ≤ (k : Int) := by omega
      have i2 : (k : Int) < (n : Int) := by omega
      have hx0 : ∀ wx : World, (Instr.index 31 (.agg #[.int .i64 p.o0, .int .i64 p.o1, .int .i64 p.o2]) (.int .i64 0)).run Tryz.prog wx = .ok (.int .i64 p.o0) wx := fun _ => by kernel_rfl
      have hx1 : ∀ wx : World, (Instr.index 31 (.agg #[.int .i64 p.o0, .int .i64 p.o1, .int .i64 p.o2]) (.int .i64 1)).run Tryz.prog wx = .ok (.int .i64 p.o1) wx := fun _ => by kernel_rfl
      have hx2 : ∀ wx : World, (Instr.index 31 (.agg #[.int .i64 p.o0, .int .i64 p.o1, .int .i64 p.o2]) (.int .i64 2)).run Tryz.prog wx = .ok (.int .i64 p.o2) wx := fun _ => by kernel_rfl
      go_wp2_with fail
      refine wp_loop_rounds 4 ?_
      rw [rounds_succ]
      go_wp2_with (at_builtin; refine wpList_app rfl (.tmp 23) (.tmp 33) _ rfl w.heap.size 58 i0 _ 4 32 Tryz.underlying41 hi hz0 hz1' hz9 rfl (by omega) _ _ _ rfl ((HO.out.alloc _).alloc _) _ _ 1 1 [.int .i64 p.ret.due, .int .i64 0, .int .i64 p.ret.per, .int .i64 p.o0] rfl (Rd.new (cs := #[.int .i64 p.ret.due, .int .i64 0, .int .i64 p.ret.per, .int .i64 p.o0]) (by simp) rfl) (by simp [Value.oneCell']) (by unfold maxLen; omega) (by omega) (by simp; omega) ?_; intro v1 w1 hown1 hg1 hat1)
      have hb1 := grown_box (blk_alloc (blk_new wr _ rfl) _) hg1 (fun e => absurd ((HO.out.lt _ e).2) (Nat.lt_irrefl _))
      have hB1 := ((HB.out.alloc hzr _).alloc (by simp; omega) _).grown hg1 (by simp; omega) (fun k hk => (HO.out.lt k hk).1)
      have y10 : w1.cell? ⟨wr.heap.size, 0, none⟩ = some (.int .i64 p.ret.per) := (blk_cell hb1 0).trans rfl
      have y11 : w1.cell? ⟨wr.heap.size, 1, none⟩ = some (.int .i64 p.ret.due) := (blk_cell hb1 1).trans rfl
      have HX1 := Lib.hid hb1; have HB1 := Lib.hid hB1; have HO1 := Lib.hid hown1; have HZ1 := Lib.hid hB1.size
      have zb1 : wr.heap.size < w1.heap.size := blk_lt hb1
      obtain ⟨A1, k1, rfl, _⟩ := own_form hown1
      clear hb1 hB1 hown1 hg1 hat1
      go_wp2_with fail
      rw [rounds_succ]
      go_wp2_with (at_builtin; refine wpList_app rfl (.tmp 23) (.tmp 33) _ rfl w.heap.size 58 i0 _ 4 32 Tryz.underlying41 hi hz0 hz1' hz9 rfl (by omega) _ _ _ rfl (HO1.out.alloc _) _ _ 1 1 [.int .i64 p.ret.due, .int .i64 1, .int .i64 p.ret.per, .int .i64 p.o1] rfl (Rd.new (cs := #[.int .i64 p.ret.due, .int .i64 1, .int .i64 p.ret.per, .int .i64 p.o1]) (by simp) rfl) (by simp [Value.oneCell']) (by unfold maxLen; omega) (by omega) (by have := HZ1.out; simp; omega) ?_; intro v2 w2 hown2 hg2 hat2)
      have hb2 := grown_box (blk_alloc HX1.out _) hg2 (fun e => by obtain ⟨_, cs, hcs⟩ := own_block_type HO1.out e; exact ne_of_type' HX1.out hcs (by decide) rfl)
      have hB2 := (HB1.out.alloc HZ1.out _).grown hg2 (by have := HZ1.out; simp; omega) (fun k hk => (own_block_type HO1.out hk).1)
      have y20 : w2.cell? ⟨wr.heap.size, 0, none⟩ = some (.int .i64 p.ret.per) := (blk_cell hb2 0).trans rfl
      have y21 : w2.cell? ⟨wr.heap.size, 1, none⟩ = some (.int .i64 p.ret.due) := (blk_cell hb2 1).trans rfl
      have HX2 := Lib.hid hb2; have HB2 := Lib.hid hB2; have HO2 := Lib.hid hown2; have HZ2 := Lib.hid hB2.size
      have zb2 : wr.heap.size < w2.heap.size := blk_lt hb2
      obtain ⟨A2, k2, rfl, _⟩ := own_form hown2
      clear hb2 hB2 hown2 hg2 hat2
      go_wp2_with fail
      rw [rounds_succ]
      go_wp2_with (at_builtin; refine wpList_app rfl (.tmp 23) (.tmp 33) _ rfl w.heap.size 58 i0 _ 4 32 Tryz.underlying41 hi hz0 hz1' hz9 rfl (by omega) _ _ _ rfl (HO2.out.alloc _) _ _ 1 1 [.int .i64 p.ret.due, .int .i64 2, .int .i64 p.ret.per, .int .i64 p.o2] rfl (Rd.new (cs := #[.int .i64 p.ret.due, .int .i64 2, .int .i64 p.ret.per, .int .i64 p.o2]) (by simp) rfl) (by simp [Value.oneCell']) (by unfold maxLen; omega) (by omega) (by have := HZ2.out; simp; omega) ?_; intro v3 w3 hown3 hg3 hat3)
      have hb3 := grown_box (blk_alloc HX2.out _) hg3 (fun e => by obtain ⟨_, cs, hcs⟩ := own_block_type HO2.out e; exact ne_of_type' HX2.out hcs (by decide) rfl)
      have hB3 := (HB2.out.alloc HZ2.out _).grown hg3 (by have := HZ2.out; simp; omega) (fun k hk => (own_block_type HO2.out hk).1)
      have y30 : w3.cell? ⟨wr.heap.size, 0, none⟩ = some (.int .i64 p.ret.per) := (blk_cell hb3 0).trans rfl
      have y31 : w3.cell? ⟨wr.heap.size, 1, none⟩ = some (.int .i64 p.ret.due) := (blk_cell hb3 1).trans rfl
      have HX3 := Lib.hid hb3; have HB3 := Lib.hid hB3; have HO3 := Lib.hid hown3; have HZ3 := Lib.hid hB3.size
      have zb3 : wr.heap.size < w3.heap.size := blk_lt hb3
      obtain ⟨A3, k3, rfl, _⟩ := own_form hown3
      clear hb3 hB3 hown3 hg3 hat3
      go_wp2_with fail
      rw [rounds_succ]
      go_wp2_with fail
      go_roundg (n - (k + 1))
      case measure => have := HG.out; omega
      case rel => exact ⟨k + 1, rfl, by omega, by go_num, by have := HO3.out; rw [HST.out] at this; rw [show (k + 1) * 3 = k * 3 + 1 + 1 + 1 by omega]; exact this, HB3.out⟩
    · have hkn : k = n := by omega
      subst hkn
      rw [List.take_of_length_le (by rw [HN.out]; exact Nat.le_refl _)] at hown
      obtain ⟨A2, c2, rfl, _⟩ := own_form hown
      have HL : Hid ((itemsOf S.ps).length = k * 3) := Lib.hid (by rw [itemsOf_len, HN.out])
      have HOR := Lib.hid (order_own A2 (itemsOf S.ps) (k * 3) c2 wr HL.out (Rd.of_own hown) (by unfold maxLen; omega) HP.out)
      clear hown hbr hgk
      go_wp2_with fail
      refine HOR.out.mono ?_; rintro e w1 ⟨hb1, A', c', s, rfl, ho1, hs⟩
      rw [HL.out] at ho1 ⊢
      have HB1 := Lib.hid hb1; have HO1 := Lib.hid ho1; have HS1 := Lib.hid hs
      clear hb1 ho1 hs
      go_wp2_with fail
      go_ret
      exact ⟨HB.out.trans (HB1.out.mono hzr), A', c', s, by first | rfl | (rw [HL.out]; rfl), by rw [HL.out]; exact own_mono HO1.out hzr, HS1.out⟩
end Go.Proofs.YtbjjgnaojoaoiaaGreat
/- pay: the walk. -/
namespace Go.Proofs.YtbjjgnaojoaoiaaGreat
open Go.RowKit Go
set_option linter.unusedVariables false
set_option linter.unusedSimpArgs false

/-- The row while what is paid is put in: the first k. -/
def mixK (s : List Dq) (a : Int) (k : Nat) : List Dq := (paidRow s a).take k ++ s.drop k
theorem mixK_len {s : List Dq} {a : Int} {k : Nat} (h : k ≤ s.length) : (mixK s a k).length = s.length := by simp [mixK, paidRow_len]; omega
theorem mixK_at {s : List Dq} {a : Int} {k : Nat} (h : k < s.length) : (mixK s a k)[k]'(by rw [mixK_len (by omega)]; exact h) = s[k] := by
  unfold mixK
  rw [List.getElem_append_right (by simp [paidRow_len]; omega)]
  simp only [List.length_take, paidRow_len, Nat.min_eq_left (Nat.le_of_lt h), Nat.sub_self, List.getElem_drop]
  simp
theorem mixK_step {s : List Dq} {a : Int} {k : Nat} (h : k < s.length) : (itCs (mixK s a k)).set (k * 4 + 3) (.int .i64 (paidI s a s[k])) = itCs (mixK s a (k + 1)) := by
  have hk : k < (mixK s a k).length := by rw [mixK_len (by omega)]; exact h
  have e := flat_set (c := itC) (j := 3) itC_len hk (by omega) (u := .int .i64 (paidI s a s[k])) (y := { s[k] with opn := paidI s a s[k] }) (by rw [mixK_at h]; rfl)
  refine e.trans ?_
  congr 1
  unfold mixK
  have hl : ((paidRow s a).take k).length = k := by simp [paidRow_len]; omega
  rw [List.set_append_right _ _ (by omega), hl, Nat.sub_self, List.drop_eq_getElem_cons h, List.set_cons_zero, List.take_succ_eq_append_getElem (by rw [paidRow_len]; exact h), List.append_assoc]
  simp [paidRow]
theorem Rd.far {w : World} {B s n : Nat} {A : Option Addr} {xs : List Value} (h : Rd w B s A n xs) {p : Addr} (hp : ∀ b, A = some b → b.block ≠ p.block) (u : Value) : Rd (w.setCell p u) B s A n xs := by
  refine ⟨h.1, fun h0 => ?_⟩
  obtain ⟨b, off, e, hb, hc⟩ := h.2 h0
  refine ⟨b, off, e, hb, fun j hj => ?_⟩
  rw [← hc j hj]
  have := Below.heap_setCell w p u b (hp _ e)
  simp only [World.cell?, this]
/-- How pay ends. -/
def UPayOf (w : World) (B g : Nat) (S : Ac) (vp vq : Value) (qs : List PmE) (a : Int) (e : Ending) (w' : World) : Prop := Turn w B vp w' ∧
  match giveS S.day (-1) S.ps (partsOf (itemsOf S.ps) a) with
  | some ps => ∃ A c, e = .returned (.tuple #[.slice A (partsOf (itemsOf S.ps) a).length c, .int .i64 (leftI (itemsOf S.ps) a)]) ∧ OwnV w' B g { S with ps := ps } vp vq qs ∧ PartsAt w' (.slice A (partsOf (itemsOf S.ps) a).length c) (partsOf (itemsOf S.ps) a) ∧ ps.length = S.ps.length
  | none => e = pan 2
set_option maxHeartbeats 6400000 in
set_option maxRecDepth 100000 in
theorem upay_any (g B : Nat) (S : Ac) (vp vq : Value) (qs : List PmE) (a : Int) (w : World) (h : OwnV w B g S vp vq qs) (hB : B ≤ w.heap.size) (hN : S.ps.length ≤ 60) (ha : 0 ≤ a ∧ a ≤ 4611686018427387904)
    (h1 : 0 ≤ S.day ∧ S.day ≤ 3652058) (hP : placesE (itemsOf S.ps) = 0)
    (hgood : ∀ k ps (hk : k < (partsOf (itemsOf S.ps) a).length), giveS S.day (-1) S.ps ((partsOf (itemsOf S.ps) a).take k) = some ps → GoodAt S.day S.bp (-1) ps (partsOf (itemsOf S.ps) a)[k]) :
    Calls Tryz.prog 52 #[.pointer (some ⟨g, 0, none⟩), .int .i64 a] w (UPayOf w B g S vp vq qs a) := by
  have HI := Lib.hid (items_any g B S vp vq qs w h (by omega) hP)
  have HGD := Lib.hid hgood; have HV0 := Lib.hid h; have HPL := Lib.hid hP
  obtain ⟨n, hn⟩ : ∃ n, (itemsOf S.ps).length = n := ⟨_, rfl⟩
  have HNN := Lib.hid hn
  have hn2 : n ≤ 1000 := by rw [← hn, itemsOf_len]; omega
  clear hgood h hP hn
  go_enter Tryz.func52, Tryz.ntmps52
  go_wp2_with fail
  refine HI.out.mono ?_; rintro e w1 ⟨hb1, A, c, s, rfl, ho1, hs⟩
  rw [HNN.out] at ho1 ⊢
  have hsp := hs.places HPL.out
  have hse := hs.eq HPL.out
  have hsl : s.length = n := by rw [hs.len]; exact HNN.out
  have hpe : payE s a = 0 := by unfold payE; rw [if_pos ha]; exact hsp
  have HPY := Lib.hid (pay_nN A s a n c w1 hsl (Rd.of_own ho1) (by unfold maxLen; omega))
  have HB1 := Lib.hid hb1; have HO1 := Lib.hid ho1; have HSL := Lib.hid hsl; have HSE := Lib.hid hse; have HPE := Lib.hid hpe
  have HLF : Hid (leftI s a = leftI (itemsOf S.ps) a) := Lib.hid (leftI_perm hs.1 a)
  clear hb1 ho1 hs hsp hse hsl hpe
  go_wp2_with fail
  refine HPY.out.mono ?_; rintro e w2 ⟨hb2, ⟨hne, _⟩ | ⟨_, A', c', rfl, hrd, hc', hnew⟩⟩
  · exact absurd HPE.out hne
  rw [HSL.out] at hrd hc' ⊢
  have HB2 := Lib.hid (HB1.out.trans (hb2.mono HB1.out.size))
  have HO2 : Hid (w2.ownsRow w.heap.size 58 4 (.slice A n c) n (itCs (mixK s a 0))) := Lib.hid (by
    have e : mixK s a 0 = s := by simp [mixK]
    rw [e]; exact own_below HO1.out hb2)
  have HRD := Lib.hid hrd
  have HNEW := Lib.hid hnew
  clear hb2 hrd hnew HPY
  go_wp2_with fail
  go_loopg [23] n (fun gh v23 wr => ∃ k : Nat, gh = n - k ∧ k ≤ n ∧ v23 = .int .i64 k ∧ wr.ownsRow w.heap.size 58 4 (.slice A n c) n (itCs (mixK s a k)) ∧ Rd wr wr.heap.size 1 A' n (ints (payL s a)) ∧ Below w.heap.size w wr)
  case atStart => exact ⟨0, rfl, by omega, rfl, HO2.out, HRD.out, HB2.out⟩
  case round =>
    obtain ⟨k, hgk, hk, rfl, hown, hrr, hbr⟩ := hrel
    have HG := Lib.hid hgk; have HO := Lib.hid hown; have HB := Lib.hid hbr; have HRR := Lib.hid hrr
    by_cases hlt : k < n
    · have hks : k < s.length := by rw [HSL.out]; exact hlt
      have hkm : k < (mixK s a k).length := by rw [mixK_len (by omega)]; exact hks
      obtain ⟨gi, cap, ev, hgB, hgl⟩ := hown.form (by omega)
      injection ev with ev _ ev2
      subst ev ev2
      obtain ⟨⟨c0, c1, c2, c3⟩, hf⟩ := own_it hown hkm
      have hkp : k < (payL s a).length := by rw [payL_lenP]; exact hks
      obtain ⟨b', off', rfl, hb', cp⟩ := hrr.num hkp
      rw [payL_atP s a k hks] at cp
      have hbg : gi < w1.heap.size := by
        obtain ⟨_, cs, hcs⟩ := own_block_type HO1.out (b := gi) rfl
        exact blk_lt hcs
      have hnb : w1.heap.size ≤ b' := HNEW.out _ rfl
      have hne : b' ≠ gi := by omega
      have HST : Hid (∀ u, u = Value.int .i64 (paidI s a s[k]) → (wr.setCell ⟨gi, k * 4 + 3, none⟩ u).ownsRow w.heap.size 58 4 (.slice (some ⟨gi, 0, none⟩) n c) n (itCs (mixK s a (k + 1))) ∧ Rd (wr.setCell ⟨gi, k * 4 + 3, none⟩ u) (wr.setCell ⟨gi, k * 4 + 3, none⟩ u).heap.size 1 (some ⟨b', off', none⟩) n (ints (payL s a)) ∧ Below w.heap.size w (wr.setCell ⟨gi, k * 4 + 3, none⟩ u)) := Lib.hid (fun u hu => by
        subst hu
        refine ⟨?_, by rw [World.size_setCell]; exact hrr.far (fun b e => by injection e with e; subst e; exact hne) _, hbr.setCell hgB _⟩
        rw [← mixK_step hks]
        exact own_set hown (by omega) _)
      generalize (mixK s a k)[k] = y at c0 c1 c2 c3
      generalize paidI s a s[k] = pv at *
      have hgi := hf (k * 4 + 3)
      have hgr := hgl
      have j1 : (0 : Int) ≤ (k : Int) := by omega
      have j2 : (k : Int) < (n : Int) := by omega
      clear hown hrr hbr hgk c0 c1 c2 hf
      go_wp2_with fail
      go_roundg (n - (k + 1))
      case measure => have := HG.out; omega
      case rel => exact ⟨k + 1, rfl, by omega, by go_num, (HST.out _ rfl).1, (HST.out _ rfl).2.1, (HST.out _ rfl).2.2⟩
    · have hkn : k = n := by omega
      subst hkn
      have hmx : mixK s a k = paidRow s a := by unfold mixK; rw [List.drop_of_length_le (by rw [HSL.out]; exact Nat.le_refl _), List.take_of_length_le (by rw [paidRow_len, HSL.out]; exact Nat.le_refl _), List.append_nil]
      rw [hmx] at hown
      have HDL := Lib.hid (delete_any 112 pay1_tells w.heap.size A k c (paidRow s a) wr (by rw [paidRow_len, HSL.out]) hown hbr.size (by omega))
      have HPO : Hid (live (paidRow s a) = partsOf (itemsOf S.ps) a) := Lib.hid (by rw [HSE.out]; rfl)
      rw [HPO.out] at HDL
      have hpl : (partsOf (itemsOf S.ps) a).length ≤ k := by rw [← HPO.out]; exact Nat.le_trans (List.length_filter_le _ _) (by rw [paidRow_len, HSL.out]; exact Nat.le_refl _)
      clear hown hrr hbr hgk hmx
      go_wp2_with fail
      refine HDL.out.mono ?_; rintro e w3 ⟨A3, c3, rfl, ho3, hb3⟩
      have hbw3 : Below w.heap.size w w3 := HB.out.trans hb3
      have HGV := Lib.hid (give_any g B S vp vq qs A3 _ c3 (partsOf (itemsOf S.ps) a) (-1) w3 (HV0.out.below hbw3) (PartsAt.of_own ho3) (Nat.le_trans hB hbw3.size) (by omega) (by omega) h1 HGD.out)
      have HB3 := Lib.hid hbw3
      clear ho3 hb3 hbw3
      obtain ⟨pn, hpn⟩ : ∃ pn, (partsOf (itemsOf S.ps) a).length = pn := ⟨_, rfl⟩
      have HPN := Lib.hid hpn
      rw [hpn] at HGV ⊢
      clear hpn hpl
      go_wp2_with fail
      refine HGV.out.mono ?_; rintro e w4 ⟨hb4, hm⟩
      have HB4 := Lib.hid (hb4.ahead HB3.out hB)
      cases hgs : giveS S.day (-1) S.ps (partsOf (itemsOf S.ps) a) with
      | none =>
        rw [hgs] at hm
        simp only at hm
        subst hm
        have HGS := Lib.hid hgs
        unfold UPayOf; rw [HGS.out]
        exact ⟨rfl, HB4.out, rfl⟩
      | some ps =>
        rw [hgs] at hm
        obtain ⟨⟨x, rfl⟩, ho4, hpt4, hl4⟩ := hm
        have HGS := Lib.hid hgs; have HO4 := Lib.hid ho4; have HPT4 := Lib.hid hpt4; have HL4 := Lib.hid hl4
        clear hb4 hgs ho4 hpt4 hl4
        go_wp2_with fail
        go_ret2
        unfold UPayOf; rw [HGS.out]
        refine ⟨HB4.out, ?_⟩
        exact ⟨A3, c3, by rw [HPN.out, ← HLF.out]; rfl, HO4.out, by rw [HPN.out]; exact HPT4.out, HL4.out⟩
end Go.Proofs.YtbjjgnaojoaoiaaGreat
/- Offset. -/
namespace Go.Proofs.YtbjjgnaojoaoiaaGreat
open Go.RowKit Go
set_option linter.unusedVariables false
set_option linter.unusedSimpArgs false

/-- A box that is no row of periods is as it was. -/
theorem Turn.box {w w' : World} {B g : Nat} {S : Ac} {vp vq : Value} {qs : List PmE} {cs : Array Value} {t : Nat} {fr : Nat × Nat} {k : Nat} (h : Turn w B vp w') (ho : OwnV w B g S vp vq qs) (hk : w.heap[k]? = some (.cells cs t fr)) (ht : t ≠ 92) : w'.heap[k]? = some (.cells cs t fr) := by
  refine (h.gr.block k (blk_lt hk) (fun e => ?_)).trans hk
  obtain ⟨_, cs', hcs⟩ := own_block_type ho.hp e.symm
  exact ne_of_type' hk hcs ht rfl
theorem leftI_bd {its : List Dq} {a : Int} (h : placesE its = 0) (ha : 0 ≤ a) : 0 ≤ leftI its a ∧ leftI its a ≤ a := by
  have := opens_nonneg (placesE_ok h).2.1
  unfold leftI; omega
set_option maxHeartbeats 3200000 in
set_option maxRecDepth 100000 in
theorem offset1_any (gb B ga : Nat) (S : Ac) (a : Int) (w : World) (h : OwnAt w B gb S) (hB : B ≤ w.heap.size) (ha : w.heap[ga]? = some (.cells #[.int .i64 a] 2 (0, 0))) (hG : Good S) (hc : a ≤ S.cr) (h2 : 1 ≤ a ∧ a ≤ 1125899906842624) :
    Calls Tryz.prog 60 #[.pointer (some ⟨gb, 0, none⟩), .pointer (some ⟨ga, 0, none⟩)] w (StepOf w B gb (offset1 S a)) := by
  obtain ⟨vp, vq, qs, h⟩ := h
  have hPF := pay_facts hG.day hG.bp hG.rise hG.per (by have := hG.np; omega) (show 0 ≤ a by omega)
  have hBg := h.hB
  have hgl := blk_lt h.hg
  have hal := blk_lt ha
  have hb0 : Below w.heap.size w (w.alloc (.cells #[.int .i64 0, .int .i64 0, .int .i64 0, .int .i64 0, .int .i64 0, .int .i64 0] 33)) := bnewU _ _
  have hv0 := h.below hb0
  have HP := Lib.hid (upay_any gb B S vp vq qs a _ hv0 (Nat.le_trans hB hb0.size) (by have := hG.np; omega) (by omega) hG.day hG.places hPF.1)
  obtain ⟨ps, hgs, hit, hret, hok, hrise⟩ := hPF.2
  have HGS := Lib.hid hgs
  have HV0 := Lib.hid hv0; have HB0 := Lib.hid hb0
  have hlb := leftI_bd hG.places (show 0 ≤ a by omega)
  have HO : Hid (offset1 S a = ({ S with ps := ps, cr := S.cr - (a - leftI (itemsOf S.ps) a) }, ⟨0, 0, 0, a - leftI (itemsOf S.ps) a, leftI (itemsOf S.ps) a - a, 0⟩, 0)) := Lib.hid (by unfold offset1; rw [hgs])
  have hcr := hG.cr
  have HA0 := Lib.hid (blk_alloc ha (.cells #[.int .i64 0, .int .i64 0, .int .i64 0, .int .i64 0, .int .i64 0, .int .i64 0] 33))
  have HM0 := Lib.hid (blk_new w (.cells #[.int .i64 0, .int .i64 0, .int .i64 0, .int .i64 0, .int .i64 0, .int .i64 0] 33) rfl)
  have ca0 : w.cell? ⟨ga, 0, none⟩ = some (.int .i64 a) := (blk_cell ha 0).trans rfl
  have n2 : ga ≠ w.heap.size := by omega
  obtain ⟨rest, hrest⟩ : ∃ rest, leftI (itemsOf S.ps) a = rest := ⟨_, rfl⟩
  rw [hrest] at hlb HO
  have HR := Lib.hid hrest
  have w1' : IntKind.i64.wrap (a - rest) = a - rest := IntWalk.i64_in _ (by omega)
  have w2' : IntKind.i64.wrap (S.cr - (a - rest)) = S.cr - (a - rest) := IntWalk.i64_in _ (by omega)
  have w3' : IntKind.i64.wrap (rest - a) = rest - a := IntWalk.i64_in _ (by omega)
  clear h hPF hb0 hv0 hgs hit hret hok hrise ha hrest hG
  go_enter Tryz.func60, Tryz.ntmps60
  go_wp2_with fail
  refine HP.out.mono ?_; rintro e w1 ⟨ht, hm⟩
  rw [HGS.out] at hm
  obtain ⟨A, c, rfl, ho1, hpt1, hl1⟩ := hm
  rw [HR.out]
  have ha1 := ht.box HV0.out HA0.out (by decide)
  have hm1 := ht.box HV0.out HM0.out (by decide)
  obtain ⟨a0, a1, a2, a3, a4, a5⟩ := cells5U ho1.hg
  have ca1 : w1.cell? ⟨ga, 0, none⟩ = some (.int .i64 a) := (blk_cell ha1 0).trans rfl
  obtain ⟨m0, m1, m2, m3, m4, m5, m6⟩ := cells6U hm1
  have hgl1 := blk_lt ho1.hg
  have hgne : gb ≠ ga := ne_of_type' ho1.hg ha1 (by decide)
  have hgnm : w.heap.size ≠ gb := fun e => by rw [e] at hm1; exact ne_of_type' ho1.hg hm1 (by decide) rfl
  have hgnm' : gb ≠ w.heap.size := fun e => hgnm e.symm
  have hml1 := blk_lt hm1
  have HT := Lib.hid ht; have HO1 := Lib.hid ho1; have HM1 := Lib.hid hm1
  obtain ⟨pn, hpn⟩ : ∃ pn, (partsOf (itemsOf S.ps) a).length = pn := ⟨_, rfl⟩
  rw [hpn]
  clear ht ha1 hm1 ho1 hpt1 hl1 a0 a1 a3 a4 hpn
  go_wp2_with fail
  go_region_with (fail)
  all_goals go_wp2_with fail
  all_goals
    have p := (Puts.start (b := gb) (Below.refl w1.heap.size w1)).set 2 (.int .i64 (S.cr - (a - rest)))
    have hov := HO1.out.setCr p
    have hmv := (p.far w.heap.size hml1 hgnm).trans HM1.out
    have hbb : Below B w w1 := (HB0.out.mono hB).trans HT.out.bel
    obtain ⟨e1, e2⟩ := step_last { S with ps := ps, cr := S.cr - (a - rest) } ⟨0, 0, 0, a - rest, rest - a, 0⟩ (hbb.setCell hBg (.int .i64 (S.cr - (a - rest)))) ⟨vp, vq, qs, hov⟩ hmv hB
    rw [HO.out]
    exact mv_ret ⟨0, 0, 0, a - rest, rest - a, 0⟩ 0 w.heap.size rfl rfl rfl e1 e2
set_option maxHeartbeats 3200000 in
set_option maxRecDepth 100000 in
theorem offset_any (g B : Nat) (S : Ac) (a : Int) (w : World) (h : OwnAt w B g S) (hG : Good S) :
    Calls Tryz.prog 25 #[.pointer (some ⟨g, 0, none⟩), .int .i64 a] w (DoesOf w g S (offsetS S a)) := by
  have hgl := h.lt
  have hb0 : Below w.heap.size w ((w.alloc (.cells #[.int .i64 a] 2)).alloc (.cells #[.int .i64 0, .int .i64 0, .int .i64 0, .int .i64 0, .int .i64 0, .int .i64 0] 33)) := ((Below.refl _ _).alloc (Nat.le_refl _) _).alloc (by simp) _
  have hbx := blk_alloc (blk_new w (.cells #[.int .i64 a] 2) rfl) (.cells #[.int .i64 0, .int .i64 0, .int .i64 0, .int .i64 0, .int .i64 0, .int .i64 0] 33)
  have hz0 : ((w.alloc (.cells #[.int .i64 a] 2)).alloc (.cells #[.int .i64 0, .int .i64 0, .int .i64 0, .int .i64 0, .int .i64 0, .int .i64 0] 33)).heap.size = w.heap.size + 2 := by simp
  have HD := Lib.hid (spends_any 60 (.pointer (some ⟨w.heap.size, 0, none⟩)) g B S a (offset1 S a) _ (h.below hb0) hG.small (fun u wx => by kernel_rfl)
    (fun h1 h2 gb B' wx hB hb hBx ho => offset1_any gb B' w.heap.size S a wx ho hBx (blk_below hbx hb (by rw [hz0]; omega)) hG h2 h1))
  have HB0 := Lib.hid hb0
  have hm0 := blk_new (w.alloc (.cells #[.int .i64 a] 2)) (.cells #[.int .i64 0, .int .i64 0, .int .i64 0, .int .i64 0, .int .i64 0, .int .i64 0] 33) rfl
  have HM0 := Lib.hid hm0
  have n1 : w.heap.size + 1 ≠ g := by omega
  have hmf : ∀ (fn : Fn) (first cap : Array Value) (w : World), (Instr.makeFunc fn first cap).run Tryz.prog w = .ok (.func fn first cap) w := fun _ _ _ _ => rfl
  clear h hb0 hbx hm0
  go_enter Tryz.func25, Tryz.ntmps25
  go_wp2_with fail
  refine HD.out.mono ?_; intro e w1 hd
  obtain ⟨m, er, rfl⟩ := hd.form
  have hm := move_keeps hd HM0.out (by simp; omega)
  simp only [World.size_alloc] at hm
  obtain ⟨m0, m1, m2, m3, m4, m5, m6⟩ := cells6U hm
  have HE := Lib.hid (DoesOf.wrap HB0.out hd hm (by omega)); have HM := Lib.hid (put6_at hm m)
  clear hd hm HD
  go_wp2_with fail
  exact mv_ret m er (w.heap.size + 1) rfl rfl rfl HM.out HE.out
end Go.Proofs.YtbjjgnaojoaoiaaGreat
