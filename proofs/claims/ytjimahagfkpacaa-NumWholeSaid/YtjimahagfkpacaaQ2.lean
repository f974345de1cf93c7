/- The closure that compares; insertion. -/
import Derived.Test.YtjimahagfkpacaaQ1
import Derived.Deep.QuietTactic
import Derived.BigQuiet
import Derived.Deep.Cut
import Derived.Deep.CutRange
namespace Go.Proofs.Ytjimahagfkpacaa
open Go.RowKit Go
set_option linter.unusedVariables false
set_option linter.unusedSimpArgs false

/-- The rests, boxed, apart from the row g. -/
structure SS (g rb ra n : Nat) (r : List Int) (w : World) : Prop where
  neb : rb ≠ g
  nea : ra ≠ g
  box : w.heap[rb]? = some (.cells #[.slice (some ⟨ra, 0, none⟩) n n] 27 (0, 0))
  row : w.heap[ra]? = some (.cells (ints r).toArray 2 (0, 0))
  len : r.length = n
theorem SS.only {g rb ra n : Nat} {r : List Int} {w w' : World} (h : SS g rb ra n r w) (ho : OnlyB g w w') : SS g rb ra n r w' :=
  ⟨h.neb, h.nea, (ho.block _ h.neb).trans h.box, (ho.block _ h.nea).trans h.row, h.len⟩
abbrev kf (r : List Int) (x : Int) : Int := gt r x.toNat
@[reducible] def clo (rb : Nat) : Value := .func (.func 35) #[] #[.pointer (some ⟨rb, 0, none⟩)]

set_option maxHeartbeats 1000000 in
theorem cmp_w (rb ra n g : Nat) (r : List Int) (w : World) (S : SS g rb ra n r w) (x y : Int) (hx : 0 ≤ x ∧ x < n) (hy : 0 ≤ y ∧ y < n) (hn : n ≤ 1000000) :
    Calls Try.prog 35 #[.int .i64 x, .int .i64 y, .pointer (some ⟨rb, 0, none⟩)] w fun e w' => e = .returned (.int .i64 (Lib.compareInt (kf r y) (kf r x))) ∧ ∃ k, w' = w.drewN k := by
  have c0 : w.cell? ⟨rb, 0, none⟩ = some (.slice (some ⟨ra, 0, none⟩) n n) := blk_cell S.box 0
  have cx : w.cell? ⟨ra, x.toNat, none⟩ = some (.int .i64 (kf r x)) := by
    rw [blk_cell S.row, List.getElem?_toArray, ints_at r _ (by rw [S.len]; omega)]; unfold kf; rw [gt_eq _ _ (by rw [S.len]; omega)]
  have cy : w.cell? ⟨ra, y.toNat, none⟩ = some (.int .i64 (kf r y)) := by
    rw [blk_cell S.row, List.getElem?_toArray, ints_at r _ (by rw [S.len]; omega)]; unfold kf; rw [gt_eq _ _ (by rw [S.len]; omega)]
  obtain ⟨hx1, hx2⟩ := hx
  obtain ⟨hy1, hy2⟩ := hy
  generalize kf r x = kx at *
  generalize kf r y = ky at *
  clear S
  go_enter Try.func35, Try.ntmps35
  go_wp2_with fail
  go_quiet ((go_at_call 36; exact Calls.quiet_of_same (cmpI64 ky kx _)))
  go_wp2_with fail
  go_ret
  exact ⟨rfl, nq, rfl⟩
/-- All numbers of a row name one of n. -/
def Inr (n : Nat) (d : List Int) : Prop := ∀ p, p < n → 0 ≤ gt d p ∧ gt d p < n
theorem Inr.pin {n a b : Nat} {d d' : List Int} (h : Inr n d) (hp : PIn a b d d') (hb : b ≤ n) : Inr n d' := fun p hpn => by
  by_cases e : a ≤ p ∧ p < b
  · obtain ⟨q, q1, q2, e'⟩ := hp.mem p e.1 e.2
    rw [e']; exact h q (by omega)
  · rw [hp.out p (by omega)]; exact h p hpn

set_option maxHeartbeats 4000000 in
theorem insR_any (g rb ra n a b : Nat) (r d : List Int) (w0 w : World) (S : SS g rb ra n r w0) (h : AtR g n w0 w d) (hi : Inr n d) (hab : a ≤ b) (hb : b ≤ n) (hn : n ≤ 1000000) (hup : ∀ p q, a ≤ p → p < q → q < b → gt d p < gt d q) :
    Calls Try.prog 46 #[.slice (some ⟨g, 0, none⟩) n n, .int .i64 a, .int .i64 b, clo rb] w fun e w' => e = .returned (.tuple #[]) ∧ ∃ d', PIn a b d d' ∧ Srt (kf r) a b d' ∧ AtR g n w0 w' d' := by
  have H := Lib.hid h; have HUP := Lib.hid hup; have HS := Lib.hid S; have HI := Lib.hid hi; clear h hup S hi
  unfold clo
  go_enter Try.func46, Try.ntmps46
  go_wp2_with fail
  go_loopg [8] (b - a) (fun gh vi wr => ∃ (i : Nat) (d' : List Int), gh = b - (i - 1) ∧ a + 1 ≤ i ∧ (i ≤ b ∨ (i = a + 1 ∧ b = a ∧ d' = d)) ∧ vi = .int .i64 i ∧ PIn a i d d' ∧ Srt (kf r) a i d' ∧ AtR g n w0 wr d')
  case atStart => exact ⟨a + 1, d, by omega, by omega, (by rcases Nat.lt_or_ge a b with e | e <;> first | exact .inl (by omega) | exact .inr ⟨rfl, by omega, rfl⟩), by go_num, PIn.refl _ _ _, Srt.one (by omega), H.out⟩
  case round =>
    obtain ⟨i, d', hgk, hai, hib, rfl, hp, hs, hr⟩ := hrel
    have HG := Lib.hid hgk; have HP := Lib.hid hp; have HSR := Lib.hid hs; have HR := Lib.hid hr; have HIB := Lib.hid hib
    clear hgk hp hs hr hib
    by_cases hlt : i < b
    · have hib : i < n := by omega
      have hmost : Hid (∀ p, a ≤ p → p < i → gt d' p < gt d' i) := by
        intro p p1 p2
        obtain ⟨q, q1, q2, e⟩ := HP.out.mem p p1 p2
        rw [e, HP.out.out i (by omega)]
        exact HUP.out q i q1 q2 hlt
      go_wp2_with fail
      go_loopg [9] (i - a) (fun gh vj wx => ∃ (j : Nat) (e : List Int), gh = j - a ∧ a ≤ j ∧ j ≤ i ∧ vj = .int .i64 j ∧ PIn a (i + 1) d e ∧ Ins (kf r) a i j e ∧ AtR g n w0 wx e)
      case atStart => exact ⟨i, d', rfl, by omega, by omega, rfl, HP.out.wide (Nat.le_refl _) (by omega), Ins.start HSR.out hmost.out, HR.out⟩
      case round =>
        obtain ⟨j, e, hgj, haj, hji, rfl, hp, hs, hr⟩ := hrel
        have HGJ := Lib.hid hgj; have HPX := Lib.hid hp; have HIX := Lib.hid hs; have HRX := Lib.hid hr
        clear hgj hp hs hr
        by_cases hj : a < j
        · have c1 := HRX.out.at_ (p := j) (by omega)
          have c2 := HRX.out.at_ (p := j - 1) (by omega)
          have r1 := (HI.out.pin HPX.out (by omega)) j (by omega)
          have r2 := (HI.out.pin HPX.out (by omega)) (j - 1) (by omega)
          have HST : Hid (kf r (gt e (j - 1)) < kf r (gt e j) → Ins (kf r) a i (j - 1) (swp e j (j - 1))) := by
            intro hk
            have h1 := HIX.out; have hl := HRX.out.len
            have ej : j = (j - 1) + 1 := by omega
            rw [ej] at h1 hk ⊢
            simp only [Nat.add_sub_cancel] at h1 hk ⊢
            exact h1.step (by omega) (by omega) (by omega) hk
          have HSP : Hid (¬ kf r (gt e (j - 1)) < kf r (gt e j) → Srt (kf r) a (i + 1) e) := Lib.hid (fun hk => HIX.out.stop haj hji (.inr hk))
          have HPS := Lib.hid ((HPX.out).trans (PIn.swp (i := j) (j := j - 1) (lo := a) (hi := i + 1) (by omega) (by omega) (by omega) (by omega) (by have := HRX.out.len; omega)))
          have HSS := Lib.hid (HS.out.only HRX.out.only)
          have HCM := Lib.hid (cmpI_neg (kf r (gt e (j - 1))) (kf r (gt e j)))
          have HCW := Lib.hid (fun (k : Nat) => cmp_w rb ra n g r (wr.drewN k) (HSS.out.only ((OnlyB.refl g _).drewN k)) (gt e j) (gt e (j - 1)) r1 r2 hn)
          clear r1 r2
          have i1 : (0 : Int) ≤ (j : Int) := by omega
          have i2 : (j : Int) < (n : Int) := by omega
          have i3 : (0 : Int) ≤ (j : Int) - 1 := by omega
          have i4 : (j : Int) - 1 < (n : Int) := by omega
          have hd : decide ((a : Int) < (j : Int)) = true := by simp; omega
          have wj : IntKind.i64.wrap ((j : Int) - 1) = (j : Int) - 1 := IntWalk.i64_in _ (by omega)
          have tj : ((j : Int) - 1).toNat = j - 1 := by omega
          obtain ⟨cm, hcm⟩ : ∃ cm, Lib.compareInt (kf r (gt e (j - 1))) (kf r (gt e j)) = cm := ⟨_, rfl⟩
          rw [hcm] at HCM HCW
          clear hcm
          go_wp2_with fail
          go_quiet ((go_at_call 35; exact Calls.quiet_of (HCW.out _)))
          have HRQ := Lib.hid (HRX.out.drewN nq)
          clear HSS HCW c1 c2
          generalize wr.drewN nq = wq at *
          by_cases hc : cm < 0
          · have c1 := HRQ.out.at_ (p := j) (by omega)
            have c2 := HRQ.out.at_ (p := j - 1) (by omega)
            have f1 := HRQ.out.free j
            have f2 := HRQ.out.free (j - 1)
            have HSW := Lib.hid (HRQ.out.swp j (j - 1))
            have HST2 := Lib.hid (HST.out (HCM.out.1 hc))
            clear HST HSP
            generalize gt e j = va at *
            generalize gt e (j - 1) = vb at *
            have ne : j ≠ j - 1 := by omega
            go_wp2_with fail
            go_region
            clear wj tj c1 c2 f1 f2 hd
            go_wp2_with fail
            go_roundg (j - 1 - a)
            case measure => have := HGJ.out; omega
            case rel => exact ⟨j - 1, _, rfl, by omega, by omega, by go_num, HPS.out, HST2.out, HSW.out.drew⟩
          · have HSP2 := Lib.hid (HSP.out (Int.not_lt.1 (fun h => hc (HCM.out.2 h))))
            clear wj tj hd
            go_wp2_with fail
            go_roundg (b - (i + 1 - 1))
            case measure => have := HG.out; omega
            case rel => exact ⟨i + 1, e, rfl, by omega, .inl (by omega), by go_num, HPX.out, HSP2.out, HRQ.out⟩
        · have hja : j = a := by omega
          have HSP2 := Lib.hid (HIX.out.stop haj hji (.inl hja))
          subst hja
          have hd : decide ((j : Int) < (j : Int)) = false := by simp
          go_wp2_with fail
          go_quiet (fail)
          clear hd
          go_wp2_with fail
          go_roundg (b - (i + 1 - 1))
          case measure => have := HG.out; omega
          case rel => exact ⟨i + 1, e, rfl, by omega, .inl (by omega), by go_num, HPX.out, HSP2.out, HRX.out.drewN _⟩
    · have HE : Hid (PIn a b d d' ∧ Srt (kf r) a b d') := by
        rcases HIB.out with e | ⟨e1, e2, e3⟩
        · obtain rfl : i = b := by omega
          exact ⟨HP.out, HSR.out⟩
        · subst e3; exact ⟨PIn.refl _ _ _, Srt.one (by omega)⟩
      go_wp2_with fail
      go_end0
      exact ⟨rfl, d', HE.out.1, HE.out.2, HR.out⟩
end Go.Proofs.Ytjimahagfkpacaa
