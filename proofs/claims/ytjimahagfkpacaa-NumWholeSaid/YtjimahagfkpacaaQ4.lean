/- The stable sort, of 64 at most. -/
import Derived.Test.YtjimahagfkpacaaQ3
namespace Go.Proofs.Ytjimahagfkpacaa
open Go.RowKit Go
set_option linter.unusedVariables false
set_option linter.unusedSimpArgs false

/-- A stretch is sorted, and holds its own numbers. -/
def Seg (f : Int → Int) (a b : Nat) (d : List Int) : Prop := Srt f a b d ∧ Own a b d
theorem Seg.out {f : Int → Int} {a b lo hi : Nat} {d d' : List Int} (h : Seg f a b d) (hp : PIn lo hi d d') (hd : b ≤ lo ∨ hi ≤ a) : Seg f a b d' :=
  ⟨h.1.same fun p p1 p2 => hp.out p (by omega), h.2.same fun p p1 p2 => hp.out p (by omega)⟩
theorem Seg.merged {f : Int → Int} {a m b : Nat} {d d' : List Int} (h1 : Seg f a m d) (h2 : Seg f m b d) (ha : a ≤ m) (hb : m ≤ b) (hp : PIn a b d d') (hs : Srt f a b d') : Seg f a b d' :=
  ⟨hs, (h1.2.join h2.2 ha hb).pin hp⟩
theorem Seg.none {f : Int → Int} {a b : Nat} {d : List Int} (h : b ≤ a) : Seg f a b d := ⟨Srt.one (by omega), fun p h1 h2 => by omega⟩
/-- From a on each place holds its own number. -/
def Idn (a n : Nat) (d : List Int) : Prop := ∀ p, a ≤ p → p < n → gt d p = (p : Int)
theorem Idn.own {a n b : Nat} {d : List Int} (h : Idn a n d) (hb : b ≤ n) : Own a b d := fun p h1 h2 => by rw [h p h1 (by omega)]; omega
theorem Idn.up {a n b : Nat} {d : List Int} (h : Idn a n d) (hb : b ≤ n) : ∀ p q, a ≤ p → p < q → q < b → gt d p < gt d q := fun p q h1 h2 h3 => by rw [h p h1 (by omega), h q (by omega) (by omega)]; omega
theorem Idn.pin {a n b : Nat} {d d' : List Int} (h : Idn a n d) (hp : PIn a b d d') (hab : a ≤ b) : Idn b n d' := fun p h1 h2 => by rw [hp.out p (.inr h1)]; exact h p (by omega) h2

def P20 (f : Int → Int) (n : Nat) (d : List Int) : Prop := Seg f 0 (min 20 n) d ∧ Seg f (min 20 n) (min 40 n) d ∧ Seg f (min 40 n) (min 60 n) d ∧ Seg f (min 60 n) n d
def P40 (f : Int → Int) (n : Nat) (d : List Int) : Prop := Seg f 0 (min 40 n) d ∧ Seg f (min 40 n) n d
def P1 (f : Int → Int) (t : Nat) (d : List Int) : Prop := (1 ≤ t → Seg f 0 20 d) ∧ (2 ≤ t → Seg f 20 40 d) ∧ (3 ≤ t → Seg f 40 60 d)
theorem P1.step {f : Int → Int} {t : Nat} {d d' : List Int} (h : P1 f t d) (ht : t ≤ 2) (hp : PIn (20 * t) (20 * t + 20) d d') (hs : Seg f (20 * t) (20 * t + 20) d') : P1 f (t + 1) d' := by
  obtain ⟨h1, h2, h3⟩ := h
  rcases (show t = 0 ∨ t = 1 ∨ t = 2 by omega) with rfl | rfl | rfl
  · exact ⟨fun _ => hs, fun h => by omega, fun h => by omega⟩
  · exact ⟨fun _ => (h1 (by omega)).out hp (by omega), fun _ => hs, fun h => by omega⟩
  · exact ⟨fun _ => (h1 (by omega)).out hp (by omega), fun _ => (h2 (by omega)).out hp (by omega), fun _ => hs⟩
theorem P1.last {f : Int → Int} {t n : Nat} {d d' : List Int} (h : P1 f t d) (ht : t ≤ 3) (hn : 20 * t ≤ n) (hn2 : n < 20 * t + 20) (hp : PIn (20 * t) n d d') (hs : Seg f (20 * t) n d') : P20 f n d' := by
  obtain ⟨h1, h2, h3⟩ := h
  unfold P20
  rcases (show t = 0 ∨ t = 1 ∨ t = 2 ∨ t = 3 by omega) with rfl | rfl | rfl | rfl
  · rw [show min 20 n = n by omega, show min 40 n = n by omega, show min 60 n = n by omega]
    exact ⟨hs, Seg.none (Nat.le_refl _), Seg.none (Nat.le_refl _), Seg.none (Nat.le_refl _)⟩
  · rw [show min 20 n = 20 by omega, show min 40 n = n by omega, show min 60 n = n by omega]
    exact ⟨(h1 (by omega)).out hp (by omega), hs, Seg.none (Nat.le_refl _), Seg.none (Nat.le_refl _)⟩
  · rw [show min 20 n = 20 by omega, show min 40 n = 40 by omega, show min 60 n = n by omega]
    exact ⟨(h1 (by omega)).out hp (by omega), (h2 (by omega)).out hp (by omega), hs, Seg.none (Nat.le_refl _)⟩
  · rw [show min 20 n = 20 by omega, show min 40 n = 40 by omega, show min 60 n = 60 by omega]
    exact ⟨(h1 (by omega)).out hp (by omega), (h2 (by omega)).out hp (by omega), (h3 (by omega)).out hp (by omega), hs⟩

/-- What a sort leaves. -/
def Sorted (r : List Int) (g n : Nat) (d : List Int) (w0 : World) (e : Ending) (w' : World) : Prop := e = .returned (.tuple #[]) ∧ ∃ d', PIn 0 n d d' ∧ Srt (kf r) 0 n d' ∧ AtR g n w0 w' d'

set_option maxHeartbeats 16000000 in
theorem stable_any (g rb ra n : Nat) (r d : List Int) (w0 w : World) (S : SS g rb ra n r w0) (h : AtR g n w0 w d) (hd : Idn 0 n d) (hn : n ≤ 64) :
    Calls Try.prog 43 #[.slice (some ⟨g, 0, none⟩) n n, .int .i64 n, clo rb] w (Sorted r g n d w0) := by
  have hi : Inr n d := fun p hp => by rw [hd p (by omega) hp]; omega
  have H := Lib.hid h; have HS := Lib.hid S; have HI := Lib.hid hi; have HD := Lib.hid hd; clear h S hi hd
  unfold clo
  go_enter Try.func43, Try.ntmps43
  go_upto_block 0 with fail
  go_cut [7, 8] from 11 to 22 (fun v7 v8 wc => ∃ (A B : Nat) (d1 : List Int), v7 = .int .i64 A ∧ v8 = .int .i64 B ∧ A ≤ n ∧ (∃ t, t ≤ 3 ∧ A = 20 * t ∧ n < A + 20 ∧ P1 (kf r) t d1) ∧ Idn A n d1 ∧ PIn 0 n d d1 ∧ AtR g n w0 wc d1)
  case first =>
    go_wp2_with fail
    go_loopg [7, 8] 4 (fun gh vi vj wr => ∃ (t A B : Nat) (d1 : List Int), gh = 4 - t ∧ vi = .int .i64 A ∧ vj = .int .i64 B ∧ A = 20 * t ∧ B = 20 * t + 20 ∧ A ≤ n ∧ P1 (kf r) t d1 ∧ Idn A n d1 ∧ PIn 0 n d d1 ∧ AtR g n w0 wr d1)
    case atStart => exact ⟨0, 0, 20, d, rfl, rfl, rfl, rfl, rfl, by omega, ⟨fun h => by omega, fun h => by omega, fun h => by omega⟩, HD.out, PIn.refl _ _ _, H.out⟩
    case round =>
      obtain ⟨t, A, B, d1, hgk, rfl, rfl, hA, hB, hAn, hp, hid, hpi, hr⟩ := hrel
      have HG := Lib.hid hgk; have HA := Lib.hid hA; have HB := Lib.hid hB; have HP := Lib.hid hp; have HID := Lib.hid hid; have HPI := Lib.hid hpi; have HR := Lib.hid hr
      have hAB : A ≤ B := by omega
      clear hgk hA hB hp hid hpi hr
      by_cases hlt : B ≤ n
      · go_wp2_with fail
        refine (insR_any g rb ra n A B r d1 w0 _ HS.out HR.out (HI.out.pin HPI.out (Nat.le_refl _)) hAB hlt (by omega) (HID.out.up hlt)).mono ?_
        rintro e w1 ⟨rfl, d2, hp2, hs2, hat⟩
        have HP2 := Lib.hid hp2; have HS2 := Lib.hid hs2; have HAT := Lib.hid hat; clear hp2 hs2 hat
        go_wp2_with fail
        have ha := HA.out; have hb := HB.out
        go_roundg (4 - (t + 1))
        case measure => have := HG.out; omega
        case rel =>
          refine ⟨t + 1, B, B + 20, d2, rfl, rfl, by go_num, by omega, by omega, hlt, ?_, HID.out.pin HP2.out hAB, HPI.out.trans (HP2.out.wide (by omega) hlt), HAT.out⟩
          have hp := HP2.out; have hs := HS2.out; have ho := (HID.out.own hlt).pin HP2.out
          rw [ha, hb] at hp hs ho
          exact HP.out.step (by omega) hp ⟨hs, ho⟩
      · go_wp2_with fail
        go_meet
        have ha := HA.out; have hb := HB.out
        exact ⟨A, B, d1, rfl, rfl, hAn, ⟨t, by omega, ha, by omega, HP.out⟩, HID.out, HPI.out, HR.out⟩
  case rest =>
    obtain ⟨A, B, d1, rfl, rfl, hAn, ⟨t, ht, hA, hn2, hp⟩, hid, hpi, hr⟩ := hcut
    have HA := Lib.hid hA; have HP := Lib.hid hp; have HID := Lib.hid hid; have HPI := Lib.hid hpi; have HR := Lib.hid hr
    clear hA hp hid hpi hr
    go_wp2_with fail
    refine (insR_any g rb ra n A n r d1 w0 _ HS.out HR.out (HI.out.pin HPI.out (Nat.le_refl _)) hAn (Nat.le_refl _) (by omega) (HID.out.up (Nat.le_refl _))).mono ?_
    rintro e w1 ⟨rfl, d2, hp2, hs2, hat⟩
    have HP20 : Hid (P20 (kf r) n d2) := by
      have ha := HA.out
      have ho := (HID.out.own (Nat.le_refl _)).pin hp2
      rw [ha] at hp2 hs2 ho
      exact HP.out.last ht (by omega) (by omega) hp2 ⟨hs2, ho⟩
    have HPI2 := Lib.hid (HPI.out.trans (hp2.wide (by omega) (Nat.le_refl _)))
    have HAT := Lib.hid hat; clear hp2 hs2 hat HA HP HID HPI HR hAn hn2 ht
    go_wp2_with fail
    go_loopg [6] 2 (fun gh vz wr => ∃ (d1 : List Int), ((gh = 2 ∧ vz = .int .i64 20 ∧ P20 (kf r) n d1) ∨ (gh = 1 ∧ vz = .int .i64 40 ∧ P40 (kf r) n d1) ∨ (gh = 0 ∧ vz = .int .i64 80 ∧ Seg (kf r) 0 n d1)) ∧ PIn 0 n d d1 ∧ AtR g n w0 wr d1)
    case atStart => exact ⟨d2, .inl ⟨rfl, rfl, HP20.out⟩, HPI2.out, HAT.out⟩
    case round =>
      obtain ⟨d3, hz, hpi, hr⟩ := hrel
      have HPI := Lib.hid hpi; have HR := Lib.hid hr
      clear hpi hr
      rcases hz with ⟨hgk, rfl, hp⟩ | ⟨hgk, rfl, hp⟩ | ⟨hgk, rfl, hp⟩
      · have HG := Lib.hid hgk; have HP := Lib.hid hp
        clear hgk hp
        have ec : ((20 : Nat) : Int) = 20 := rfl
        by_cases hlt : 20 < n
        · have hlt' : (20 : Int) < (n : Int) := by omega
          go_upto_block 4 with fail
          go_cut [7, 8] from 33 to 48 (fun v7 v8 wc => ∃ (d4 : List Int), ((v7 = .int .i64 0 ∧ n < 40 ∧ Seg (kf r) 0 20 d4 ∧ Seg (kf r) 20 n d4) ∨ (v7 = .int .i64 40 ∧ 40 ≤ n ∧ Seg (kf r) 0 40 d4 ∧ Seg (kf r) 40 (min 60 n) d4 ∧ Seg (kf r) (min 60 n) n d4)) ∧ PIn 0 n d d4 ∧ AtR g n w0 wc d4)
          case first =>
            by_cases h40 : n < 40
            · have h40' : ¬ (40 : Int) ≤ (n : Int) := by omega
              have HF : Hid (Seg (kf r) 0 20 d3 ∧ Seg (kf r) 20 n d3) := by
                obtain ⟨h1, h2, _⟩ := HP.out
                rw [show min 20 n = 20 by omega] at h1 h2; rw [show min 40 n = n by omega] at h2
                exact ⟨h1, h2⟩
              go_wp2_with fail
              refine wp_loop_rounds 1 ?_
              rw [rounds_succ]
              go_wp2_with fail
              go_meet
              exact ⟨d3, .inl ⟨rfl, h40, HF.out.1, HF.out.2⟩, HPI.out, HR.out⟩
            · have h40' : (40 : Int) ≤ (n : Int) := by omega
              have h80' : ¬ (80 : Int) ≤ (n : Int) := by omega
              have HF : Hid (Seg (kf r) 0 20 d3 ∧ Seg (kf r) 20 40 d3 ∧ Seg (kf r) 40 (min 60 n) d3 ∧ Seg (kf r) (min 60 n) n d3) := by
                obtain ⟨h1, h2, h3, h4⟩ := HP.out
                rw [show min 20 n = 20 by omega] at h1 h2; rw [show min 40 n = 40 by omega] at h2 h3
                exact ⟨h1, h2, h3, h4⟩
              go_wp2_with fail
              refine wp_loop_rounds 2 ?_
              rw [rounds_succ]
              go_wp2_with fail
              refine (sym_any g rb ra n r w0 HS.out (by omega) n 0 20 40 d3 _ (by omega) HR.out (HI.out.pin HPI.out (Nat.le_refl _)) (by omega) (by omega) (by omega) HF.out.1.1 HF.out.2.1.1 (HF.out.1.2.crs HF.out.2.1.2)).mono ?_
              rintro e w1 ⟨rfl, d4, hp2, hs2, hat⟩
              have HP2 := Lib.hid hp2; have HS2 := Lib.hid hs2; have HAT := Lib.hid hat; clear hp2 hs2 hat
              go_wp2_with fail
              rw [rounds_succ]
              go_wp2_with fail
              go_meet
              exact ⟨d4, .inr ⟨rfl, by omega, Seg.merged HF.out.1 HF.out.2.1 (by omega) (by omega) HP2.out HS2.out, HF.out.2.2.1.out HP2.out (by omega), HF.out.2.2.2.out HP2.out (by omega)⟩, HPI.out.trans (HP2.out.wide (by omega) (by omega)), HAT.out⟩
          case rest =>
            obtain ⟨d4, hz, hpi, hr⟩ := hcut
            have HPI4 := Lib.hid hpi; have HR4 := Lib.hid hr
            clear hpi hr HPI HR HP
            rcases hz with ⟨rfl, h40, hs1, hs2⟩ | ⟨rfl, h40, hs1, hs2, hs3⟩
            · have HS1 := Lib.hid hs1; have HS2 := Lib.hid hs2; clear hs1 hs2
              go_wp2_with fail
              refine (sym_any g rb ra n r w0 HS.out (by omega) n 0 20 n d4 _ (by omega) HR4.out (HI.out.pin HPI4.out (Nat.le_refl _)) (by omega) (by omega) (by omega) HS1.out.1 HS2.out.1 (HS1.out.2.crs HS2.out.2)).mono ?_
              rintro e w1 ⟨rfl, d5, hp5, hs5, hat⟩
              have HP5 := Lib.hid hp5; have HS5 := Lib.hid hs5; have HAT := Lib.hid hat; clear hp5 hs5 hat
              go_wp2_with fail
              go_roundg 1
              case measure => have := HG.out; omega
              case rel =>
                refine ⟨d5, .inr (.inl ⟨rfl, rfl, ?_⟩), HPI4.out.trans HP5.out, HAT.out⟩
                unfold P40
                rw [show min 40 n = n by omega]
                exact ⟨Seg.merged HS1.out HS2.out (by omega) (by omega) HP5.out HS5.out, Seg.none (Nat.le_refl _)⟩
            · have HS1 := Lib.hid hs1; have HS2 := Lib.hid hs2; have HS3 := Lib.hid hs3; clear hs1 hs2 hs3
              by_cases h60 : 60 < n
              · have h60' : (60 : Int) < (n : Int) := by omega
                have HF : Hid (Seg (kf r) 40 60 d4 ∧ Seg (kf r) 60 n d4) := by
                  have h1 := HS2.out; have h2 := HS3.out
                  rw [show min 60 n = 60 by omega] at h1 h2; exact ⟨h1, h2⟩
                go_wp2_with fail
                refine (sym_any g rb ra n r w0 HS.out (by omega) n 40 60 n d4 _ (by omega) HR4.out (HI.out.pin HPI4.out (Nat.le_refl _)) (by omega) (by omega) (by omega) HF.out.1.1 HF.out.2.1 (HF.out.1.2.crs HF.out.2.2)).mono ?_
                rintro e w1 ⟨rfl, d5, hp5, hs5, hat⟩
                have HP5 := Lib.hid hp5; have HS5 := Lib.hid hs5; have HAT := Lib.hid hat; clear hp5 hs5 hat
                go_wp2_with fail
                go_roundg 1
                case measure => have := HG.out; omega
                case rel =>
                  refine ⟨d5, .inr (.inl ⟨rfl, rfl, ?_⟩), HPI4.out.trans (HP5.out.wide (by omega) (Nat.le_refl _)), HAT.out⟩
                  unfold P40
                  rw [show min 40 n = 40 by omega]
                  exact ⟨HS1.out.out HP5.out (by omega), Seg.merged HF.out.1 HF.out.2 (by omega) (by omega) HP5.out HS5.out⟩
              · have h60' : ¬ (60 : Int) < (n : Int) := by omega
                have HF : Hid (P40 (kf r) n d4) := by
                  have h1 := HS2.out
                  rw [show min 60 n = n by omega] at h1
                  unfold P40; rw [show min 40 n = 40 by omega]; exact ⟨HS1.out, h1⟩
                go_wp2_with fail
                go_roundg 1
                case measure => have := HG.out; omega
                case rel => exact ⟨d4, .inr (.inl ⟨rfl, rfl, HF.out⟩), HPI4.out, HR4.out⟩
        · have hlt' : ¬ (20 : Int) < (n : Int) := by omega
          have HF : Hid (Srt (kf r) 0 n d3) := by have := HP.out.1.1; rwa [show min 20 n = n by omega] at this
          go_wp2_with fail
          go_end0
          exact ⟨rfl, d3, HPI.out, HF.out, HR.out⟩
      · have HG := Lib.hid hgk; have HP := Lib.hid hp
        clear hgk hp
        by_cases hlt : 40 < n
        · have hlt' : (40 : Int) < (n : Int) := by omega
          have h80' : ¬ (80 : Int) ≤ (n : Int) := by omega
          have HF : Hid (Seg (kf r) 0 40 d3 ∧ Seg (kf r) 40 n d3) := by
            obtain ⟨h1, h2⟩ := HP.out
            rw [show min 40 n = 40 by omega] at h1 h2; exact ⟨h1, h2⟩
          go_wp2_with fail
          refine wp_loop_rounds 1 ?_
          rw [rounds_succ]
          go_wp2_with fail
          refine (sym_any g rb ra n r w0 HS.out (by omega) n 0 40 n d3 _ (by omega) HR.out (HI.out.pin HPI.out (Nat.le_refl _)) (by omega) (by omega) (by omega) HF.out.1.1 HF.out.2.1 (HF.out.1.2.crs HF.out.2.2)).mono ?_
          rintro e w1 ⟨rfl, d5, hp5, hs5, hat⟩
          have HP5 := Lib.hid hp5; have HS5 := Lib.hid hs5; have HAT := Lib.hid hat; clear hp5 hs5 hat
          go_wp2_with fail
          go_roundg 0
          case measure => have := HG.out; omega
          case rel => exact ⟨d5, .inr (.inr ⟨rfl, rfl, Seg.merged HF.out.1 HF.out.2 (by omega) (by omega) HP5.out HS5.out⟩), HPI.out.trans HP5.out, HAT.out⟩
        · have hlt' : ¬ (40 : Int) < (n : Int) := by omega
          have HF : Hid (Srt (kf r) 0 n d3) := by have := HP.out.1.1; rwa [show min 40 n = n by omega] at this
          go_wp2_with fail
          go_end0
          exact ⟨rfl, d3, HPI.out, HF.out, HR.out⟩
      · have HP := Lib.hid hp
        have hlt' : ¬ (80 : Int) < (n : Int) := by omega
        clear hgk hp
        go_wp2_with fail
        go_end0
        exact ⟨rfl, d3, HPI.out, HP.out.1, HR.out⟩

theorem sortStable_any (g rb ra n : Nat) (r d : List Int) (w0 w : World) (S : SS g rb ra n r w0) (h : AtR g n w0 w d) (hd : Idn 0 n d) (hn : n ≤ 64) :
    Calls Try.prog 34 #[.slice (some ⟨g, 0, none⟩) n n, clo rb] w (Sorted r g n d w0) := by
  have HC := Lib.hid (stable_any g rb ra n r d w0 w S h hd hn)
  clear S h hd
  unfold clo at *
  go_enter Try.func34, Try.ntmps34
  go_wp2_with fail
  refine HC.out.mono ?_
  rintro e w1 ⟨rfl, d5, hp5, hs5, hat⟩
  have HP5 := Lib.hid hp5; have HS5 := Lib.hid hs5; have HAT := Lib.hid hat; clear hp5 hs5 hat
  go_wp2_with fail
  go_end0
  exact ⟨rfl, d5, HP5.out, HS5.out, HAT.out⟩
end Go.Proofs.Ytjimahagfkpacaa
