/- Merging in place, by symmetry. -/
import Derived.Test.YtjimahagfkpacaaQ2
import Derived.Deep.DeepCutAuto
import Derived.Deep.CutBlock
namespace Go.Proofs.Ytjimahagfkpacaa
open Go.RowKit Go
set_option linter.unusedVariables false
set_option linter.unusedSimpArgs false

/-- What a merge of a .. m with m .. b leaves. -/
def Merged (r : List Int) (g n a b : Nat) (d : List Int) (w0 : World) (e : Ending) (w' : World) : Prop := e = .returned (.tuple #[]) ∧ ∃ d', PIn a b d d' ∧ Srt (kf r) a b d' ∧ AtR g n w0 w' d'
def CA (r d : List Int) (a h : Nat) : Prop := ¬ kf r (gt d a) < kf r (gt d h)
@[reducible] def symArgs (g n rb a m b : Nat) : Array Value := #[.slice (some ⟨g, 0, none⟩) n n, .int .i64 a, .int .i64 m, .int .i64 b, clo rb]

set_option maxHeartbeats 8000000 in
set_option maxRecDepth 100000 in
theorem sym_one (g rb ra n a m b : Nat) (r d : List Int) (w0 w : World) (S : SS g rb ra n r w0) (h : AtR g n w0 w d) (hi : Inr n d) (hm : m = a + 1) (hab : a + 1 < b) (hb : b ≤ n) (hn : n ≤ 1000000) (ht : Srt (kf r) (a + 1) b d) (hc : Crs a (a + 1) b d) :
    Calls Try.prog 47 (symArgs g n rb a m b) w (Merged r g n a b d w0) := by
  have H := Lib.hid h; have HS := Lib.hid S; have HI := Lib.hid hi; have HT := Lib.hid ht; have HC := Lib.hid hc; clear h S hi ht hc
  have HM := Lib.hid hm
  have q1 : (m : Int) - (a : Int) = 1 := by omega
  have hm1 : a < m := by omega
  have hm2 : m < b := by omega
  clear hm hab
  unfold symArgs clo
  go_enter Try.func47, Try.ntmps47
  go_wp2_with fail
  clear q1
  go_loopg [10, 11] (b - m) (fun gh vi vj wr => ∃ (i j : Nat), gh = j - i ∧ vi = .int .i64 i ∧ vj = .int .i64 j ∧ Bse m b (CA r d a) i j ∧ AtR g n w0 wr d)
  case atStart => exact ⟨m, b, rfl, rfl, rfl, Bse.start (by omega), H.out⟩
  case round =>
    obtain ⟨i, j, hgk, rfl, rfl, hs, hr⟩ := hrel
    have HG := Lib.hid hgk; have HB := Lib.hid hs; have HR := Lib.hid hr
    have b1 := hs.1; have b2 := hs.2.1; have b3 := hs.2.2.1
    clear hgk hs hr
    by_cases hlt : i < j
    · obtain ⟨h, hh⟩ : ∃ h : Nat, h = (i + j) / 2 := ⟨_, rfl⟩
      have eh : ((i : Int) + (j : Int)) / 2 = (h : Int) := by omega
      have h1 : i ≤ h := by omega
      have h2 : h < j := by omega
      have c1 := HR.out.at_ (p := h) (by omega)
      have c2 := HR.out.at_ (p := a) (by omega)
      have r1 := HI.out h (by omega)
      have r2 := HI.out a (by omega)
      have HCM := Lib.hid (cmpI_neg (kf r (gt d a)) (kf r (gt d h)))
      have HCW := Lib.hid (fun (k : Nat) => cmp_w rb ra n g r (wr.drewN k) (HS.out.only (HR.out.only.drewN k)) (gt d h) (gt d a) r1 r2 hn)
      have HY : Hid (CA r d a h → Bse m b (CA r d a) i h) := Lib.hid (fun hk => by rw [hh]; exact HB.out.yes hlt (by rw [← hh]; exact hk))
      have HN : Hid (¬ CA r d a h → Bse m b (CA r d a) (h + 1) j) := Lib.hid (fun hk => by rw [hh]; exact HB.out.no hlt (by rw [← hh]; exact hk))
      have HH := Lib.hid hh; clear hh r1 r2
      have i1 : (0 : Int) ≤ (h : Int) := by omega
      have i2 : (h : Int) < (n : Int) := by omega
      have i3 : (0 : Int) ≤ (a : Int) := by omega
      have i4 : (a : Int) < (n : Int) := by omega
      obtain ⟨cm, hcm⟩ : ∃ cm, Lib.compareInt (kf r (gt d a)) (kf r (gt d h)) = cm := ⟨_, rfl⟩
      rw [hcm] at HCM HCW
      clear hcm
      go_wp2_with fail
      go_quiet ((go_at_call 35; exact Calls.quiet_of (HCW.out _)))
      have HRQ := Lib.hid (HR.out.drewN nq)
      clear HCW c1 c2 eh
      generalize wr.drewN nq = wq at *
      by_cases hc : cm < 0
      · have HN2 := Lib.hid (HN.out (fun h => h (HCM.out.1 hc)))
        go_wp2_with fail
        go_roundg (j - (h + 1))
        case measure => have := HG.out; omega
        case rel => exact ⟨h + 1, j, rfl, by go_num, rfl, HN2.out, HRQ.out⟩
      · have HY2 := Lib.hid (HY.out (fun h => hc (HCM.out.2 h)))
        go_wp2_with fail
        go_roundg (h - i)
        case measure => have := HG.out; omega
        case rel => exact ⟨i, h, rfl, rfl, rfl, HY2.out, HRQ.out⟩
    · obtain rfl : i = j := by omega
      clear HG
      go_wp2_with fail
      go_loopg [13] (i - 1 - a) (fun gh vk wx => ∃ (k : Nat) (d' : List Int), gh = i - 1 - k ∧ a ≤ k ∧ k ≤ i - 1 ∧ vk = .int .i64 k ∧ Up a k d d' ∧ AtR g n w0 wx d')
      case atStart => exact ⟨a, d, rfl, by omega, by omega, rfl, Up.start a d, HR.out⟩
      case round =>
        obtain ⟨k, d', hgk, hak, hki, rfl, hu, hr⟩ := hrel
        have HG := Lib.hid hgk; have HU := Lib.hid hu; have HX := Lib.hid hr
        clear hgk hu hr
        by_cases hlt : k < i - 1
        · have c1 := HX.out.at_ (p := k) (by omega)
          have c2 := HX.out.at_ (p := k + 1) (by omega)
          have f1 := HX.out.free k
          have f2 := HX.out.free (k + 1)
          have HSW := Lib.hid (HX.out.swp k (k + 1))
          have HUS := Lib.hid (HU.out.step hak (by have := HU.out.len; have := HX.out.len; omega))
          generalize gt d' k = va at *
          generalize gt d' (k + 1) = vb at *
          have i0 : (k : Int) < (i : Int) - 1 := by omega
          have i1 : (0 : Int) ≤ (k : Int) := by omega
          have i2 : (k : Int) < (n : Int) := by omega
          have i3 : (0 : Int) ≤ (k : Int) + 1 := by omega
          have i4 : (k : Int) + 1 < (n : Int) := by omega
          have w1 : IntKind.i64.wrap ((k : Int) + 1) = (k : Int) + 1 := IntWalk.i64_in _ (by omega)
          have t1 : ((k : Int) + 1).toNat = k + 1 := by omega
          have ne : k ≠ k + 1 := by omega
          go_wp2_with fail
          go_region
          clear w1 t1 c1 c2 f1 f2
          go_wp2_with fail
          go_roundg (i - 1 - (k + 1))
          case measure => have := HG.out; omega
          case rel => exact ⟨k + 1, _, rfl, by omega, by omega, by go_num, HUS.out, HSW.out.drew⟩
        · have e : k = i - 1 := by omega
          have i0 : ¬ (k : Int) < (i : Int) - 1 := by omega
          have HFIN : Hid (PIn a b d d' ∧ Srt (kf r) a b d') := ⟨HU.out.pin hak (by omega), Up.sorted HT.out HC.out (by have := HB.out; rw [HM.out] at this; exact this) (e ▸ HU.out)⟩
          clear e
          go_wp2_with fail
          go_end0
          exact ⟨rfl, d', HFIN.out.1, HFIN.out.2, HX.out⟩

def CB (r d : List Int) (m h : Nat) : Prop := kf r (gt d h) < kf r (gt d m)
set_option maxHeartbeats 8000000 in
set_option maxRecDepth 100000 in
theorem sym_last (g rb ra n a m b : Nat) (r d : List Int) (w0 w : World) (S : SS g rb ra n r w0) (h : AtR g n w0 w d) (hi : Inr n d) (hm : b = m + 1) (hab : a + 1 < m) (hb : b ≤ n) (hn : n ≤ 1000000) (ht : Srt (kf r) a m d) (hc : Crs a m (m + 1) d) :
    Calls Try.prog 47 (symArgs g n rb a m b) w (Merged r g n a b d w0) := by
  have H := Lib.hid h; have HS := Lib.hid S; have HI := Lib.hid hi; have HT := Lib.hid ht; have HC := Lib.hid hc; clear h S hi ht hc
  have HM := Lib.hid hm
  have q1 : ((m : Int) - (a : Int) == 1) = false := by simp; omega
  have q2 : (b : Int) - (m : Int) = 1 := by omega
  have hm1 : a < m := by omega
  have hm2 : m < b := by omega
  clear hm hab
  unfold symArgs clo
  go_enter Try.func47, Try.ntmps47
  go_wp2_with fail
  clear q1 q2
  go_loopg [14, 15] (m - a) (fun gh vi vj wr => ∃ (i j : Nat), gh = j - i ∧ vi = .int .i64 i ∧ vj = .int .i64 j ∧ Bse a m (CB r d m) i j ∧ AtR g n w0 wr d)
  case atStart => exact ⟨a, m, rfl, rfl, rfl, Bse.start (by omega), H.out⟩
  case round =>
    obtain ⟨i, j, hgk, rfl, rfl, hs, hr⟩ := hrel
    have HG := Lib.hid hgk; have HB := Lib.hid hs; have HR := Lib.hid hr
    have b1 := hs.1; have b2 := hs.2.1; have b3 := hs.2.2.1
    clear hgk hs hr
    by_cases hlt : i < j
    · obtain ⟨h, hh⟩ : ∃ h : Nat, h = (i + j) / 2 := ⟨_, rfl⟩
      have eh : ((i : Int) + (j : Int)) / 2 = (h : Int) := by omega
      have h1 : i ≤ h := by omega
      have h2 : h < j := by omega
      have c1 := HR.out.at_ (p := h) (by omega)
      have c2 := HR.out.at_ (p := m) (by omega)
      have r1 := HI.out h (by omega)
      have r2 := HI.out m (by omega)
      have HCM := Lib.hid (cmpI_neg (kf r (gt d h)) (kf r (gt d m)))
      have HCW := Lib.hid (fun (k : Nat) => cmp_w rb ra n g r (wr.drewN k) (HS.out.only (HR.out.only.drewN k)) (gt d m) (gt d h) r2 r1 hn)
      have HY : Hid (CB r d m h → Bse a m (CB r d m) i h) := Lib.hid (fun hk => by rw [hh]; exact HB.out.yes hlt (by rw [← hh]; exact hk))
      have HN : Hid (¬ CB r d m h → Bse a m (CB r d m) (h + 1) j) := Lib.hid (fun hk => by rw [hh]; exact HB.out.no hlt (by rw [← hh]; exact hk))
      have HH := Lib.hid hh; clear hh r1 r2
      have i1 : (0 : Int) ≤ (h : Int) := by omega
      have i2 : (h : Int) < (n : Int) := by omega
      have i3 : (0 : Int) ≤ (m : Int) := by omega
      have i4 : (m : Int) < (n : Int) := by omega
      obtain ⟨cm, hcm⟩ : ∃ cm, Lib.compareInt (kf r (gt d h)) (kf r (gt d m)) = cm := ⟨_, rfl⟩
      rw [hcm] at HCM HCW
      clear hcm
      go_wp2_with fail
      go_quiet ((go_at_call 35; exact Calls.quiet_of (HCW.out _)))
      have HRQ := Lib.hid (HR.out.drewN nq)
      clear HCW c1 c2 eh
      generalize wr.drewN nq = wq at *
      cases hcb : (!decide (cm < 0))
      · have hc : cm < 0 := by simpa using hcb
        clear hcb
        have HY2 := Lib.hid (HY.out (HCM.out.1 hc))
        go_wp2_with fail
        go_roundg (h - i)
        case measure => have := HG.out; omega
        case rel => exact ⟨i, h, rfl, rfl, rfl, HY2.out, HRQ.out⟩
      · have hc : ¬ cm < 0 := by simpa using hcb
        clear hcb
        have HN2 := Lib.hid (HN.out (fun h => hc (HCM.out.2 h)))
        go_wp2_with fail
        go_roundg (j - (h + 1))
        case measure => have := HG.out; omega
        case rel => exact ⟨h + 1, j, rfl, by go_num, rfl, HN2.out, HRQ.out⟩
    · obtain rfl : i = j := by omega
      clear HG
      go_wp2_with fail
      go_loopg [17] (m - i) (fun gh vk wx => ∃ (k : Nat) (d' : List Int), gh = k - i ∧ i ≤ k ∧ k ≤ m ∧ vk = .int .i64 k ∧ Down m k d d' ∧ AtR g n w0 wx d')
      case atStart => exact ⟨m, d, rfl, by omega, by omega, rfl, Down.start m d, HR.out⟩
      case round =>
        obtain ⟨k, d', hgk, hak, hki, rfl, hu, hr⟩ := hrel
        have HG := Lib.hid hgk; have HU := Lib.hid hu; have HX := Lib.hid hr
        clear hgk hu hr
        by_cases hlt : i < k
        · have c1 := HX.out.at_ (p := k) (by omega)
          have c2 := HX.out.at_ (p := k - 1) (by omega)
          have f1 := HX.out.free k
          have f2 := HX.out.free (k - 1)
          have HSW := Lib.hid (HX.out.swp k (k - 1))
          have HUS : Hid (Down m (k - 1) d (swp d' k (k - 1))) := by
            have h1 := HU.out; have hl := HX.out.len; have hl2 := HU.out.len
            have ej : k = (k - 1) + 1 := by omega
            rw [ej] at h1 ⊢
            simp only [Nat.add_sub_cancel] at h1 ⊢
            exact h1.step (by omega) (by omega)
          generalize gt d' k = va at *
          generalize gt d' (k - 1) = vb at *
          have i1 : (0 : Int) ≤ (k : Int) := by omega
          have i2 : (k : Int) < (n : Int) := by omega
          have i3 : (0 : Int) ≤ (k : Int) - 1 := by omega
          have i4 : (k : Int) - 1 < (n : Int) := by omega
          have w1 : IntKind.i64.wrap ((k : Int) - 1) = (k : Int) - 1 := IntWalk.i64_in _ (by omega)
          have t1 : ((k : Int) - 1).toNat = k - 1 := by omega
          have ne : k ≠ k - 1 := by omega
          go_wp2_with fail
          go_region
          clear w1 t1 c1 c2 f1 f2
          go_wp2_with fail
          go_roundg (k - 1 - i)
          case measure => have := HG.out; omega
          case rel => exact ⟨k - 1, _, rfl, by omega, by omega, by go_num, HUS.out, HSW.out.drew⟩
        · obtain rfl : k = i := by omega
          have HFIN : Hid (PIn a b d d' ∧ Srt (kf r) a b d') := by
            have hm := HM.out
            exact ⟨HU.out.pin hki b1 (by omega), by rw [hm]; exact Down.sorted HT.out HC.out HB.out HU.out⟩
          go_wp2_with fail
          go_end0
          exact ⟨rfl, d', HFIN.out.1, HFIN.out.2, HX.out⟩

def NLt (x y : Int) : Prop := ¬ x < y
def CC (r d : List Int) (n1 c : Nat) : Prop := kf r (gt d c) < kf r (gt d (n1 - 1 - c))
set_option maxHeartbeats 16000000 in
set_option maxRecDepth 100000 in
theorem sym_any (g rb ra n : Nat) (r : List Int) (w0 : World) (S : SS g rb ra n r w0) (hn : n ≤ 1000000) : ∀ (N a m b : Nat) (d : List Int) (w : World), b - a ≤ N → AtR g n w0 w d → Inr n d → a < m → m < b → b ≤ n → Srt (kf r) a m d → Srt (kf r) m b d → Crs a m b d →
    Calls Try.prog 47 (symArgs g n rb a m b) w (Merged r g n a b d w0) := by
  intro N
  induction N with
  | zero => intro a m b d w h0 _ _ h1 h2; omega
  | succ N ih =>
    intro a m b d w hN h hi h1 h2 hb hs ht hc
    by_cases c1 : m = a + 1
    · exact sym_one g rb ra n a m b r d w0 w S h hi c1 (by omega) hb hn (by rw [← c1]; exact ht) (by rw [← c1]; exact hc)
    · by_cases c2 : b = m + 1
      · exact sym_last g rb ra n a m b r d w0 w S h hi c2 (by omega) hb hn hs (by rw [← c2]; exact hc)
      · have H := Lib.hid h; have HS := Lib.hid S; have HI := Lib.hid hi; have HT := Lib.hid hs; have HT2 := Lib.hid ht; have HC := Lib.hid hc; have IH := Lib.hid ih; clear h S hi hs ht hc ih
        have q1 : ((m : Int) - (a : Int) == 1) = false := by simp; omega
        have q2 : ((b : Int) - (m : Int) == 1) = false := by simp; omega
        obtain ⟨mid, hmid⟩ : ∃ mid : Nat, mid = (a + b) / 2 := ⟨_, rfl⟩
        have eh : ((a : Int) + (b : Int)) / 2 = (mid : Int) := by omega
        have m1 : a < mid := by omega
        have m2 : mid < b := by omega
        have HMID := Lib.hid hmid
        clear c1 c2 hmid
        obtain ⟨n1, hn1⟩ : ∃ n1 : Nat, n1 = mid + m := ⟨_, rfl⟩
        obtain ⟨p1, hp1⟩ : ∃ p1 : Nat, p1 = n1 - 1 := ⟨_, rfl⟩
        have e1 : (mid : Int) + (m : Int) = (n1 : Int) := by omega
        have e2 : (n1 : Int) - 1 = (p1 : Int) := by omega
        have HN1 := Lib.hid hn1; have HP1 := Lib.hid hp1
        clear hn1 hp1
        unfold symArgs clo
        go_enter Try.func47, Try.ntmps47
        go_upto_if 140 with fail
        go_cut [20, 21] from 141 to 146 (fun v20 v21 wc => ∃ lo hi : Nat, v20 = .int .i64 lo ∧ v21 = .int .i64 hi ∧ (lo = a ∨ n1 = lo + b) ∧ (hi = m ∨ n1 = hi + m) ∧ a ≤ lo ∧ lo ≤ hi ∧ hi ≤ m ∧ hi ≤ mid ∧ n1 ≤ lo + b ∧ wc = w)
        case first =>
          by_cases hmm : mid < m
          · have e3 : (n1 : Int) - (b : Int) = ((n1 - b : Nat) : Int) := by have := HMID.out; have := HN1.out; omega
            go_wp2_with fail
            go_meet
            have := HMID.out; have := HN1.out
            exact ⟨n1 - b, mid, rfl, rfl, .inr (by omega), .inr (by omega), by omega, by omega, by omega, by omega, by omega, rfl⟩
          · go_wp2_with fail
            go_meet
            have := HMID.out; have := HN1.out
            exact ⟨a, m, rfl, rfl, .inl rfl, .inl rfl, by omega, by omega, by omega, by omega, by omega, rfl⟩
        case rest =>
          obtain ⟨lo, hi', rfl, rfl, hlo, hhi, l1, l2, l3, l4, l5, rfl⟩ := hcut
          have HLO := Lib.hid hlo; have HHI := Lib.hid hhi
          clear hlo hhi
          go_upto_block 8 with fail
          clear q1 q2 eh e1 e2
          go_cut [20, 21] from 149 to 174 (fun v20 v21 wc2 => ∃ i : Nat, v20 = .int .i64 i ∧ v21 = .int .i64 i ∧ Bse lo hi' (CC r d n1) i i ∧ AtR g n w0 wc2 d)
          case first =>
           go_wp2_with fail
           go_loopg [20, 21] (hi' - lo) (fun gh vi vj wr => ∃ (i j : Nat), gh = j - i ∧ vi = .int .i64 i ∧ vj = .int .i64 j ∧ Bse lo hi' (CC r d n1) i j ∧ AtR g n w0 wr d)
           case atStart => exact ⟨lo, hi', rfl, rfl, rfl, Bse.start l2, H.out⟩
           case round =>
             obtain ⟨i, j, hgk, rfl, rfl, hs, hr⟩ := hrel
             have HG := Lib.hid hgk; have HB := Lib.hid hs; have HR := Lib.hid hr
             have b1 := hs.1; have b2 := hs.2.1; have b3 := hs.2.2.1
             clear hgk hs hr
             by_cases hlt : i < j
             · obtain ⟨c, hh⟩ : ∃ c : Nat, c = (i + j) / 2 := ⟨_, rfl⟩
               have eh : ((i : Int) + (j : Int)) / 2 = (c : Int) := by omega
               have k1 : i ≤ c := by omega
               have k2 : c < j := by omega
               have k3 : p1 - c < n ∧ c < p1 := by have := HN1.out; have := HP1.out; omega
               have c1 := HR.out.at_ (p := c) (by omega)
               have c2 := HR.out.at_ (p := p1 - c) (by omega)
               have r1 := HI.out c (by omega)
               have r2 := HI.out (p1 - c) (by omega)
               have HCM : Hid (Lib.compareInt (kf r (gt d c)) (kf r (gt d (p1 - c))) < 0 ↔ CC r d n1 c) := Lib.hid (by unfold CC; rw [show n1 - 1 - c = p1 - c by rw [HP1.out]]; exact cmpI_neg _ _)
               have HCW := Lib.hid (fun (k : Nat) => cmp_w rb ra n g r (wr.drewN k) (HS.out.only (HR.out.only.drewN k)) (gt d (p1 - c)) (gt d c) r2 r1 hn)
               have HY : Hid (CC r d n1 c → Bse lo hi' (CC r d n1) i c) := Lib.hid (fun hk => by rw [hh]; exact HB.out.yes hlt (by rw [← hh]; exact hk))
               have HN : Hid (¬ CC r d n1 c → Bse lo hi' (CC r d n1) (c + 1) j) := Lib.hid (fun hk => by rw [hh]; exact HB.out.no hlt (by rw [← hh]; exact hk))
               have HH := Lib.hid hh; clear hh r1 r2
               have i1 : (0 : Int) ≤ (c : Int) := by omega
               have i2 : (c : Int) < (n : Int) := by omega
               have i3 : (0 : Int) ≤ (p1 : Int) - (c : Int) := by omega
               have i4 : (p1 : Int) - (c : Int) < (n : Int) := by omega
               have t1 : ((p1 : Int) - (c : Int)).toNat = p1 - c := by omega
               have w1 : IntKind.i64.wrap ((p1 : Int) - (c : Int)) = (p1 : Int) - (c : Int) := IntWalk.i64_in _ (by omega)
               obtain ⟨cm, hcm⟩ : ∃ cm, Lib.compareInt (kf r (gt d c)) (kf r (gt d (p1 - c))) = cm := ⟨_, rfl⟩
               rw [hcm] at HCM HCW
               clear hcm
               go_wp2_with fail
               go_quiet ((go_at_call 35; exact Calls.quiet_of (HCW.out _)))
               have HRQ := Lib.hid (HR.out.drewN nq)
               clear HCW c1 c2 eh t1 w1
               generalize wr.drewN nq = wq at *
               cases hcb : (!decide (cm < 0))
               · have hc : cm < 0 := by simpa using hcb
                 clear hcb
                 have HY2 := Lib.hid (HY.out (HCM.out.1 hc))
                 go_wp2_with fail
                 go_roundg (c - i)
                 case measure => have := HG.out; omega
                 case rel => exact ⟨i, c, rfl, rfl, rfl, HY2.out, HRQ.out⟩
               · have hc : ¬ cm < 0 := by simpa using hcb
                 clear hcb
                 have HN2 := Lib.hid (HN.out (fun h => hc (HCM.out.2 h)))
                 go_wp2_with fail
                 go_roundg (j - (c + 1))
                 case measure => have := HG.out; omega
                 case rel => exact ⟨c + 1, j, rfl, by go_num, rfl, HN2.out, HRQ.out⟩
             · obtain rfl : i = j := by omega
               go_wp2_with fail
               go_meet
               exact ⟨i, rfl, rfl, HB.out, HR.out⟩
          case rest =>
            obtain ⟨i, rfl, rfl, hb2, hr⟩ := hcut
            have HB := Lib.hid hb2; have HR := Lib.hid hr
            have b1 := hb2.1; have b2 := hb2.2.2.1
            clear hb2 hr
            obtain ⟨e, he⟩ : ∃ e : Nat, e = n1 - i := ⟨_, rfl⟩
            have g1 : m ≤ e ∧ e ≤ b ∧ i + e = n1 := by have := HHI.out; have := HLO.out; have := HN1.out; omega
            obtain ⟨g1, g2, g3⟩ := g1
            have e3 : (n1 : Int) - (i : Int) = (e : Int) := by omega
            have HL : Hid (i = a ∨ e = b ∨ NLt (kf r (gt d (i - 1))) (kf r (gt d e))) := by
              rcases HB.out.2.2.2.1 with h | h
              · rcases HLO.out with h2 | h2
                · exact .inl (by omega)
                · exact .inr (.inl (by omega))
              · by_cases h0 : i = 0
                · exact .inl (by omega)
                · refine .inr (.inr fun hk => h ?_)
                  unfold CC
                  rw [show n1 - 1 - (i - 1) = e by omega]; exact hk
            have HHI2 : Hid (i = m ∨ e = m ∨ kf r (gt d i) < kf r (gt d (e - 1))) := by
              rcases HB.out.2.2.2.2 with h | h
              · rcases HHI.out with h2 | h2
                · exact .inl (by omega)
                · exact .inr (.inl (by omega))
              · refine .inr (.inr ?_)
                unfold CC at h
                rw [show n1 - 1 - i = e - 1 by omega] at h; exact h
            have HE := Lib.hid he; clear he
            have g4 : i + e = mid + m := by have := HN1.out; omega
            clear l5 g3
            go_upto_region 39 with fail
            go_cut [24, 185] from 178 to 184 (fun v24 v185 wc2 => v24 = .int .i64 e ∧ v185 = .bool (decide (i < m ∧ m < e)) ∧ AtR g n w0 wc2 d)
            case first =>
              by_cases hx : i < m
              · by_cases hy : m < e
                · have hz : decide (i < m ∧ m < e) = true := decide_eq_true ⟨hx, hy⟩
                  have HZ := Lib.hid hz; clear hz
                  go_wp2_with fail
                  go_meet
                  exact ⟨rfl, by rw [HZ.out], HR.out⟩
                · have hz : decide (i < m ∧ m < e) = false := decide_eq_false (fun h => hy h.2)
                  have HZ := Lib.hid hz; clear hz
                  go_wp2_with fail
                  go_meet
                  exact ⟨rfl, by rw [HZ.out], HR.out⟩
              · have hz : decide (i < m ∧ m < e) = false := decide_eq_false (fun h => hx h.1)
                have HZ := Lib.hid hz; clear hz
                go_wp2_with fail
                go_meet
                exact ⟨rfl, by rw [HZ.out], HR.out⟩
            case rest =>
              obtain ⟨rfl, rfl, hr⟩ := hcut
              have HR := Lib.hid hr; clear hr
              obtain ⟨bt, hbt⟩ : ∃ bt, decide (i < m ∧ m < e) = bt := ⟨_, rfl⟩
              rw [hbt]
              have HBT := Lib.hid hbt; clear hbt
              go_upto_if 185 with fail
              go_cut [24] from 186 to 191 (fun v24 wc2 => v24 = .int .i64 e ∧ ∃ d1 : List Int, PIn a b d d1 ∧ Halves (kf r) a i mid e b d1 ∧ AtR g n w0 wc2 d1)
              case first =>
                cases bt with
                | true =>
                  have hrot := of_decide_eq_true HBT.out
                  go_wp2_with fail
                  refine (rotR_any g n n i m e d _ w0 _ HR.out hrot.1 hrot.2 (by omega) hn).mono ?_
                  rintro e' w1 ⟨rfl, d1, hro, hat⟩
                  have HRO := Lib.hid hro; have HAT := Lib.hid hat; clear hro hat
                  go_wp2_with fail
                  go_meet
                  exact ⟨rfl, d1, (HRO.out.pin (by omega) (by omega)).wide (by omega) (by omega), halves HT.out HT2.out HC.out (by omega) (by omega) g1 g2 g4 HL.out HHI2.out HRO.out.is HRO.out.out, HAT.out⟩
                | false =>
                  have hrot := of_decide_eq_false HBT.out
                  have hst : i = m ∨ e = m := by omega
                  have hh : Halves (kf r) a i mid e b d := halves HT.out HT2.out HC.out (by omega) (by omega) g1 g2 g4 HL.out HHI2.out (fun p p1 p2 => by
                    unfold rot
                    rcases hst with h | h
                    · rw [if_pos (by omega)]; congr 1; omega
                    · rw [if_neg (by omega)]; congr 1; omega) (fun _ _ => rfl)
                  have HH := Lib.hid hh; clear hh hst hrot
                  go_wp2_with fail
                  go_meet
                  exact ⟨rfl, d, PIn.refl _ _ _, HH.out, HR.out⟩
              case rest =>
                obtain ⟨rfl, d1, hp1, hh1, hr1⟩ := hcut
                have HQ1 := Lib.hid hp1; have HH1 := Lib.hid hh1; have HR1 := Lib.hid hr1
                have HI1 := Lib.hid (HI.out.pin hp1 hb)
                clear hp1 hh1 hr1 HL HHI2 HB HR e3 HBT
                go_upto_region 41 with fail
                go_cut [24, 199] from 192 to 198 (fun v24 v199 wc2 => v24 = .int .i64 e ∧ v199 = .bool (decide (a < i ∧ i < mid)) ∧ AtR g n w0 wc2 d1)
                case first =>
                  by_cases hx : a < i
                  · by_cases hy : i < mid
                    · have hz : decide (a < i ∧ i < mid) = true := decide_eq_true ⟨hx, hy⟩
                      have HZ := Lib.hid hz; clear hz
                      go_wp2_with fail
                      go_meet
                      exact ⟨rfl, by rw [HZ.out], HR1.out⟩
                    · have hz : decide (a < i ∧ i < mid) = false := decide_eq_false (fun h => hy h.2)
                      have HZ := Lib.hid hz; clear hz
                      go_wp2_with fail
                      go_meet
                      exact ⟨rfl, by rw [HZ.out], HR1.out⟩
                  · have hz : decide (a < i ∧ i < mid) = false := decide_eq_false (fun h => hx h.1)
                    have HZ := Lib.hid hz; clear hz
                    go_wp2_with fail
                    go_meet
                    exact ⟨rfl, by rw [HZ.out], HR1.out⟩
                case rest =>
                  obtain ⟨rfl, rfl, hr⟩ := hcut
                  have HR1 := Lib.hid hr; clear hr
                  obtain ⟨bt, hbt⟩ : ∃ bt, decide (a < i ∧ i < mid) = bt := ⟨_, rfl⟩
                  rw [hbt]
                  have HBT := Lib.hid hbt; clear hbt
                  go_upto_if 199 with fail
                  go_cut [24] from 200 to 205 (fun v24 wc2 => v24 = .int .i64 e ∧ ∃ d2 : List Int, PIn a mid d1 d2 ∧ Srt (kf r) a mid d2 ∧ AtR g n w0 wc2 d2)
                  case first =>
                    cases bt with
                    | true =>
                      have hx := of_decide_eq_true HBT.out
                      go_wp2_with fail
                      refine (IH.out a i mid d1 _ (by omega) HR1.out HI1.out hx.1 hx.2 (by omega) HH1.out.s1 HH1.out.s2 HH1.out.c1).mono ?_
                      rintro e' w1 ⟨rfl, d2, hp2, hs2, hat⟩
                      have HP2 := Lib.hid hp2; have HS2 := Lib.hid hs2; have HAT := Lib.hid hat; clear hp2 hs2 hat
                      go_wp2_with fail
                      go_meet
                      exact ⟨rfl, d2, HP2.out, HS2.out, HAT.out⟩
                    | false =>
                      have hx := of_decide_eq_false HBT.out
                      have HS : Hid (Srt (kf r) a mid d1) := by
                        by_cases h : a < i
                        · exact (show i = mid by omega) ▸ HH1.out.s1
                        · exact (show i = a by omega) ▸ HH1.out.s2
                      clear hx
                      go_wp2_with fail
                      go_meet
                      exact ⟨rfl, d1, PIn.refl _ _ _, HS.out, HR1.out⟩
                  case rest =>
                    obtain ⟨rfl, d2, hp2, hs2, hr2⟩ := hcut
                    have HP2 := Lib.hid hp2; have HS2 := Lib.hid hs2; have HR2 := Lib.hid hr2
                    have HI2 := Lib.hid (HI1.out.pin hp2 (by omega))
                    have s3 : Srt (kf r) mid e d2 := HH1.out.s3.same (fun p q1 q2 => HP2.out.out p (by omega))
                    have s4 : Srt (kf r) e b d2 := HH1.out.s4.same (fun p q1 q2 => HP2.out.out p (by omega))
                    have c2 : Crs mid e b d2 := fun p q q1 q2 q3 q4 => by
                      rw [HP2.out.out p (by omega), HP2.out.out q (by omega)]; exact HH1.out.c2 p q q1 q2 q3 q4
                    have S3 := Lib.hid s3; have S4 := Lib.hid s4; have C2 := Lib.hid c2
                    clear hp2 hs2 hr2 s3 s4 c2 HR1 HI1 HBT
                    have FIN : Hid (∀ d3 : List Int, PIn mid b d2 d3 → Srt (kf r) mid b d3 → PIn a b d d3 ∧ Srt (kf r) a b d3) := fun d3 h1 h2 =>
                      ⟨(HQ1.out.trans (HP2.out.wide (Nat.le_refl _) (by omega))).trans (h1.wide (by omega) (Nat.le_refl _)), halves_done (by omega) (by omega) HH1.out.x HP2.out HS2.out h1 h2⟩
                    by_cases hx : mid < e
                    · by_cases hy : e < b
                      · go_wp2_with fail
                        refine (IH.out mid e b d2 _ (by omega) HR2.out HI2.out hx hy hb S3.out S4.out C2.out).mono ?_
                        rintro e' w1 ⟨rfl, d3, hp3, hs3, hat⟩
                        have HP3 := Lib.hid hp3; have HS3 := Lib.hid hs3; have HAT := Lib.hid hat; clear hp3 hs3 hat
                        go_wp2_with fail
                        go_end0
                        exact ⟨rfl, d3, (FIN.out d3 HP3.out HS3.out).1, (FIN.out d3 HP3.out HS3.out).2, HAT.out⟩
                      · have hxm := Lib.hid (show e = b by omega)
                        go_wp2_with fail
                        go_end0
                        have := FIN.out d2 (PIn.refl _ _ _) (hxm.out ▸ S3.out)
                        exact ⟨rfl, d2, this.1, this.2, HR2.out⟩
                    · have hxm := Lib.hid (show e = mid by omega)
                      go_wp2_with fail
                      go_end0
                      have := FIN.out d2 (PIn.refl _ _ _) (hxm.out ▸ S4.out)
                      exact ⟨rfl, d2, this.1, this.2, HR2.out⟩
end Go.Proofs.Ytjimahagfkpacaa
