/- An account's small functions: within, find, payment. -/
import Derived.Test.YtbjjgnaojoaoiaaGreatK9
namespace Go.Proofs.YtbjjgnaojoaoiaaGreat
open Go.RowKit Go
set_option linter.unusedVariables false
set_option linter.unusedSimpArgs false

theorem uwithin_yes (z lo hi : Int) (w : World) (h : lo ≤ z ∧ z ≤ hi) : Calls Tryz.prog 34 #[.int .i64 z, .int .i64 lo, .int .i64 hi] w fun e w' => e = .returned (.bool true) ∧ w = w' := by
  obtain ⟨h1, h2⟩ := h
  go_enter Tryz.func34, Tryz.ntmps34
  go_wp2_with fail
  go_ret
  exact ⟨rfl, rfl⟩
theorem uwithin_no (z lo hi : Int) (w : World) (h : ¬ (lo ≤ z ∧ z ≤ hi)) : Calls Tryz.prog 34 #[.int .i64 z, .int .i64 lo, .int .i64 hi] w fun e w' => e = .returned (.bool false) ∧ w = w' := by
  by_cases h1 : lo ≤ z
  · have h2 : hi < z := by omega
    clear h
    go_enter Tryz.func34, Tryz.ntmps34
    go_wp2_with fail
    go_ret
    exact ⟨by first | rfl | (simp; omega), rfl⟩
  · have h2 : z < lo := by omega
    clear h h1
    go_enter Tryz.func34, Tryz.ntmps34
    go_wp2_with fail
    go_ret
    exact ⟨by first | rfl | (simp; omega), rfl⟩
theorem uwithin64_yes (z lo hi : Int) (w : World) (h : lo ≤ z ∧ z ≤ hi) : Calls Tryz.prog 49 #[.int .i64 z, .int .i64 lo, .int .i64 hi] w fun e w' => e = .returned (.bool true) ∧ w = w' := by
  obtain ⟨h1, h2⟩ := h
  go_enter Tryz.func49, Tryz.ntmps49
  go_wp2_with fail
  go_ret
  exact ⟨rfl, rfl⟩
theorem uwithin64_no (z lo hi : Int) (w : World) (h : ¬ (lo ≤ z ∧ z ≤ hi)) : Calls Tryz.prog 49 #[.int .i64 z, .int .i64 lo, .int .i64 hi] w fun e w' => e = .returned (.bool false) ∧ w = w' := by
  by_cases h1 : lo ≤ z
  · have h2 : hi < z := by omega
    clear h
    go_enter Tryz.func49, Tryz.ntmps49
    go_wp2_with fail
    go_ret
    exact ⟨by first | rfl | (simp; omega), rfl⟩
  · have h2 : z < lo := by omega
    clear h h1
    go_enter Tryz.func49, Tryz.ntmps49
    go_wp2_with fail
    go_ret
    exact ⟨by first | rfl | (simp; omega), rfl⟩

/-- The place of the first one that is so; -1: none. -/
def idxI {α : Type} (f : α → Bool) : Nat → List α → Int
  | _, [] => -1
  | k, x :: l => if f x then (k : Int) else idxI f (k + 1) l
theorem idxI_spec {α : Type} (f : α → Bool) : ∀ (l : List α) (k : Nat), (idxI f k l = -1 ∧ ∀ x ∈ l, f x = false) ∨ ∃ i, ∃ h : i < l.length, idxI f k l = ((k + i : Nat) : Int) ∧ f l[i] = true ∧ ∀ j, ∀ hj : j < i, f (l[j]'(Nat.lt_trans hj h)) = false
  | [], k => .inl ⟨rfl, fun x hx => by simp at hx⟩
  | x :: l, k => by
    by_cases hx : f x = true
    · exact .inr ⟨0, by simp, by simp [idxI, hx], by simpa using hx, fun j hj => by omega⟩
    · have hx' : f x = false := by simpa using hx
      have e : idxI f k (x :: l) = idxI f (k + 1) l := by simp [idxI, hx']
      rw [e]
      rcases idxI_spec f l (k + 1) with ⟨h1, h2⟩ | ⟨i, hi, h1, h2, h3⟩
      · refine .inl ⟨h1, fun y hy => ?_⟩
        rcases List.mem_cons.1 hy with rfl | hy
        · exact hx'
        · exact h2 y hy
      · refine .inr ⟨i + 1, by simpa using hi, by rw [h1]; omega, by simpa using h2, fun j hj => ?_⟩
        cases j with
        | zero => simpa using hx'
        | succ j => simpa using h3 j (by omega)
theorem idxI_bd {α : Type} (f : α → Bool) (l : List α) : -1 ≤ idxI f 0 l ∧ idxI f 0 l < l.length ∨ l = [] ∧ idxI f 0 l = -1 := by
  rcases idxI_spec f l 0 with ⟨h, _⟩ | ⟨i, hi, h, _⟩
  · cases l with
    | nil => exact .inr ⟨rfl, h⟩
    | cons x l => rw [h]; exact .inl ⟨by omega, by simp; omega⟩
  · rw [h]; exact .inl ⟨by omega, by omega⟩

theorem Rd.per {w : World} {B n : Nat} {A : Option Addr} {ps : List Per} (h : Rd w B 11 A n (perCs ps)) {k : Nat} (hk : k < ps.length) : ∃ b off, A = some ⟨b, off, none⟩ ∧ b < B ∧
    w.cell? ⟨b, off + k * 11, none⟩ = some (.int .i64 ps[k].ret.per) ∧ w.cell? ⟨b, off + k * 11 + 1, none⟩ = some (.int .i64 ps[k].ret.due) ∧ w.cell? ⟨b, off + k * 11 + 2, none⟩ = some (.int .i64 ps[k].ret.filed) ∧ w.cell? ⟨b, off + k * 11 + 3, none⟩ = some (.int .i64 ps[k].ret.inc) ∧ w.cell? ⟨b, off + k * 11 + 4, none⟩ = some (.int .i64 ps[k].ret.wh) ∧
    w.cell? ⟨b, off + k * 11 + 5, none⟩ = some (.int .i64 ps[k].o0) ∧ w.cell? ⟨b, off + k * 11 + 6, none⟩ = some (.int .i64 ps[k].o1) ∧ w.cell? ⟨b, off + k * 11 + 7, none⟩ = some (.int .i64 ps[k].o2) ∧ w.cell? ⟨b, off + k * 11 + 8, none⟩ = some (.int .i64 ps[k].since) ∧ w.cell? ⟨b, off + k * 11 + 9, none⟩ = some (.int .i64 ps[k].done) ∧ w.cell? ⟨b, off + k * 11 + 10, none⟩ = some (.int .i64 ps[k].acc) := by
  have hn : ps.length * 11 = n * 11 := by rw [← perCs_len]; exact h.1
  obtain ⟨b, off, e, hb, hc⟩ := h.2 (by omega)
  have key : ∀ j, j < 11 → w.cell? ⟨b, off + k * 11 + j, none⟩ = (perC ps[k])[j]? := fun j hj => by
    have := hc (k * 11 + j) (by omega)
    rw [← Nat.add_assoc] at this
    exact this.trans (perCs_at hk hj)
  exact ⟨b, off, e, hb, key 0 (by omega), key 1 (by omega), key 2 (by omega), key 3 (by omega), key 4 (by omega), key 5 (by omega), key 6 (by omega), key 7 (by omega), key 8 (by omega), key 9 (by omega), key 10 (by omega)⟩
theorem Rd.pm {w : World} {B n : Nat} {A : Option Addr} {qs : List PmE} (h : Rd w B 6 A n (pmCs qs)) {k : Nat} (hk : k < qs.length) : ∃ b off, A = some ⟨b, off, none⟩ ∧ b < B ∧
    w.cell? ⟨b, off + k * 6, none⟩ = some (.int .i64 qs[k].p.id) ∧ w.cell? ⟨b, off + k * 6 + 1, none⟩ = some (.int .i64 qs[k].p.day) ∧ w.cell? ⟨b, off + k * 6 + 2, none⟩ = some (.int .i64 qs[k].p.amt) ∧ w.cell? ⟨b, off + k * 6 + 3, none⟩ = some qs[k].v ∧ w.cell? ⟨b, off + k * 6 + 4, none⟩ = some (.int .i64 qs[k].p.rest) ∧ w.cell? ⟨b, off + k * 6 + 5, none⟩ = some (.bool qs[k].p.rev) := by
  have hn : qs.length * 6 = n * 6 := by rw [← pmCs_len]; exact h.1
  obtain ⟨b, off, e, hb, hc⟩ := h.2 (by omega)
  have key : ∀ j, j < 6 → w.cell? ⟨b, off + k * 6 + j, none⟩ = (pmC qs[k])[j]? := fun j hj => by
    have := hc (k * 6 + j) (by omega)
    rw [← Nat.add_assoc] at this
    exact this.trans (pmCs_at hk hj)
  exact ⟨b, off, e, hb, key 0 (by omega), key 1 (by omega), key 2 (by omega), key 3 (by omega), key 4 (by omega), key 5 (by omega)⟩
theorem OwnV.rdp {w : World} {B g : Nat} {S : Ac} {vp vq : Value} {qs : List PmE} (h : OwnV w B g S vp vq qs) : ∃ A c, vp = .slice A S.ps.length c ∧ S.ps.length ≤ c ∧ Rd w w.heap.size 11 A S.ps.length (perCs S.ps) := by
  obtain ⟨A, c, rfl, _⟩ := own_form h.hp
  refine ⟨A, c, rfl, ?_, Rd.of_own h.hp⟩
  rcases h.hp.2 with ⟨h1, h2⟩ | ⟨g, cap, cur, h1, _, _, h4, _⟩
  · omega
  · injection h1 with _ _ h1; omega
theorem OwnV.rdq {w : World} {B g : Nat} {S : Ac} {vp vq : Value} {qs : List PmE} (h : OwnV w B g S vp vq qs) : ∃ A c, vq = .slice A S.ms.length c ∧ S.ms.length ≤ c ∧ Rd w w.heap.size 6 A S.ms.length (pmCs qs) := by
  obtain ⟨A, c, rfl, _⟩ := own_form h.hq
  refine ⟨A, c, rfl, ?_, Rd.of_own h.hq⟩
  rcases h.hq.2 with ⟨h1, h2⟩ | ⟨g, cap, cur, h1, _, _, h4, _⟩
  · omega
  · injection h1 with _ _ h1; omega

theorem find1_any (p : Per) (n : Int) (gn : Nat) (w : World) (hn : w.cell? ⟨gn, 0, none⟩ = some (.int .i64 n)) (hl : gn < w.heap.size) :
    Calls Tryz.prog 93 #[perV p, .pointer (some ⟨gn, 0, none⟩)] w fun e w' => e = .returned (.bool (decide (p.ret.per = n))) ∧ Below w.heap.size w w' := by
  have hne : gn ≠ w.heap.size := by omega
  go_enter Tryz.func93, Tryz.ntmps93
  go_wp2_with fail
  go_ret
  exact ⟨by first | rfl | (congr 2; exact beq_eq_decide _ _), (Below.refl _ _).alloc (Nat.le_refl _) _⟩
set_option maxHeartbeats 1600000 in
set_option maxRecDepth 100000 in
theorem indexPer_any (A : Option Addr) (N c : Nat) (ps : List Per) (n : Int) (gn : Nat) (w : World) (hl : ps.length = N) (hr : Rd w w.heap.size 11 A N (perCs ps)) (hN : N ≤ 1099511627776) (hn : w.cell? ⟨gn, 0, none⟩ = some (.int .i64 n)) (hg : gn < w.heap.size) :
    Calls Tryz.prog 92 #[.slice A N c, .func (.func 93) #[] #[.pointer (some ⟨gn, 0, none⟩)]] w fun e w' => e = .returned (.int .i64 (idxI (fun p : Per => decide (p.ret.per = n)) 0 ps)) ∧ Below w.heap.size w w' := by
  have HW := Lib.hid (fun p (wx : World) (hb : Below w.heap.size w wx) => find1_any p n gn wx ((hb.cell (p := ⟨gn, 0, none⟩) hg).trans hn) (Nat.lt_of_lt_of_le hg hb.size))
  have HL := Lib.hid hl; have HR := Lib.hid hr
  clear hl hr hn hg
  go_enter Tryz.func92, Tryz.ntmps92
  go_wp2_with fail
  go_loopg [5, 8] N (fun g' v5 v8 wr => ∃ k : Nat, g' = N - k ∧ k ≤ N ∧ v8 = .int .i64 k ∧ idxI (fun p : Per => decide (p.ret.per = n)) 0 ps = idxI (fun p : Per => decide (p.ret.per = n)) k (ps.drop k) ∧ Below w.heap.size w wr)
  case atStart => exact ⟨0, rfl, by omega, rfl, rfl, Below.refl _ _⟩
  case round =>
    obtain ⟨k, hgk, hk, rfl, hf, hbr⟩ := hrel
    have HG := Lib.hid hgk; have HF := Lib.hid hf; have HB := Lib.hid hbr
    clear hgk hf
    by_cases hlt : k < N
    · have hl1 : k < ps.length := by rw [HL.out]; exact hlt
      obtain ⟨b, off, rfl, hb, c0, c1, c2, c3, c4, c5, c6, c7, c8, c9, c10⟩ := (HR.out.below hbr).per hl1
      have hd : ps.drop k = ps[k] :: ps.drop (k + 1) := List.drop_eq_getElem_cons hl1
      rw [hd] at HF
      clear hd hbr
      generalize ps[k] = p at *
      have i1 : (0 : Int) ≤ (k : Int) := by omega
      have i2 : (k : Int) < (N : Int) := by omega
      have HWM := Lib.hid (HW.out p wr HB.out)
      by_cases hx : p.ret.per = n
      · rw [decide_eq_true hx] at HWM
        have HF2 : Hid (idxI (fun p : Per => decide (p.ret.per = n)) 0 ps = k) := Lib.hid (by rw [HF.out, idxI, if_pos (by simpa using hx)])
        clear hx HF
        go_wp2_with fail
        refine HWM.out.mono ?_; rintro e w1 ⟨rfl, hw1⟩
        have HW1 := Lib.hid hw1; clear hw1
        go_wp2_with fail
        go_ret
        exact ⟨by rw [HF2.out]; first | done | rfl, HB.out.trans (HW1.out.mono HB.out.size)⟩
      · rw [decide_eq_false hx] at HWM
        have HF2 : Hid (idxI (fun p : Per => decide (p.ret.per = n)) 0 ps = idxI (fun p : Per => decide (p.ret.per = n)) (k + 1) (ps.drop (k + 1))) := Lib.hid (by rw [HF.out, idxI, if_neg (by simpa using hx)])
        clear hx HF
        go_wp2_with fail
        refine HWM.out.mono ?_; rintro e w1 ⟨rfl, hw1⟩
        have HW1 := Lib.hid hw1; clear hw1
        go_wp2_with fail
        go_roundg (N - (k + 1))
        case measure => have := HG.out; omega
        case rel => exact ⟨k + 1, rfl, by omega, by go_num, HF2.out, HB.out.trans (HW1.out.mono HB.out.size)⟩
    · have hkN : k = N := by omega
      subst hkN
      have HF2 : Hid (idxI (fun p : Per => decide (p.ret.per = n)) 0 ps = -1) := Lib.hid (by
        rw [HF.out, List.drop_of_length_le (by rw [HL.out]; exact Nat.le_refl _)]; rfl)
      clear HF hbr
      go_wp2_with fail
      go_ret
      exact ⟨by rw [HF2.out]; first | done | rfl, HB.out⟩
/-- Where a period stands. -/
def Ac.place (S : Ac) (n : Int) : Int := idxI (fun p : Per => decide (p.ret.per = n)) 0 S.ps
theorem cells5U {w : World} {v0 v1 v2 v3 v4 : Value} {t g : Nat} (h : w.heap[g]? = some (.cells #[v0, v1, v2, v3, v4] t (0, 0))) :
    w.cell? ⟨g, 0, none⟩ = some v0 ∧ w.cell? ⟨g, 1, none⟩ = some v1 ∧ w.cell? ⟨g, 2, none⟩ = some v2 ∧ w.cell? ⟨g, 3, none⟩ = some v3 ∧ w.cell? ⟨g, 4, none⟩ = some v4 ∧ ∀ i, w.frozen? ⟨g, i, none⟩ = false := by
  simp [World.cell?, World.frozen?, h]
/-- find. -/
theorem find_any (g B : Nat) (S : Ac) (vp vq : Value) (qs : List PmE) (n : Int) (w : World) (h : OwnV w B g S vp vq qs) (hN : S.ps.length ≤ 1000) :
    Calls Tryz.prog 36 #[.pointer (some ⟨g, 0, none⟩), .int .i64 n] w fun e w' => Below w.heap.size w w' ∧
      ((S.place n = -1 ∧ e = .returned (.pointer none)) ∨ ∃ gp cap i, vp = .slice (some ⟨gp, 0, none⟩) S.ps.length cap ∧ i < S.ps.length ∧ S.place n = (i : Int) ∧ e = .returned (.pointer (some ⟨gp, i * 11, none⟩))) := by
  obtain ⟨A, c, rfl, hc, hr⟩ := h.rdp
  obtain ⟨a0, a1, a2, a3, a4, a5⟩ := cells5U h.hg
  have hgl := blk_lt h.hg
  have hne : g ≠ w.heap.size := by omega
  have HI := Lib.hid (fun (wx : World) h1 h2 h3 => indexPer_any A S.ps.length c S.ps n w.heap.size wx rfl h1 (by omega) h2 h3)
  have HP : Hid (idxI (fun p : Per => decide (p.ret.per = n)) 0 S.ps = S.place n) := Lib.hid rfl
  have HH := Lib.hid h
  have HR := Lib.hid (hr.below ((Below.refl _ _).alloc (Nat.le_refl _) (.cells #[.int .i64 n] 3)))
  rcases idxI_spec (fun p : Per => decide (p.ret.per = n)) S.ps 0 with ⟨h1, _⟩ | ⟨i, hi, h1, _⟩
  · have H1 : Hid (S.place n = -1) := Lib.hid h1
    clear h1 h hr
    go_enter Tryz.func36, Tryz.ntmps36
    go_wp2_with fail
    refine (HI.out _ (HR.out.wider (by simp)) (by simp [go_sem]) (by simp)).mono ?_; rintro e w1 ⟨rfl, hw1⟩
    rw [HP.out, H1.out]
    have HW1 := Lib.hid hw1; clear hw1
    go_wp2_with fail
    go_ret
    exact ⟨((Below.refl _ _).alloc (Nat.le_refl _) _).trans (HW1.out.mono (by simp)), .inl ⟨H1.out, rfl⟩⟩
  · have H1 : Hid (S.place n = (i : Int)) := Lib.hid (by rw [← HP.out, h1]; simp)
    obtain ⟨gp, cap, e, hgp, _, _⟩ := h.per hi
    injection e with e _ e2
    subst e e2
    have i1 : (0 : Int) ≤ (i : Int) := by omega
    have i2 : (i : Int) < (S.ps.length : Int) := by omega
    have HI2 := Lib.hid hi
    clear h1 h hr
    go_enter Tryz.func36, Tryz.ntmps36
    go_wp2_with fail
    refine (HI.out _ (HR.out.wider (by simp)) (by simp [go_sem]) (by simp)).mono ?_; rintro e w1 ⟨rfl, hw1⟩
    rw [HP.out, H1.out]
    obtain ⟨hc1, hf1⟩ := bcell hw1
    have hx1 : g < w.heap.size + 1 := by omega
    have HW1 := Lib.hid hw1; clear hw1
    go_wp2_with fail
    go_ret
    exact ⟨((Below.refl _ _).alloc (Nat.le_refl _) _).trans (HW1.out.mono (by simp)), .inr ⟨gp, c, i, rfl, HI2.out, H1.out, by first | rfl | (congr 4; simp)⟩⟩
end Go.Proofs.YtbjjgnaojoaoiaaGreat
