/- groups: a closure is called with the records of each key; the first record that is not behind a moment. -/
import Derived.Test.YtfcemlcocdhmfaaXC
import Derived.Deep.QuietTactic
/- groups: a closure is called with the records of each key (the one of At). -/
namespace Go.Proofs.Ytfcemlcocdhmfaa
open Go.RowKit Go
set_option linter.unusedVariables false
set_option linter.unusedSimpArgs false

theorem RowB.take {w : World} {A : Option Addr} {N c n : Nat} {qs : List El} (h : RowB w (.slice A N c) qs) (hn : n ≤ N) (hN : qs.length = N) : RowB w (.slice A n c) (qs.take n) := by
  obtain ⟨A', c', e, hc, hr, hq⟩ := h
  injection e with e1 e2 e3
  subst e1 e3
  have hl : (qs.take n).length = n := by rw [List.length_take]; omega
  have := hr.take (m := n) (by omega)
  rw [elCells_take] at this
  exact ⟨A, c, by rw [hl], by rw [hl]; omega, by rw [hl]; exact this, fun q hq' => hq q (List.mem_of_mem_take hq')⟩
theorem RowB.drop {w : World} {A : Option Addr} {N c n : Nat} {qs : List El} (h : RowB w (.slice A N c) qs) (hn : n ≤ N) (hN : qs.length = N) : RowB w (.slice (if c = n then A else A.map (·.add (n * 4))) (N - n) (c - n)) (qs.drop n) := by
  obtain ⟨A', c', e, hc, hr, hq⟩ := h
  injection e with e1 e2 e3
  subst e1 e3
  have hl : (qs.drop n).length = N - n := by rw [List.length_drop]; omega
  have := hr.drop (k := n) (c := c) (by omega) hc
  rw [elCells_drop, hN] at this
  exact ⟨_, c - n, by rw [hl], by rw [hl]; omega, by rw [hl]; exact this, fun q hq' => hq q (List.mem_of_mem_drop hq')⟩

theorem quiet_add_same {P : Program} {f : FuncId} {args : Array Value} {w : World} {a n : Nat} {v : Value}
    (h : Calls P f args (w.drewN (a + n)) fun e w' => e = .returned v ∧ w' = w.drewN (a + n)) :
    Calls P f args (w.drewN (a + n)) fun e w'' => e = .returned v ∧ ∃ m, w'' = w.drewN (a + m) :=
  h.mono fun _ _ ⟨he, hm⟩ => ⟨he, n, hm⟩
set_option maxHeartbeats 1600000 in
set_option maxRecDepth 100000 in
theorem groups_at (I : List El → World → Prop) (c1 c2 v : Value) (qs : List El) (w : World) (h : RowB w v qs) (hn : qs.length ≤ 1099511627776)
    (hR : ∀ pre wr, I pre wr → Below w.heap.size w wr) (hI : ∀ pre wr w', I pre wr → Below wr.heap.size wr w' → I pre w') (h0 : I [] w)
    (hE : ∀ (pre g post : List El) (u : Value) (wr : World) (k : List UInt8), I pre wr → RowB wr u g → g ≠ [] → qs = pre ++ g ++ post → (∀ x ∈ g, x.r.key = k) → (∀ x, post.head? = some x → x.r.key ≠ k) → Calls Try.prog 32 #[u, c1, c2] wr fun e w' => (∃ x, e = .returned x) ∧ I (pre ++ g) w') :
    Calls Try.prog 31 #[v, .func (.func 32) #[] #[c1, c2]] w fun e w' => (∃ x, e = .returned x) ∧ (if inO (qs.map El.r) then I qs w' else I [] w') := by
  obtain ⟨A, c, rfl⟩ := h.form
  have HR := Lib.hid h; have HRB := Lib.hid hR; have HI := Lib.hid hI; have H0 := Lib.hid h0
  have HE : Hid _ := hE
  clear h hR hI h0 hE
  cases hin : inO (qs.map El.r) with
  | false =>
    have HIN := Lib.hid hin; clear hin
    go_enter Try.func31, Try.ntmps31
    go_wp2_with fail
    refine (inOrder_any _ qs w HR.out hn).mono ?_; rintro e w1 ⟨rfl, hw1⟩
    have HW1 := Lib.hid hw1; clear hw1
    rw [HIN.out]
    go_wp2_with fail
    refine bodyPost_ret (results_none rfl _ _ _) rfl ?_
    exact ⟨⟨_, rfl⟩, HI.out _ _ _ H0.out HW1.out⟩
  | true =>
    have HIN := Lib.hid hin; clear hin
    go_enter Try.func31, Try.ntmps31
    go_wp2_with fail
    refine (inOrder_any _ qs w HR.out hn).mono ?_; rintro e w1 ⟨rfl, hw1⟩
    have HW1 := Lib.hid hw1; clear hw1
    rw [HIN.out]
    go_wp2_with fail
    have H1 : Hid (I [] w1) := HI.out _ _ _ H0.out HW1.out
    have HR1 : Hid (RowB w1 (.slice A qs.length c) qs) := HR.out.up HW1.out
    go_loopg [0, 4] qs.length (fun g v0 v4 wr => ∃ (pre rest : List El) (A' : Option Addr) (c' M : Nat), g = M ∧ rest.length = M ∧ qs = pre ++ rest ∧ v0 = .slice A' M c' ∧ RowB w (.slice A' M c') rest ∧ I pre wr)
    case atStart => exact ⟨[], qs, A, c, qs.length, rfl, rfl, rfl, rfl, HR.out, H1.out⟩
    case round =>
      obtain ⟨pre, rest, A', c', M, hgk, hM, hqs, rfl, hrow, hi⟩ := hrel
      have HG := Lib.hid hgk; have HQS := Lib.hid hqs; have HROW0 := Lib.hid hrow; have HROW := Lib.hid (hrow.up (HRB.out _ _ hi)); have HPRE := Lib.hid hi; have HM := Lib.hid hM
      have hMq : M ≤ qs.length := by rw [hqs, ← hM]; simp
      clear hgk hqs hrow hi hM
      rcases Nat.eq_zero_or_pos M with h0 | hM1
      · subst h0
        have hr : rest = [] := List.eq_nil_of_length_eq_zero HM.out
        have hq : Hid (qs = pre) := by show _ = _; have := HQS.out; rw [hr] at this; simpa using this
        clear hr
        go_wp2_with fail
        go_end0
        exact ⟨⟨_, rfl⟩, by rw [hq.out]; exact HPRE.out⟩
      · obtain ⟨x, xs, hrx⟩ : ∃ x xs, rest = x :: xs := by
          rcases rest with _ | ⟨x, xs⟩
          · have := HM.out; simp at this; omega
          · exact ⟨x, xs, rfl⟩
        subst hrx
        go_upto_block 2 with fail
        go_cut [4] from 11 to 28 (fun v wc => ∃ n m : Nat, v = .int .i64 n ∧ 1 ≤ n ∧ n ≤ M ∧ (∀ y ∈ (x :: xs).take n, y.r.key = x.r.key) ∧ (∀ y, (x :: xs)[n]? = some y → y.r.key ≠ x.r.key) ∧ wc = wr.drewN m)
        case first =>
          go_wp2_with fail
          go_loopg [4] (M - 1) (fun g v wi => ∃ n m : Nat, g = M - n ∧ v = .int .i64 n ∧ 1 ≤ n ∧ n ≤ M ∧ (∀ y ∈ (x :: xs).take n, y.r.key = x.r.key) ∧ wi = wr.drewN m)
          case atStart => exact ⟨1, 0, by omega, rfl, by omega, hM1, by simp, rfl⟩
          case round =>
            clear HG
            obtain ⟨n, m, hgk, rfl, hn1, hn2, hall, rfl⟩ := hrel
            have HG := Lib.hid hgk; have HALL := Lib.hid hall
            clear hgk hall
            by_cases hlt : n < M
            · have hl0 : 0 < (x :: xs).length := by simp
              have hln : n < (x :: xs).length := by have := HM.out; omega
              obtain ⟨b, off, rfl, hb, r0, _, _, _⟩ := HROW.out.at_ hl0
              obtain ⟨s0, _, _, _⟩ := HROW.out.at2 hln
              have B0 := Lib.hid (HROW.out.rec hl0); have B1 := Lib.hid (HROW.out.rec hln)
              have htm : ∀ (h : (x :: xs)[n].r.key = x.r.key), ∀ y ∈ (x :: xs).take (n + 1), y.r.key = x.r.key := fun h y hy => by
                rw [List.take_succ_eq_append_getElem hln] at hy
                rcases List.mem_append.1 hy with h1 | h1
                · exact HALL.out y h1
                · rw [List.mem_singleton] at h1; subst h1; exact h
              have hnx : (x :: xs)[n]? = some (x :: xs)[n] := List.getElem?_eq_getElem hln
              have e0 : (x :: xs)[0] = x := rfl
              rw [e0] at r0 B0
              have HTM : Hid _ := htm; have HNX := Lib.hid hnx
              clear htm hnx e0
              generalize (x :: xs)[n] = p at *
              have i1 : (0 : Int) ≤ (n : Int) := by omega
              have i2 : (n : Int) < (M : Int) := by omega
              have i3 : (0 : Int) < (M : Int) := by omega
              have KP : Hid (Bs wr wr.heap.size p.kv p.r.key) := by obtain ⟨_, _, e, h1, h2⟩ := B1.out; injection e with e; simp at e; rw [e.1]; exact h1
              have KX : Hid (Bs wr wr.heap.size x.kv x.r.key) := by obtain ⟨_, _, e, h1, h2⟩ := B0.out; injection e with e; simp at e; rw [e.1]; exact h1
              have r0' : wr.cell? ⟨b, off, none⟩ = some x.kv := by simpa using r0
              by_cases hk : p.r.key = x.r.key
              · have hq : (p.r.key == x.r.key) = true := by simpa using hk
                have HK := Lib.hid hk; clear hk
                go_wp2_with fail
                go_quiet ((go_at_call 45; first | exact quiet_add_same (equal_any p.kv x.kv p.r.key x.r.key wr.heap.size wr.heap.size _ KP.out KX.out) | exact Calls.quiet_of_same (equal_any p.kv x.kv p.r.key x.r.key wr.heap.size wr.heap.size _ KP.out KX.out)))
                clear r0' r0
                go_wp2_with fail
                go_roundg (M - (n + 1))
                case measure => have := HG.out; omega
                case rel => exact ⟨n + 1, _, rfl, by go_num, by omega, by omega, HTM.out HK.out, rfl⟩
              · have hq : (p.r.key == x.r.key) = false := by simpa using hk
                have HK := Lib.hid hk; clear hk
                go_wp2_with fail
                go_quiet ((go_at_call 45; first | exact quiet_add_same (equal_any p.kv x.kv p.r.key x.r.key wr.heap.size wr.heap.size _ KP.out KX.out) | exact Calls.quiet_of_same (equal_any p.kv x.kv p.r.key x.r.key wr.heap.size wr.heap.size _ KP.out KX.out)))
                clear r0' r0
                go_wp2_with fail
                go_meet
                exact ⟨n, _, rfl, hn1, hn2, HALL.out, fun y hy => by rw [HNX.out] at hy; injection hy with hy; rw [← hy]; exact HK.out, by first | rfl | exact World.drewN_drewN _ _ _⟩
            · have hnM : n = M := by omega
              have hdt : decide ((n : Int) < (M : Int)) = false := by simp; omega
              go_wp2_with fail
              go_quiet (fail)
              go_wp2_with fail
              go_meet
              refine ⟨n, _, rfl, hn1, hn2, HALL.out, ?_, by first | rfl | exact World.drewN_drewN _ _ _⟩
              intro y hy
              rw [List.getElem?_eq_none (by have := HM.out; omega)] at hy
              cases hy
        case rest =>
          obtain ⟨n, m, rfl, hn1, hn2, hall, hnext, rfl⟩ := hcut
          have HALL := Lib.hid hall; have HNE := Lib.hid hnext
          clear hall hnext
          have b0 : Below wr.heap.size wr (wr.drewN m) := below_drewN (Below.refl _ _) m
          have HROW2 := Lib.hid (HROW.out.up b0)
          have HPRE2 := Lib.hid (HI.out _ _ _ HPRE.out b0)
          clear b0
          generalize wr.drewN m = wd at *
          have HT := Lib.hid (HROW2.out.take hn2 HM.out)
          have HD := Lib.hid (HROW0.out.drop hn2 HM.out)
          have i1 : (0 : Int) ≤ (n : Int) := by omega
          have i2 : (n : Int) ≤ (M : Int) := by omega
          have hcM : Hid (M ≤ c') := by obtain ⟨_, _, e, hc, _⟩ := HROW2.out; injection e with e1 e2 e3; show M ≤ c'; omega
          have i3 : (n : Int) ≤ (c' : Int) := by have := hcM.out; omega
          have i4 : n ≤ c' := by have := hcM.out; omega
          have call := HE.out pre ((x :: xs).take n) ((x :: xs).drop n) (.slice A' n c') wd x.r.key HPRE2.out HT.out (by cases n with | zero => omega | succ n => simp) (by rw [List.append_assoc, List.take_append_drop]; exact HQS.out) HALL.out (fun y hy => HNE.out y (by rw [List.head?_drop] at hy; exact hy))
          have HCALL := Lib.hid call; clear call
          have hrowq : Hid (RowB w (.slice A qs.length c) qs) := HR
          by_cases hcn : c' = n
          · have hMn : M = n := by have := hcM.out; omega
            rw [if_pos hcn] at HD
            subst hMn
            subst hcn
            clear i3 i4 hcM
            go_wp2_with fail
            refine HCALL.out.mono ?_
            rintro e we ⟨⟨xv, rfl⟩, hi⟩
            have HIE := Lib.hid hi; clear hi
            go_wp2_with fail
            go_roundg 0
            case measure => have := HG.out; omega
            case rel => exact ⟨pre ++ (x :: xs).take c', (x :: xs).drop c', A', 0, 0, rfl, by have := HM.out; rw [List.length_drop, this]; omega, by rw [List.append_assoc, List.take_append_drop]; exact HQS.out, rfl, by have := HD.out; simpa only [Nat.sub_self] using this, HIE.out⟩
          · rw [if_neg hcn] at HD
            have hcn' : ¬ (c' : Int) = (n : Int) := by omega
            go_wp2_with fail
            refine HCALL.out.mono ?_
            rintro e we ⟨⟨xv, rfl⟩, hi⟩
            have HIE := Lib.hid hi; clear hi
            go_wp2_with fail
            go_roundg (M - n)
            case measure => have := HG.out; omega
            case rel => exact ⟨pre ++ (x :: xs).take n, (x :: xs).drop n, A'.map (·.add (n * 4)), c' - n, M - n, rfl, by have := HM.out; rw [List.length_drop, this], by rw [List.append_assoc, List.take_append_drop]; exact HQS.out, rfl, HD.out, HIE.out⟩
end Go.Proofs.Ytfcemlcocdhmfaa
/- The first record of a group that is not behind a moment. -/
namespace Go.Proofs.Ytfcemlcocdhmfaa
open Go.RowKit Go
set_option linter.unusedVariables false
set_option linter.unusedSimpArgs false

set_option maxHeartbeats 800000 in
theorem at11_any (r : Rc) (v : Value) (g : Nat) (seq : Int) (w : World) (hv : IsRc w w.heap.size v r) (hs : w.cell? ⟨g, 0, none⟩ = some (.int .i64 seq)) :
    Calls Try.prog 34 #[v, .pointer (some ⟨g, 0, none⟩)] w fun e w' => e = .returned (.bool (decide (r.seq ≤ seq))) ∧ Below w.heap.size w w' := by
  obtain ⟨k1, v1, rfl, hk, hvv⟩ := hv
  have hg : g < w.heap.size := World.block_lt_of_cell? w _ hs
  go_enter Try.func34, Try.ntmps34
  go_wp2_with fail
  go_ret
  exact ⟨by first | rfl | simp, (by repeat' (first | (with_reducible exact Below.refl _ _) | (with_reducible refine Below.alloc ?_ ?_ _) | (with_reducible refine below_drewN ?_ _) | (with_reducible refine Below.drew ?_) | (with_reducible refine Below.setCell ?_ ?_ _) | (with_reducible refine Below.trans ?_ (Below.mono HW0.out ?_)) | (with_reducible refine Below.trans ?_ (Below.mono HW1.out ?_)) | (with_reducible refine Below.trans ?_ (Below.mono HW2.out ?_)) | (with_reducible refine Below.trans ?_ (Below.mono HW3.out ?_)) | (with_reducible refine Below.trans ?_ (Below.mono HW4.out ?_)) | (with_reducible refine Below.trans ?_ (Below.mono HW5.out ?_)) | (with_reducible refine Below.trans ?_ (Below.mono HW6.out ?_)) | (with_reducible refine Below.trans ?_ (Below.mono HW7.out ?_)) | (with_reducible exact Nat.le_refl _) | omega | (simp only [World.size_alloc, World.size_setCell, World.size_drew, size_drewN]; omega) | (simp; done) | (simp; omega)))⟩

/-- The first place at which a record is not behind a moment, from k on; -1, if there is none. -/
def firstAt (seq : Int) : Nat → List Rc → Int
  | _, [] => -1
  | k, r :: rs => if r.seq ≤ seq then k else firstAt seq (k + 1) rs

set_option maxHeartbeats 1600000 in
theorem indexFunc_any (v : Value) (qs : List El) (g : Nat) (seq : Int) (w : World) (h : RowB w v qs) (hn : qs.length ≤ 1099511627776) (hs : w.cell? ⟨g, 0, none⟩ = some (.int .i64 seq)) :
    Calls Try.prog 33 #[v, .func (.func 34) #[] #[.pointer (some ⟨g, 0, none⟩)]] w fun e w' => e = .returned (.int .i64 (firstAt seq 0 (qs.map El.r))) ∧ Below w.heap.size w w' := by
  obtain ⟨A, c, rfl⟩ := h.form
  have HR := Lib.hid h; clear h
  have hg : g < w.heap.size := World.block_lt_of_cell? w _ hs
  have HSEQ := Lib.hid hs; clear hs
  obtain ⟨N, hN⟩ : ∃ N, qs.length = N := ⟨_, rfl⟩
  have HN := Lib.hid hN
  rw [hN] at hn HR ⊢
  clear hN
  go_enter Try.func33, Try.ntmps33
  go_wp2_with fail
  go_loopg [5, 8] N (fun g' v5 v8 wr => ∃ k : Nat, g' = N - k ∧ k ≤ N ∧ v8 = .int .i64 k ∧ firstAt seq 0 (qs.map El.r) = firstAt seq k ((qs.map El.r).drop k) ∧ Below w.heap.size w wr)
  case atStart => exact ⟨0, rfl, by omega, rfl, rfl, Below.refl _ _⟩
  case round =>
    obtain ⟨k, hgk, hk, rfl, hf, hB⟩ := hrel
    have HG := Lib.hid hgk; have HF := Lib.hid hf; have HB := Lib.hid hB
    have HR2 := Lib.hid (HR.out.up hB)
    have HS2 := Lib.hid ((hB.cell (p := ⟨g, 0, none⟩) hg).trans HSEQ.out)
    clear hgk hf hB
    by_cases hlt : k < N
    · have hl1 : k < qs.length := by have := HN.out; omega
      obtain ⟨b, off, rfl, hb, r0, r1, r2, r3⟩ := HR2.out.at_ hl1
      have I1 := Lib.hid (HR2.out.rec hl1)
      have hd : (qs.map El.r).drop k = qs[k].r :: (qs.map El.r).drop (k + 1) := by
        rw [List.drop_eq_getElem_cons (by simpa using hl1)]; simp
      rw [hd] at HF
      clear hd
      generalize qs[k] = q at *
      have i1 : (0 : Int) ≤ (k : Int) := by omega
      have i2 : (k : Int) < (N : Int) := by omega
      by_cases hq : q.r.seq ≤ seq
      · have HF2 : Hid (firstAt seq 0 (qs.map El.r) = k) := by show _ = _; rw [HF.out, firstAt, if_pos hq]
        have hdt : decide (q.r.seq ≤ seq) = true := by simpa using hq
        have HD := Lib.hid hdt; clear hdt hq HF
        go_wp2_with fail
        refine (at11_any q.r _ g seq wr I1.out HS2.out).mono ?_; rintro e w1 ⟨rfl, hw1⟩
        rw [HD.out]
        have HB2 := Lib.hid (HB.out.trans (hw1.mono HB.out.size)); clear hw1 r0 r1 r2 r3
        go_wp2_with fail
        go_ret
        exact ⟨by rw [HF2.out]; first | done | rfl, HB2.out⟩
      · have HF2 : Hid (firstAt seq 0 (qs.map El.r) = firstAt seq (k + 1) ((qs.map El.r).drop (k + 1))) := by show _ = _; rw [HF.out, firstAt, if_neg hq]
        have hdt : decide (q.r.seq ≤ seq) = false := by simpa using hq
        have HD := Lib.hid hdt; clear hdt hq HF
        go_wp2_with fail
        refine (at11_any q.r _ g seq wr I1.out HS2.out).mono ?_; rintro e w1 ⟨rfl, hw1⟩
        rw [HD.out]
        have HB2 := Lib.hid (HB.out.trans (hw1.mono HB.out.size)); clear hw1 r0 r1 r2 r3
        go_wp2_with fail
        go_roundg (N - (k + 1))
        case measure => have := HG.out; omega
        case rel => exact ⟨k + 1, rfl, by omega, by go_num, HF2.out, HB2.out⟩
    · have hkN : k = N := by omega
      subst hkN
      have HF2 : Hid (firstAt seq 0 (qs.map El.r) = -1) := by
        show _ = _
        rw [HF.out, List.drop_of_length_le (by have := HN.out; simp; omega)]; rfl
      go_wp2_with fail
      go_ret
      exact ⟨by rw [HF2.out]; rfl, HB.out⟩
end Go.Proofs.Ytfcemlcocdhmfaa
/- groups, with the closure of At, whose boxes may be made ahead of the call. -/
namespace Go.Proofs.Ytfcemlcocdhmfaa
open Go.RowKit Go
set_option linter.unusedVariables false
set_option linter.unusedSimpArgs false

set_option maxHeartbeats 1600000 in
set_option maxRecDepth 100000 in
theorem groups_atw (I : List El → World → Prop) (c1 c2 v : Value) (qs : List El) (w0 w : World) (h : RowB w0 v qs) (hn : qs.length ≤ 1099511627776)
    (hR : ∀ pre wr, I pre wr → Below w0.heap.size w0 wr) (hI : ∀ pre wr w', I pre wr → Below wr.heap.size wr w' → I pre w') (h0 : I [] w)
    (hE : ∀ (pre g post : List El) (u : Value) (wr : World) (k : List UInt8), I pre wr → RowB w0 u g → g ≠ [] → qs = pre ++ g ++ post → (∀ x ∈ g, x.r.key = k) → (∀ x, post.head? = some x → x.r.key ≠ k) → Calls Try.prog 32 #[u, c1, c2] wr fun e w' => (∃ x, e = .returned x) ∧ I (pre ++ g) w') :
    Calls Try.prog 31 #[v, .func (.func 32) #[] #[c1, c2]] w fun e w' => (∃ x, e = .returned x) ∧ (if inO (qs.map El.r) then I qs w' else I [] w') := by
  obtain ⟨A, c, rfl⟩ := h.form
  have HR := Lib.hid h; have HRB := Lib.hid hR; have HI := Lib.hid hI; have H0 := Lib.hid h0
  have HE : Hid _ := hE
  clear h hR hI h0 hE
  have HRw : Hid (RowB w (.slice A qs.length c) qs) := Lib.hid (HR.out.up (HRB.out _ _ H0.out))
  cases hin : inO (qs.map El.r) with
  | false =>
    have HIN := Lib.hid hin; clear hin
    go_enter Try.func31, Try.ntmps31
    go_wp2_with fail
    refine (inOrder_any _ qs w HRw.out hn).mono ?_; rintro e w1 ⟨rfl, hw1⟩
    have HW1 := Lib.hid hw1; clear hw1
    rw [HIN.out]
    go_wp2_with fail
    refine bodyPost_ret (results_none rfl _ _ _) rfl ?_
    exact ⟨⟨_, rfl⟩, HI.out _ _ _ H0.out HW1.out⟩
  | true =>
    have HIN := Lib.hid hin; clear hin
    go_enter Try.func31, Try.ntmps31
    go_wp2_with fail
    refine (inOrder_any _ qs w HRw.out hn).mono ?_; rintro e w1 ⟨rfl, hw1⟩
    have HW1 := Lib.hid hw1; clear hw1
    rw [HIN.out]
    go_wp2_with fail
    have H1 : Hid (I [] w1) := HI.out _ _ _ H0.out HW1.out
    have HR1 : Hid (RowB w1 (.slice A qs.length c) qs) := HRw.out.up HW1.out
    go_loopg [0, 4] qs.length (fun g v0 v4 wr => ∃ (pre rest : List El) (A' : Option Addr) (c' M : Nat), g = M ∧ rest.length = M ∧ qs = pre ++ rest ∧ v0 = .slice A' M c' ∧ RowB w0 (.slice A' M c') rest ∧ I pre wr)
    case atStart => exact ⟨[], qs, A, c, qs.length, rfl, rfl, rfl, rfl, HR.out, H1.out⟩
    case round =>
      obtain ⟨pre, rest, A', c', M, hgk, hM, hqs, rfl, hrow, hi⟩ := hrel
      have HG := Lib.hid hgk; have HQS := Lib.hid hqs; have HROW0 := Lib.hid hrow; have HROW := Lib.hid (hrow.up (HRB.out _ _ hi)); have HPRE := Lib.hid hi; have HM := Lib.hid hM
      have hMq : M ≤ qs.length := by rw [hqs, ← hM]; simp
      clear hgk hqs hrow hi hM
      rcases Nat.eq_zero_or_pos M with h0 | hM1
      · subst h0
        have hr : rest = [] := List.eq_nil_of_length_eq_zero HM.out
        have hq : Hid (qs = pre) := by show _ = _; have := HQS.out; rw [hr] at this; simpa using this
        clear hr
        go_wp2_with fail
        go_end0
        exact ⟨⟨_, rfl⟩, by rw [hq.out]; exact HPRE.out⟩
      · obtain ⟨x, xs, hrx⟩ : ∃ x xs, rest = x :: xs := by
          rcases rest with _ | ⟨x, xs⟩
          · have := HM.out; simp at this; omega
          · exact ⟨x, xs, rfl⟩
        subst hrx
        go_upto_block 2 with fail
        go_cut [4] from 11 to 28 (fun v wc => ∃ n m : Nat, v = .int .i64 n ∧ 1 ≤ n ∧ n ≤ M ∧ (∀ y ∈ (x :: xs).take n, y.r.key = x.r.key) ∧ (∀ y, (x :: xs)[n]? = some y → y.r.key ≠ x.r.key) ∧ wc = wr.drewN m)
        case first =>
          go_wp2_with fail
          go_loopg [4] (M - 1) (fun g v wi => ∃ n m : Nat, g = M - n ∧ v = .int .i64 n ∧ 1 ≤ n ∧ n ≤ M ∧ (∀ y ∈ (x :: xs).take n, y.r.key = x.r.key) ∧ wi = wr.drewN m)
          case atStart => exact ⟨1, 0, by omega, rfl, by omega, hM1, by simp, rfl⟩
          case round =>
            clear HG
            obtain ⟨n, m, hgk, rfl, hn1, hn2, hall, rfl⟩ := hrel
            have HG := Lib.hid hgk; have HALL := Lib.hid hall
            clear hgk hall
            by_cases hlt : n < M
            · have hl0 : 0 < (x :: xs).length := by simp
              have hln : n < (x :: xs).length := by have := HM.out; omega
              obtain ⟨b, off, rfl, hb, r0, _, _, _⟩ := HROW.out.at_ hl0
              obtain ⟨s0, _, _, _⟩ := HROW.out.at2 hln
              have B0 := Lib.hid (HROW.out.rec hl0); have B1 := Lib.hid (HROW.out.rec hln)
              have htm : ∀ (h : (x :: xs)[n].r.key = x.r.key), ∀ y ∈ (x :: xs).take (n + 1), y.r.key = x.r.key := fun h y hy => by
                rw [List.take_succ_eq_append_getElem hln] at hy
                rcases List.mem_append.1 hy with h1 | h1
                · exact HALL.out y h1
                · rw [List.mem_singleton] at h1; subst h1; exact h
              have hnx : (x :: xs)[n]? = some (x :: xs)[n] := List.getElem?_eq_getElem hln
              have e0 : (x :: xs)[0] = x := rfl
              rw [e0] at r0 B0
              have HTM : Hid _ := htm; have HNX := Lib.hid hnx
              clear htm hnx e0
              generalize (x :: xs)[n] = p at *
              have i1 : (0 : Int) ≤ (n : Int) := by omega
              have i2 : (n : Int) < (M : Int) := by omega
              have i3 : (0 : Int) < (M : Int) := by omega
              have KP : Hid (Bs wr wr.heap.size p.kv p.r.key) := by obtain ⟨_, _, e, h1, h2⟩ := B1.out; injection e with e; simp at e; rw [e.1]; exact h1
              have KX : Hid (Bs wr wr.heap.size x.kv x.r.key) := by obtain ⟨_, _, e, h1, h2⟩ := B0.out; injection e with e; simp at e; rw [e.1]; exact h1
              have r0' : wr.cell? ⟨b, off, none⟩ = some x.kv := by simpa using r0
              by_cases hk : p.r.key = x.r.key
              · have hq : (p.r.key == x.r.key) = true := by simpa using hk
                have HK := Lib.hid hk; clear hk
                go_wp2_with fail
                go_quiet ((go_at_call 45; first | exact quiet_add_same (equal_any p.kv x.kv p.r.key x.r.key wr.heap.size wr.heap.size _ KP.out KX.out) | exact Calls.quiet_of_same (equal_any p.kv x.kv p.r.key x.r.key wr.heap.size wr.heap.size _ KP.out KX.out)))
                clear r0' r0
                go_wp2_with fail
                go_roundg (M - (n + 1))
                case measure => have := HG.out; omega
                case rel => exact ⟨n + 1, _, rfl, by go_num, by omega, by omega, HTM.out HK.out, rfl⟩
              · have hq : (p.r.key == x.r.key) = false := by simpa using hk
                have HK := Lib.hid hk; clear hk
                go_wp2_with fail
                go_quiet ((go_at_call 45; first | exact quiet_add_same (equal_any p.kv x.kv p.r.key x.r.key wr.heap.size wr.heap.size _ KP.out KX.out) | exact Calls.quiet_of_same (equal_any p.kv x.kv p.r.key x.r.key wr.heap.size wr.heap.size _ KP.out KX.out)))
                clear r0' r0
                go_wp2_with fail
                go_meet
                exact ⟨n, _, rfl, hn1, hn2, HALL.out, fun y hy => by rw [HNX.out] at hy; injection hy with hy; rw [← hy]; exact HK.out, by first | rfl | exact World.drewN_drewN _ _ _⟩
            · have hnM : n = M := by omega
              have hdt : decide ((n : Int) < (M : Int)) = false := by simp; omega
              go_wp2_with fail
              go_quiet (fail)
              go_wp2_with fail
              go_meet
              refine ⟨n, _, rfl, hn1, hn2, HALL.out, ?_, by first | rfl | exact World.drewN_drewN _ _ _⟩
              intro y hy
              rw [List.getElem?_eq_none (by have := HM.out; omega)] at hy
              cases hy
        case rest =>
          obtain ⟨n, m, rfl, hn1, hn2, hall, hnext, rfl⟩ := hcut
          have HALL := Lib.hid hall; have HNE := Lib.hid hnext
          clear hall hnext
          have b0 : Below wr.heap.size wr (wr.drewN m) := below_drewN (Below.refl _ _) m
          have HROW2 := Lib.hid (HROW.out.up b0)
          have HPRE2 := Lib.hid (HI.out _ _ _ HPRE.out b0)
          clear b0
          generalize wr.drewN m = wd at *
          have HT := Lib.hid (HROW0.out.take hn2 HM.out)
          have HD := Lib.hid (HROW0.out.drop hn2 HM.out)
          have i1 : (0 : Int) ≤ (n : Int) := by omega
          have i2 : (n : Int) ≤ (M : Int) := by omega
          have hcM : Hid (M ≤ c') := by obtain ⟨_, _, e, hc, _⟩ := HROW2.out; injection e with e1 e2 e3; show M ≤ c'; omega
          have i3 : (n : Int) ≤ (c' : Int) := by have := hcM.out; omega
          have i4 : n ≤ c' := by have := hcM.out; omega
          have call := HE.out pre ((x :: xs).take n) ((x :: xs).drop n) (.slice A' n c') wd x.r.key HPRE2.out HT.out (by cases n with | zero => omega | succ n => simp) (by rw [List.append_assoc, List.take_append_drop]; exact HQS.out) HALL.out (fun y hy => HNE.out y (by rw [List.head?_drop] at hy; exact hy))
          have HCALL := Lib.hid call; clear call
          have hrowq : Hid (RowB w0 (.slice A qs.length c) qs) := HR
          by_cases hcn : c' = n
          · have hMn : M = n := by have := hcM.out; omega
            rw [if_pos hcn] at HD
            subst hMn
            subst hcn
            clear i3 i4 hcM
            go_wp2_with fail
            refine HCALL.out.mono ?_
            rintro e we ⟨⟨xv, rfl⟩, hi⟩
            have HIE := Lib.hid hi; clear hi
            go_wp2_with fail
            go_roundg 0
            case measure => have := HG.out; omega
            case rel => exact ⟨pre ++ (x :: xs).take c', (x :: xs).drop c', A', 0, 0, rfl, by have := HM.out; rw [List.length_drop, this]; omega, by rw [List.append_assoc, List.take_append_drop]; exact HQS.out, rfl, by have := HD.out; simpa only [Nat.sub_self] using this, HIE.out⟩
          · rw [if_neg hcn] at HD
            have hcn' : ¬ (c' : Int) = (n : Int) := by omega
            go_wp2_with fail
            refine HCALL.out.mono ?_
            rintro e we ⟨⟨xv, rfl⟩, hi⟩
            have HIE := Lib.hid hi; clear hi
            go_wp2_with fail
            go_roundg (M - n)
            case measure => have := HG.out; omega
            case rel => exact ⟨pre ++ (x :: xs).take n, (x :: xs).drop n, A'.map (·.add (n * 4)), c' - n, M - n, rfl, by have := HM.out; rw [List.length_drop, this], by rw [List.append_assoc, List.take_append_drop]; exact HQS.out, rfl, HD.out, HIE.out⟩
end Go.Proofs.Ytfcemlcocdhmfaa
/- groups, with the closure of Keep. -/
namespace Go.Proofs.Ytfcemlcocdhmfaa
open Go.RowKit Go
set_option linter.unusedVariables false
set_option linter.unusedSimpArgs false

set_option maxHeartbeats 1600000 in
set_option maxRecDepth 100000 in
theorem groups_keep (I : List El → World → Prop) (c1 c2 c3 v : Value) (qs : List El) (w0 w : World) (h : RowB w0 v qs) (hn : qs.length ≤ 1099511627776)
    (hR : ∀ pre wr, I pre wr → Below w0.heap.size w0 wr) (hI : ∀ pre wr w', I pre wr → Below wr.heap.size wr w' → I pre w') (h0 : I [] w)
    (hE : ∀ (pre g post : List El) (u : Value) (wr : World) (k : List UInt8), I pre wr → RowB w0 u g → g ≠ [] → qs = pre ++ g ++ post → (∀ x ∈ g, x.r.key = k) → (∀ x, post.head? = some x → x.r.key ≠ k) → Calls Try.prog 35 #[u, c1, c2, c3] wr fun e w' => (∃ x, e = .returned x) ∧ I (pre ++ g) w') :
    Calls Try.prog 31 #[v, .func (.func 35) #[] #[c1, c2, c3]] w fun e w' => (∃ x, e = .returned x) ∧ (if inO (qs.map El.r) then I qs w' else I [] w') := by
  obtain ⟨A, c, rfl⟩ := h.form
  have HR := Lib.hid h; have HRB := Lib.hid hR; have HI := Lib.hid hI; have H0 := Lib.hid h0
  have HE : Hid _ := hE
  clear h hR hI h0 hE
  have HRw : Hid (RowB w (.slice A qs.length c) qs) := Lib.hid (HR.out.up (HRB.out _ _ H0.out))
  cases hin : inO (qs.map El.r) with
  | false =>
    have HIN := Lib.hid hin; clear hin
    go_enter Try.func31, Try.ntmps31
    go_wp2_with fail
    refine (inOrder_any _ qs w HRw.out hn).mono ?_; rintro e w1 ⟨rfl, hw1⟩
    have HW1 := Lib.hid hw1; clear hw1
    rw [HIN.out]
    go_wp2_with fail
    refine bodyPost_ret (results_none rfl _ _ _) rfl ?_
    exact ⟨⟨_, rfl⟩, HI.out _ _ _ H0.out HW1.out⟩
  | true =>
    have HIN := Lib.hid hin; clear hin
    go_enter Try.func31, Try.ntmps31
    go_wp2_with fail
    refine (inOrder_any _ qs w HRw.out hn).mono ?_; rintro e w1 ⟨rfl, hw1⟩
    have HW1 := Lib.hid hw1; clear hw1
    rw [HIN.out]
    go_wp2_with fail
    have H1 : Hid (I [] w1) := HI.out _ _ _ H0.out HW1.out
    have HR1 : Hid (RowB w1 (.slice A qs.length c) qs) := HRw.out.up HW1.out
    go_loopg [0, 4] qs.length (fun g v0 v4 wr => ∃ (pre rest : List El) (A' : Option Addr) (c' M : Nat), g = M ∧ rest.length = M ∧ qs = pre ++ rest ∧ v0 = .slice A' M c' ∧ RowB w0 (.slice A' M c') rest ∧ I pre wr)
    case atStart => exact ⟨[], qs, A, c, qs.length, rfl, rfl, rfl, rfl, HR.out, H1.out⟩
    case round =>
      obtain ⟨pre, rest, A', c', M, hgk, hM, hqs, rfl, hrow, hi⟩ := hrel
      have HG := Lib.hid hgk; have HQS := Lib.hid hqs; have HROW0 := Lib.hid hrow; have HROW := Lib.hid (hrow.up (HRB.out _ _ hi)); have HPRE := Lib.hid hi; have HM := Lib.hid hM
      have hMq : M ≤ qs.length := by rw [hqs, ← hM]; simp
      clear hgk hqs hrow hi hM
      rcases Nat.eq_zero_or_pos M with h0 | hM1
      · subst h0
        have hr : rest = [] := List.eq_nil_of_length_eq_zero HM.out
        have hq : Hid (qs = pre) := by show _ = _; have := HQS.out; rw [hr] at this; simpa using this
        clear hr
        go_wp2_with fail
        go_end0
        exact ⟨⟨_, rfl⟩, by rw [hq.out]; exact HPRE.out⟩
      · obtain ⟨x, xs, hrx⟩ : ∃ x xs, rest = x :: xs := by
          rcases rest with _ | ⟨x, xs⟩
          · have := HM.out; simp at this; omega
          · exact ⟨x, xs, rfl⟩
        subst hrx
        go_upto_block 2 with fail
        go_cut [4] from 11 to 28 (fun v wc => ∃ n m : Nat, v = .int .i64 n ∧ 1 ≤ n ∧ n ≤ M ∧ (∀ y ∈ (x :: xs).take n, y.r.key = x.r.key) ∧ (∀ y, (x :: xs)[n]? = some y → y.r.key ≠ x.r.key) ∧ wc = wr.drewN m)
        case first =>
          go_wp2_with fail
          go_loopg [4] (M - 1) (fun g v wi => ∃ n m : Nat, g = M - n ∧ v = .int .i64 n ∧ 1 ≤ n ∧ n ≤ M ∧ (∀ y ∈ (x :: xs).take n, y.r.key = x.r.key) ∧ wi = wr.drewN m)
          case atStart => exact ⟨1, 0, by omega, rfl, by omega, hM1, by simp, rfl⟩
          case round =>
            clear HG
            obtain ⟨n, m, hgk, rfl, hn1, hn2, hall, rfl⟩ := hrel
            have HG := Lib.hid hgk; have HALL := Lib.hid hall
            clear hgk hall
            by_cases hlt : n < M
            · have hl0 : 0 < (x :: xs).length := by simp
              have hln : n < (x :: xs).length := by have := HM.out; omega
              obtain ⟨b, off, rfl, hb, r0, _, _, _⟩ := HROW.out.at_ hl0
              obtain ⟨s0, _, _, _⟩ := HROW.out.at2 hln
              have B0 := Lib.hid (HROW.out.rec hl0); have B1 := Lib.hid (HROW.out.rec hln)
              have htm : ∀ (h : (x :: xs)[n].r.key = x.r.key), ∀ y ∈ (x :: xs).take (n + 1), y.r.key = x.r.key := fun h y hy => by
                rw [List.take_succ_eq_append_getElem hln] at hy
                rcases List.mem_append.1 hy with h1 | h1
                · exact HALL.out y h1
                · rw [List.mem_singleton] at h1; subst h1; exact h
              have hnx : (x :: xs)[n]? = some (x :: xs)[n] := List.getElem?_eq_getElem hln
              have e0 : (x :: xs)[0] = x := rfl
              rw [e0] at r0 B0
              have HTM : Hid _ := htm; have HNX := Lib.hid hnx
              clear htm hnx e0
              generalize (x :: xs)[n] = p at *
              have i1 : (0 : Int) ≤ (n : Int) := by omega
              have i2 : (n : Int) < (M : Int) := by omega
              have i3 : (0 : Int) < (M : Int) := by omega
              have KP : Hid (Bs wr wr.heap.size p.kv p.r.key) := by obtain ⟨_, _, e, h1, h2⟩ := B1.out; injection e with e; simp at e; rw [e.1]; exact h1
              have KX : Hid (Bs wr wr.heap.size x.kv x.r.key) := by obtain ⟨_, _, e, h1, h2⟩ := B0.out; injection e with e; simp at e; rw [e.1]; exact h1
              have r0' : wr.cell? ⟨b, off, none⟩ = some x.kv := by simpa using r0
              by_cases hk : p.r.key = x.r.key
              · have hq : (p.r.key == x.r.key) = true := by simpa using hk
                have HK := Lib.hid hk; clear hk
                go_wp2_with fail
                go_quiet ((go_at_call 45; first | exact quiet_add_same (equal_any p.kv x.kv p.r.key x.r.key wr.heap.size wr.heap.size _ KP.out KX.out) | exact Calls.quiet_of_same (equal_any p.kv x.kv p.r.key x.r.key wr.heap.size wr.heap.size _ KP.out KX.out)))
                clear r0' r0
                go_wp2_with fail
                go_roundg (M - (n + 1))
                case measure => have := HG.out; omega
                case rel => exact ⟨n + 1, _, rfl, by go_num, by omega, by omega, HTM.out HK.out, rfl⟩
              · have hq : (p.r.key == x.r.key) = false := by simpa using hk
                have HK := Lib.hid hk; clear hk
                go_wp2_with fail
                go_quiet ((go_at_call 45; first | exact quiet_add_same (equal_any p.kv x.kv p.r.key x.r.key wr.heap.size wr.heap.size _ KP.out KX.out) | exact Calls.quiet_of_same (equal_any p.kv x.kv p.r.key x.r.key wr.heap.size wr.heap.size _ KP.out KX.out)))
                clear r0' r0
                go_wp2_with fail
                go_meet
                exact ⟨n, _, rfl, hn1, hn2, HALL.out, fun y hy => by rw [HNX.out] at hy; injection hy with hy; rw [← hy]; exact HK.out, by first | rfl | exact World.drewN_drewN _ _ _⟩
            · have hnM : n = M := by omega
              have hdt : decide ((n : Int) < (M : Int)) = false := by simp; omega
              go_wp2_with fail
              go_quiet (fail)
              go_wp2_with fail
              go_meet
              refine ⟨n, _, rfl, hn1, hn2, HALL.out, ?_, by first | rfl | exact World.drewN_drewN _ _ _⟩
              intro y hy
              rw [List.getElem?_eq_none (by have := HM.out; omega)] at hy
              cases hy
        case rest =>
          obtain ⟨n, m, rfl, hn1, hn2, hall, hnext, rfl⟩ := hcut
          have HALL := Lib.hid hall; have HNE := Lib.hid hnext
          clear hall hnext
          have b0 : Below wr.heap.size wr (wr.drewN m) := below_drewN (Below.refl _ _) m
          have HROW2 := Lib.hid (HROW.out.up b0)
          have HPRE2 := Lib.hid (HI.out _ _ _ HPRE.out b0)
          clear b0
          generalize wr.drewN m = wd at *
          have HT := Lib.hid (HROW0.out.take hn2 HM.out)
          have HD := Lib.hid (HROW0.out.drop hn2 HM.out)
          have i1 : (0 : Int) ≤ (n : Int) := by omega
          have i2 : (n : Int) ≤ (M : Int) := by omega
          have hcM : Hid (M ≤ c') := by obtain ⟨_, _, e, hc, _⟩ := HROW2.out; injection e with e1 e2 e3; show M ≤ c'; omega
          have i3 : (n : Int) ≤ (c' : Int) := by have := hcM.out; omega
          have i4 : n ≤ c' := by have := hcM.out; omega
          have call := HE.out pre ((x :: xs).take n) ((x :: xs).drop n) (.slice A' n c') wd x.r.key HPRE2.out HT.out (by cases n with | zero => omega | succ n => simp) (by rw [List.append_assoc, List.take_append_drop]; exact HQS.out) HALL.out (fun y hy => HNE.out y (by rw [List.head?_drop] at hy; exact hy))
          have HCALL := Lib.hid call; clear call
          have hrowq : Hid (RowB w0 (.slice A qs.length c) qs) := HR
          by_cases hcn : c' = n
          · have hMn : M = n := by have := hcM.out; omega
            rw [if_pos hcn] at HD
            subst hMn
            subst hcn
            clear i3 i4 hcM
            go_wp2_with fail
            refine HCALL.out.mono ?_
            rintro e we ⟨⟨xv, rfl⟩, hi⟩
            have HIE := Lib.hid hi; clear hi
            go_wp2_with fail
            go_roundg 0
            case measure => have := HG.out; omega
            case rel => exact ⟨pre ++ (x :: xs).take c', (x :: xs).drop c', A', 0, 0, rfl, by have := HM.out; rw [List.length_drop, this]; omega, by rw [List.append_assoc, List.take_append_drop]; exact HQS.out, rfl, by have := HD.out; simpa only [Nat.sub_self] using this, HIE.out⟩
          · rw [if_neg hcn] at HD
            have hcn' : ¬ (c' : Int) = (n : Int) := by omega
            go_wp2_with fail
            refine HCALL.out.mono ?_
            rintro e we ⟨⟨xv, rfl⟩, hi⟩
            have HIE := Lib.hid hi; clear hi
            go_wp2_with fail
            go_roundg (M - n)
            case measure => have := HG.out; omega
            case rel => exact ⟨pre ++ (x :: xs).take n, (x :: xs).drop n, A'.map (·.add (n * 4)), c' - n, M - n, rfl, by have := HM.out; rw [List.length_drop, this], by rw [List.append_assoc, List.take_append_drop]; exact HQS.out, rfl, HD.out, HIE.out⟩
end Go.Proofs.Ytfcemlcocdhmfaa
