/- Is any of some moments within a record's time? The group's records, step by step. -/
import Derived.Test.YtfcemlcocdhmfaaAT2
/- Is any of some moments within a record's time? -/
namespace Go.Proofs.Ytfcemlcocdhmfaa
open Go.RowKit Go
set_option linter.unusedVariables false
set_option linter.unusedSimpArgs false

theorem Rd.numM {w : World} {B n : Nat} {A : Option Addr} {d : List Int} (h : Rd w B 1 A n (ints d)) {k : Nat} (hk : k < d.length) : ∃ b off, A = some ⟨b, off, none⟩ ∧ b < B ∧ w.cell? ⟨b, off + k, none⟩ = some (.int .i64 d[k]) := by
  have hl := h.1
  have hn : n = d.length := by simpa [ints] using hl.symm
  obtain ⟨b, off, e, hb, hc⟩ := h.2 (by omega)
  exact ⟨b, off, e, hb, (hc k (by omega)).trans (by simp [ints, hk])⟩
def withinS (s p m : Int) : Bool := decide (s ≤ m) && decide (m < p)
set_option maxHeartbeats 800000 in
theorem within_any (m s p : Int) (gr gg gi b off N c j : Nat) (w : World) (hr : w.cell? ⟨gr, 1, none⟩ = some (.int .i64 s)) (hg : w.cell? ⟨gg, 0, none⟩ = some (.slice (some ⟨b, off, none⟩) N c))
    (hi : w.cell? ⟨gi, 0, none⟩ = some (.int .i64 ((j : Int) + 1))) (hp : w.cell? ⟨b, off + j * 4 + 1, none⟩ = some (.int .i64 p)) (hj : j + 1 < N) (hN : N ≤ 1099511627776) :
    Calls Try.prog 36 #[.int .i64 m, .pointer (some ⟨gr, 0, none⟩), .pointer (some ⟨gg, 0, none⟩), .pointer (some ⟨gi, 0, none⟩)] w fun e w' => e = .returned (.bool (withinS s p m)) ∧ w' = w := by
  have jj : IntKind.i64.wrap ((j : Int) + 1 - 1) = (j : Int) := by rw [IntWalk.i64_in _ (by omega)]; omega
  have jk : IntKind.i64.wrap (j : Int) = (j : Int) := IntWalk.i64_in _ (by omega)
  have j2 : (0 : Int) ≤ (j : Int) := by omega
  have j4 : (j : Int) ≤ 1099511627776 := by omega
  have j3 : (j : Int) < (N : Int) := by omega
  clear hj hN
  by_cases h : s ≤ m
  · have h1 : decide (s ≤ m) = true := decide_eq_true h
    have HW : Hid (withinS s p m = decide (m < p)) := Lib.hid (by unfold withinS; rw [h1, Bool.true_and])
    go_enter Try.func36, Try.ntmps36
    go_wp2_with fail
    go_ret
    exact ⟨by rw [HW.out]; first | done | rfl | simp, rfl⟩
  · have h1 : decide (s ≤ m) = false := decide_eq_false h
    have HW : Hid (withinS s p m = false) := Lib.hid (by unfold withinS; rw [h1, Bool.false_and])
    go_enter Try.func36, Try.ntmps36
    go_wp2_with fail
    go_ret
    exact ⟨by rw [HW.out]; first | done | rfl | simp, rfl⟩
def firstI (pr : Int → Bool) : Nat → List Int → Int
  | _, [] => -1
  | k, m :: ms => if pr m = true then k else firstI pr (k + 1) ms
theorem firstI_any (pr : Int → Bool) : ∀ (ms : List Int) (k : Nat), (ms.any pr = true ∧ 0 ≤ firstI pr k ms) ∨ (ms.any pr = false ∧ firstI pr k ms = -1)
  | [], k => .inr ⟨rfl, rfl⟩
  | m :: ms, k => by
    cases h : pr m with
    | true => left; exact ⟨by simp [h], by rw [firstI, if_pos h]; omega⟩
    | false =>
      rcases firstI_any pr ms (k + 1) with ⟨h1, h2⟩ | ⟨h1, h2⟩
      · left; exact ⟨by simp [h1], by rw [firstI, if_neg (by rw [h]; decide)]; exact h2⟩
      · right; exact ⟨by rw [List.any_cons, h, h1]; rfl, by rw [firstI, if_neg (by rw [h]; decide)]; exact h2⟩
set_option maxHeartbeats 1600000 in
theorem indexInts_any (A : Option Addr) (n cm : Nat) (ms : List Int) (s p : Int) (gr gg gi b off N c j : Nat) (w : World) (hms : Rd w w.heap.size 1 A n (ints ms)) (hn : n ≤ 1099511627776) (hr : w.cell? ⟨gr, 1, none⟩ = some (.int .i64 s)) (hg : w.cell? ⟨gg, 0, none⟩ = some (.slice (some ⟨b, off, none⟩) N c))
    (hi : w.cell? ⟨gi, 0, none⟩ = some (.int .i64 ((j : Int) + 1))) (hp : w.cell? ⟨b, off + j * 4 + 1, none⟩ = some (.int .i64 p)) (hj : j + 1 < N) (hN : N ≤ 1099511627776) :
    Calls Try.prog 46 #[.slice A n cm, .func (.func 36) #[] #[.pointer (some ⟨gr, 0, none⟩), .pointer (some ⟨gg, 0, none⟩), .pointer (some ⟨gi, 0, none⟩)]] w fun e w' => e = .returned (.int .i64 (firstI (withinS s p) 0 ms)) ∧ w' = w := by
  have HW := Lib.hid (fun m => within_any m s p gr gg gi b off N c j w hr hg hi hp hj hN)
  have hl : ms.length = n := by have := hms.1; simpa [ints] using this
  have HM := Lib.hid hms; have HN := Lib.hid hl
  clear hr hg hi hp hj hN hms hl
  go_enter Try.func46, Try.ntmps46
  go_wp2_with fail
  go_loopg [5, 8] n (fun g' v5 v8 wr => ∃ k : Nat, g' = n - k ∧ k ≤ n ∧ v8 = .int .i64 k ∧ firstI (withinS s p) 0 ms = firstI (withinS s p) k (ms.drop k) ∧ wr = w)
  case atStart => exact ⟨0, rfl, by omega, rfl, rfl, rfl⟩
  case round =>
    obtain ⟨k, hgk, hk, rfl, hf, rfl⟩ := hrel
    have HG := Lib.hid hgk; have HF := Lib.hid hf
    clear hgk hf
    by_cases hlt : k < n
    · have hl1 : k < ms.length := by rw [HN.out]; exact hlt
      obtain ⟨bm, om, rfl, hb, r0⟩ := HM.out.numM hl1
      have hd : ms.drop k = ms[k] :: ms.drop (k + 1) := List.drop_eq_getElem_cons hl1
      rw [hd] at HF
      clear hd
      generalize ms[k] = m at *
      have i1 : (0 : Int) ≤ (k : Int) := by omega
      have i2 : (k : Int) < (n : Int) := by omega
      have HWM := Lib.hid (HW.out m)
      cases hx : withinS s p m with
      | true =>
        rw [hx] at HWM
        have HF2 : Hid (firstI (withinS s p) 0 ms = k) := Lib.hid (by rw [HF.out, firstI, if_pos hx])
        clear hx HF
        go_wp2_with fail
        refine HWM.out.mono ?_; rintro e w1 ⟨rfl, rfl⟩
        go_wp2_with fail
        go_ret
        exact ⟨by rw [HF2.out]; first | done | rfl, rfl⟩
      | false =>
        rw [hx] at HWM
        have HF2 : Hid (firstI (withinS s p) 0 ms = firstI (withinS s p) (k + 1) (ms.drop (k + 1))) := Lib.hid (by rw [HF.out, firstI, if_neg (by rw [hx]; decide)])
        clear hx HF
        go_wp2_with fail
        refine HWM.out.mono ?_; rintro e w1 ⟨rfl, rfl⟩
        go_wp2_with fail
        go_roundg (n - (k + 1))
        case measure => have := HG.out; omega
        case rel => exact ⟨k + 1, rfl, by omega, by go_num, HF2.out, rfl⟩
    · have hkN : k = n := by omega
      subst hkN
      have HF2 : Hid (firstI (withinS s p) 0 ms = -1) := Lib.hid (by
        rw [HF.out, List.drop_of_length_le (by have := HN.out; omega)]; rfl)
      go_wp2_with fail
      go_ret
      exact ⟨by rw [HF2.out]; rfl, rfl⟩
set_option maxHeartbeats 800000 in
theorem contains_any (A : Option Addr) (n cm : Nat) (ms : List Int) (s p : Int) (gr gg gi b off N c j : Nat) (w : World) (hms : Rd w w.heap.size 1 A n (ints ms)) (hn : n ≤ 1099511627776) (hr : w.cell? ⟨gr, 1, none⟩ = some (.int .i64 s)) (hg : w.cell? ⟨gg, 0, none⟩ = some (.slice (some ⟨b, off, none⟩) N c))
    (hi : w.cell? ⟨gi, 0, none⟩ = some (.int .i64 ((j : Int) + 1))) (hp : w.cell? ⟨b, off + j * 4 + 1, none⟩ = some (.int .i64 p)) (hj : j + 1 < N) (hN : N ≤ 1099511627776) :
    Calls Try.prog 37 #[.slice A n cm, .func (.func 36) #[] #[.pointer (some ⟨gr, 0, none⟩), .pointer (some ⟨gg, 0, none⟩), .pointer (some ⟨gi, 0, none⟩)]] w fun e w' => e = .returned (.bool (ms.any (withinS s p))) ∧ w' = w := by
  have HC := Lib.hid (indexInts_any A n cm ms s p gr gg gi b off N c j w hms hn hr hg hi hp hj hN)
  clear hr hg hi hp hj hN hms hn
  rcases firstI_any (withinS s p) ms 0 with ⟨h1, h2⟩ | ⟨h1, h2⟩
  · rw [h1]
    generalize firstI (withinS s p) 0 ms = q at *
    clear h1
    go_enter Try.func37, Try.ntmps37
    go_wp2_with fail
    refine HC.out.mono ?_; rintro e w1 ⟨rfl, rfl⟩
    go_wp2_with fail
    go_ret
    exact ⟨by first | rfl | simp [h2], rfl⟩
  · rw [h1]
    rw [h2] at HC
    clear h1 h2
    go_enter Try.func37, Try.ntmps37
    go_wp2_with fail
    refine HC.out.mono ?_; rintro e w1 ⟨rfl, rfl⟩
    go_wp2_with fail
    go_ret
    exact ⟨by first | rfl | simp, rfl⟩
end Go.Proofs.Ytfcemlcocdhmfaa
/- Which records of a group are kept, step by step: plain. A row that gets shorter. -/
namespace Go.Proofs.Ytfcemlcocdhmfaa
open Go.RowKit Go
set_option linter.unusedVariables false
set_option linter.unusedSimpArgs false

def lastOr (p : Option Rc) : List Rc → Option Rc
  | [] => p
  | r :: rs => lastOr (some r) rs
theorem lastOr_snoc (x : Rc) : ∀ (a : List Rc) (p : Option Rc), lastOr p (a ++ [x]) = some x
  | [], p => rfl
  | r :: a, p => lastOr_snoc x a (some r)
theorem lastOr_mem : ∀ (a : List Rc) (p : Option Rc), lastOr p a = p ∨ ∃ r ∈ a, lastOr p a = some r
  | [], p => .inl rfl
  | r :: a, p => by
    rcases lastOr_mem a (some r) with h | ⟨x, h1, h2⟩
    · exact .inr ⟨r, List.mem_cons_self, h⟩
    · exact .inr ⟨x, List.mem_cons_of_mem _ h1, h2⟩
theorem kept_app (ms : List Int) : ∀ (a b : List Rc) (p : Option Rc), keptS ms p (a ++ b) = keptS ms p a ++ keptS ms (lastOr p a) b
  | [], b, p => rfl
  | r :: a, b, p => by rw [List.cons_append, keptS, keptS, kept_app ms a b (some r), List.append_assoc]; rfl
theorem kept_new {ms : List Int} {p : Option Rc} {r : Rc} {rs : List Rc} (h : seenS ms p r = true) : keptS ms p (r :: rs) = keptS ms none (r :: rs) := by
  rw [keptS, keptS, if_pos h, if_pos (show seenS ms none r = true from rfl)]
theorem kept_step (ms : List Int) (l : List Rc) {j : Nat} (hj : j < l.length) :
    keptS ms none (l.take (j + 1)) = keptS ms none (l.take j) ++ (if seenS ms (lastOr none (l.take j)) l[j] = true then [l[j]] else []) := by
  rw [List.take_succ_eq_append_getElem hj, kept_app]
  simp [keptS]
theorem drop_apart (b : Bool) : ∀ (A C : List Rc), (∀ a ∈ A, ∀ c ∈ C, a.key ≠ c.key) → dropS b (A ++ C) = dropS b A ++ dropS b C
  | [], C, _ => rfl
  | a :: A, C, h => by
    have ih := drop_apart b A C fun x hx => h x (List.mem_cons_of_mem _ hx)
    rw [List.cons_append, dropS, dropS, ih]
    have hl : isLast (dropS b A ++ dropS b C) a = isLast (dropS b A) a := by
      cases e : dropS b A with
      | cons y ys => rfl
      | nil =>
        cases e2 : dropS b C with
        | nil => rfl
        | cons y ys =>
          have hy : y ∈ C := (drop_sub b C).subset (by rw [e2]; exact List.mem_cons_self)
          have := h a List.mem_cons_self y hy
          simp [isLast]; exact fun e => this e.symm
    rw [hl]
    split <;> rfl
theorem drop_gone (b : Bool) {t : List Rc} (ht : dropS b t = []) : ∀ (ks : List Rc), dropS b (ks ++ t) = dropS b ks
  | [] => ht
  | a :: ks => by rw [List.cons_append, dropS, dropS, drop_gone b ht ks]
theorem drop_whole (b : Bool) (k : List UInt8) (x : Rc) (hx : (b && x.del) = false) : ∀ (ks : List Rc), (∀ r ∈ ks ++ [x], r.key = k) → dropS b (ks ++ [x]) = ks ++ [x]
  | [], _ => by simp [dropS, hx]
  | a :: ks, h => by
    have ih := drop_whole b k x hx ks fun r hr => h r (List.mem_cons_of_mem _ hr)
    have hl : isLast (ks ++ [x]) a = false := by
      have ha := h a List.mem_cons_self
      cases ks with
      | nil => have := h x (by simp); simp [isLast, ha, this]
      | cons y ys => have := h y (by simp); simp [isLast, ha, this]
    rw [List.cons_append, dropS, ih, hl]; simp
theorem keep_step (ms : List Int) (b : Bool) (k : List UInt8) {pre g : List Rc} (h1 : ∀ r ∈ pre, r.key ≠ k) (h2 : ∀ r ∈ g, r.key = k) : keepS ms b (pre ++ g) = keepS ms b pre ++ dropS b (keptS ms none g) := by
  unfold keepS
  have e : keptS ms (lastOr none pre) g = keptS ms none g := by
    cases g with
    | nil => rfl
    | cons r rs =>
      refine kept_new ?_
      rcases lastOr_mem pre none with h | ⟨a, ha, h⟩
      · rw [h]; rfl
      · rw [h]
        have : a.key ≠ r.key := by rw [h2 r List.mem_cons_self]; exact h1 a ha
        simp [seenS, this]
  rw [kept_app, e]
  refine drop_apart b _ _ fun a ha c hc => ?_
  rw [h2 c ((kept_sub ms g none).subset hc)]
  exact h1 a ((kept_sub ms pre none).subset ha)
/-- In a group: whether one is seen. -/
theorem seen_group (ms : List Int) {k : List UInt8} {l : List Rc} (hk : ∀ r ∈ l, r.key = k) {j : Nat} (hj : j + 1 < l.length) :
    seenS ms (lastOr none (l.take (j + 1))) l[j + 1] = ms.any (withinS l[j + 1].seq l[j].seq) := by
  rw [List.take_succ_eq_append_getElem (by omega), lastOr_snoc]
  have h1 := hk _ (List.getElem_mem (show j < l.length by omega))
  have h2 := hk _ (List.getElem_mem hj)
  have e : l[j].key = l[j + 1].key := h1.trans h2.symm
  show (!decide (l[j].key = l[j + 1].key) || ms.any _) = _
  rw [decide_eq_true e]; rfl
theorem drop_len (b : Bool) (l : List Rc) : (dropS b l).length ≤ l.length := (drop_sub b l).length_le
theorem kept_len (ms : List Int) (l : List Rc) : (keptS ms none l).length ≤ l.length := (kept_sub ms l none).length_le
/-- A row that is owned, one element less. -/
theorem own_less {w : World} {B s n c : Nat} {e : TypeId} {A : Option Addr} {xs : List Value} (h : w.ownsRow B e s (.slice A (n + 1) c) (n + 1) xs) : w.ownsRow B e s (.slice A n c) n (xs.take (n * s)) := by
  obtain ⟨h1, h2⟩ := h
  refine ⟨by rw [List.length_take, h1, Nat.succ_mul]; omega, ?_⟩
  rcases h2 with ⟨_, h2⟩ | ⟨g, cap, cur, hv, hb, hg, hn, hm, hs, hx⟩
  · omega
  · injection hv with e1 e2 e3
    subst e1 e3
    refine .inr ⟨g, c, cur, rfl, hb, hg, by omega, hm, hs, ?_⟩
    rw [← hx, List.take_take, Nat.min_eq_left (by rw [Nat.succ_mul]; omega)]
theorem OutAt.less {w : World} {B n c : Nat} {A : Option Addr} {qs : List El} {q : El} (h : OutAt w B (.slice A (n + 1) c) (qs ++ [q])) (hn : qs.length = n) : OutAt w B (.slice A n c) qs := by
  refine ⟨?_, fun z hz => h.el z (List.mem_append_left _ hz)⟩
  have h1 := h.own
  rw [List.length_append, List.length_singleton, hn] at h1
  have h2 := own_less h1
  rw [elCells_take, ← hn, List.take_left] at h2
  rw [hn] at h2; rw [hn]; exact h2
end Go.Proofs.Ytfcemlcocdhmfaa
