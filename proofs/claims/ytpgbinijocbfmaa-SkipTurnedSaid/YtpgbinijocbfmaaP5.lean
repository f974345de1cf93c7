/- The reference's list: Put. -/
import Derived.Test.YtpgbinijocbfmaaP4
import Derived.Deep.RegionHeld3
import Derived.StillTailTactics
namespace Go.Proofs.Ytpgbinijocbfmaa
open Go.RowKit Go
set_option linter.unusedVariables false
set_option linter.unusedSimpArgs false

/-- The reference's list in memory, its blocks all of V. -/
structure RefIs (w : World) (V : Nat → Prop) (R : Nat) (qs : List El) (high : Nat) : Prop where
  lt : ∀ b, V b → b < w.heap.size
  inV : V R
  box : ∃ v, w.heap[R]? = some (.cells #[v, .int .i64 high] 30 (0, 0)) ∧ RowU w V v qs
  els : ElsOk w V qs
theorem RefIs.keep {w w' : World} {V : Nat → Prop} {R : Nat} {qs : List El} {high : Nat} (h : RefIs w V R qs high) (hs : w.heap.size ≤ w'.heap.size) (hk : ∀ b, V b → w'.heap[b]? = w.heap[b]?) : RefIs w' V R qs high := by
  obtain ⟨h1, h2, ⟨v, h3, h4⟩, h5⟩ := h
  exact ⟨fun b hb => Nat.lt_of_lt_of_le (h1 b hb) hs, h2, ⟨v, (hk R h2).trans h3, h4.keepT (fun b cs hb _ => hk b hb) (fun b hb => hb)⟩, h5.keepT (fun b cs hb _ => hk b hb) (fun b hb => hb)⟩
theorem RefIs.below {w w' : World} {V : Nat → Prop} {R : Nat} {qs : List El} {high : Nat} (h : RefIs w V R qs high) (hb : Below w.heap.size w w') : RefIs w' V R qs high := h.keep hb.size fun b hV => hb.block b (h.lt b hV)
theorem RefIs.wider {w : World} {V V' : Nat → Prop} {R : Nat} {qs : List El} {high : Nat} (h : RefIs w V R qs high) (hk : ∀ b, V b → V' b) (hV : ∀ b, V' b → b < w.heap.size) : RefIs w V' R qs high := by
  obtain ⟨h1, h2, ⟨v, h3, h4⟩, h5⟩ := h
  exact ⟨hV, hk _ h2, ⟨v, h3, h4.keepT (fun _ _ _ _ => rfl) hk⟩, h5.keepT (fun _ _ _ _ => rfl) hk⟩
theorem take_more {qs : List El} {k : Nat} {key : List UInt8} {seq : Int} (h : ∀ q ∈ qs.take k, ordS q.r key seq < 0) (hk : k < qs.length) (hq : ordS qs[k].r key seq < 0) : ∀ q ∈ qs.take (k + 1), ordS q.r key seq < 0 := by
  intro q hq'
  rw [List.take_succ_eq_append_getElem hk] at hq'
  rcases List.mem_append.1 hq' with h1 | h1
  · exact h q h1
  · rw [List.mem_singleton] at h1; subst h1; exact hq
theorem put_len {w : World} {base n M : Nat} {v : Value} {A B : List El} {q : El} (h : w.ownsRow base 35 4 v n (elCells (A ++ [q]) ++ elCells B)) (hn : n = M) : w.ownsRow base 35 4 v M (elCells (A ++ q :: B)) := by
  rw [← elCells_app, List.append_assoc] at h
  rw [← hn]; exact h
/-- The reference's row is put together; it is laid into the list's cell. -/
def PutEnd (wd : World) (R M : Nat) (qs : List El) (kv vv : Value) (r : Rc) (wc : World) : Prop := ∃ A9 c9 w5, wc = w5.setCell ⟨R, 0, none⟩ (.slice A9 M c9) ∧ Below wd.heap.size wd w5 ∧ w5.ownsRow wd.heap.size 35 4 (.slice A9 M c9) M (elCells qs) ∧ Mine wd.heap.size w5 kv r.key ∧ Mine wd.heap.size w5 vv r.val
theorem rput_end {w wd w5 : World} {V : Nat → Prop} {R N : Nat} {A B : List El} {q : El} {high h : Nat} {A9 : Option Addr} {c9 : Nat} {v0 : Value} (HS : RefIs wd V R (A ++ B) high) (hB : Below w.heap.size w wd) (h5 : Below wd.heap.size wd w5)
    (ho : w5.ownsRow wd.heap.size 35 4 (.slice A9 (N + 1) c9) (N + 1) (elCells (A ++ q :: B))) (hm1 : Mine wd.heap.size w5 q.kv q.r.key) (hm2 : Mine wd.heap.size w5 q.vv q.r.val) (hN : (A ++ B).length = N)
    (hbx : wd.heap[R]? = some (.cells #[v0, .int .i64 high] 30 (0, 0))) :
    RefIs ((w5.setCell ⟨R, 0, none⟩ (.slice A9 (N + 1) c9)).setCell ⟨R, 1, none⟩ (.int .i64 (max (high : Int) (h : Int)))).drew (fun b => V b ∨ New w.heap.size ((w5.setCell ⟨R, 0, none⟩ (.slice A9 (N + 1) c9)).setCell ⟨R, 1, none⟩ (.int .i64 (max (high : Int) (h : Int)))).drew b) R (A ++ q :: B) (max high h) ∧
      Chg w V ((w5.setCell ⟨R, 0, none⟩ (.slice A9 (N + 1) c9)).setCell ⟨R, 1, none⟩ (.int .i64 (max (high : Int) (h : Int)))).drew := by
  have zR := HS.lt R HS.inV
  have s1 := hB.size
  have s5 := h5.size
  have b5 := blk_below hbx h5 zR
  have b6 := blk_set (blk_set b5 0 (.slice A9 (N + 1) c9)) 1 (.int .i64 (max (high : Int) (h : Int)))
  have far : ∀ b : Nat, b ≠ R → ((w5.setCell ⟨R, 0, none⟩ (.slice A9 (N + 1) c9)).setCell ⟨R, 1, none⟩ (.int .i64 (max (high : Int) (h : Int)))).heap[b]? = w5.heap[b]? := fun b hb => by
    rw [Below.heap_setCell _ _ _ _ hb, Below.heap_setCell _ _ _ _ hb]
  have sz : ((w5.setCell ⟨R, 0, none⟩ (.slice A9 (N + 1) c9)).setCell ⟨R, 1, none⟩ (.int .i64 (max (high : Int) (h : Int)))).drew.heap.size = w5.heap.size := by simp
  have cg : Chg w V ((w5.setCell ⟨R, 0, none⟩ (.slice A9 (N + 1) c9)).setCell ⟨R, 1, none⟩ (.int .i64 (max (high : Int) (h : Int)))).drew := (((Chg.of_below (hB.trans (h5.mono s1))).setCell (.inl HS.inV) _).setCell (.inl HS.inV) _).drew
  have hl : (A ++ q :: B).length = N + 1 := by simp at hN ⊢; omega
  refine ⟨⟨fun b hb => ?_, .inl HS.inV, ⟨.slice A9 (N + 1) c9, ?_, ?_⟩, ?_⟩, cg⟩
  · rw [sz]
    rcases hb with hb | hb
    · have := HS.lt b hb; omega
    · have := hb.2; rw [sz] at this; exact this
  · have e : ((max high h : Nat) : Int) = max (high : Int) (h : Int) := by omega
    rw [e]; exact b6
  · have r1 := RowU.of_own (qs := A ++ q :: B) (by rw [hl]; exact ho)
    refine r1.keepT (fun b cs hb hc => far b (ne_of_type hc b5 (by decide))) (fun b hb => .inr ⟨by have := hb.1; omega, by rw [sz]; exact hb.2⟩)
  · intro x hx
    have keep : ∀ (b : Nat) (cs : Array Value), w5.heap[b]? = some (Obj.cells cs 5 (0, 0)) → ((w5.setCell ⟨R, 0, none⟩ (.slice A9 (N + 1) c9)).setCell ⟨R, 1, none⟩ (.int .i64 (max (high : Int) (h : Int)))).drew.heap[b]? = w5.heap[b]? := fun b cs hc => far b (ne_of_type hc b5 (by decide))
    have old : ∀ x ∈ A ++ B, BsU w5 V x.kv x.r.key ∧ BsU w5 V x.vv x.r.val := fun x hx => ⟨(HS.els x hx).1.keep fun b hb => h5.block b (HS.lt b hb), (HS.els x hx).2.keep fun b hb => h5.block b (HS.lt b hb)⟩
    have hx' : x = q ∨ x ∈ A ++ B := by
      simp only [List.mem_append, List.mem_cons] at hx ⊢
      rcases hx with h | h | h
      · exact .inr (.inl h)
      · exact .inl h
      · exact .inr (.inr h)
    rcases hx' with rfl | hx'
    · exact ⟨(hm1.1.keepT fun b cs _ hc => keep b cs hc).wider fun b hb => .inr ⟨by have := hb.1; omega, by rw [sz]; exact hb.2⟩, (hm2.1.keepT fun b cs _ hc => keep b cs hc).wider fun b hb => .inr ⟨by have := hb.1; omega, by rw [sz]; exact hb.2⟩⟩
    · exact ⟨((old x hx').1.keepT fun b cs _ hc => keep b cs hc).wider fun b hb => .inl hb, ((old x hx').2.keepT fun b cs _ hc => keep b cs hc).wider fun b hb => .inl hb⟩
theorem rput_parts {A B : List El} {k : List UInt8} {s : Int} (hA : ∀ a ∈ A, ordS a.r k s < 0) (hB : ∀ b, B.head? = some b → 0 ≤ ordS b.r k s) :
    (((A ++ B).map El.r).takeWhile fun x => decide (ordS x k s < 0)) = A.map El.r ∧ (((A ++ B).map El.r).dropWhile fun x => decide (ordS x k s < 0)) = B.map El.r := by
  have h1 : (B.map El.r).takeWhile (fun x => decide (ordS x k s < 0)) = [] ∧ (B.map El.r).dropWhile (fun x => decide (ordS x k s < 0)) = B.map El.r := by
    rcases B with _ | ⟨b, B⟩
    · exact ⟨rfl, rfl⟩
    · have := hB b rfl
      have h : decide (ordS b.r k s < 0) = false := by simpa using this
      simp [List.takeWhile_cons, List.dropWhile_cons, h]
  have h2 : ∀ x ∈ A.map El.r, (fun x => decide (ordS x k s < 0)) x = true := by
    intro x hx
    obtain ⟨a, ha, rfl⟩ := List.mem_map.1 hx
    simpa using hA a ha
  rw [List.map_append]
  rw [List.takeWhile_append_of_pos h2, List.dropWhile_append_of_pos h2, h1.1, h1.2, List.append_nil]
  exact ⟨rfl, rfl⟩
theorem rhead_any (B : List El) (p : Rc → Bool) : (B.map El.r).head?.any p = B.head?.any (fun b => p b.r) := by cases B <;> rfl
theorem rput_there {A B : List El} {high : Nat} {r : Rc} {draw : Int} (hR : rightN r.key.length r.seq r.del r.val.length = true) (hA : ∀ a ∈ A, ordS a.r r.key r.seq < 0) (hB : ∀ b, B.head? = some b → 0 ≤ ordS b.r r.key r.seq) (hX : B.head?.any (fun b => decide (ordS b.r r.key r.seq = 0)) = true) :
    putS ((A ++ B).map El.r) high r draw = (5, (A ++ B).map El.r, high) := by
  obtain ⟨h1, h2⟩ := rput_parts hA hB
  unfold putS
  rw [if_pos hR, h1, h2, rhead_any, if_pos hX]
theorem rput_new {A B : List El} {high : Nat} {r : Rc} {draw : Int} (hR : rightN r.key.length r.seq r.del r.val.length = true) (hA : ∀ a ∈ A, ordS a.r r.key r.seq < 0) (hB : ∀ b, B.head? = some b → 0 ≤ ordS b.r r.key r.seq) (hX : B.head?.any (fun b => decide (ordS b.r r.key r.seq = 0)) = false) {n : El} (hn : n.r = r) :
    putS ((A ++ B).map El.r) high r draw = (0, (A ++ n :: B).map El.r, max high (levS draw)) := by
  obtain ⟨h1, h2⟩ := rput_parts hA hB
  unfold putS
  rw [if_pos hR, h1, h2, rhead_any, hX, if_neg (by simp), List.map_append, List.map_cons, hn]

set_option maxHeartbeats 3200000 in
set_option maxRecDepth 100000 in
theorem put_ref (V : Nat → Prop) (R : Nat) (qs : List El) (high : Nat) (kv vv : Value) (r : Rc) (draw : Int) (w : World) (h : RefIs w V R qs high) (hk : Bs w w.heap.size kv r.key) (hv : Bs w w.heap.size vv r.val)
    (hd0 : -9223372036854775808 ≤ draw ∧ draw ≤ 9223372036854775807) (hn : qs.length ≤ 1048576) (hh : high ≤ 12) :
    Calls Try.prog 11 #[ptr R, .agg #[kv, .int .i64 r.seq, .bool r.del, vv], .int .i64 draw] w fun e w' =>
      ∃ c qs' high', e = .returned (.int .i64 c) ∧ putS (qs.map El.r) high r draw = (c, qs'.map El.r, high') ∧ RefIs w' (fun b => V b ∨ New w.heap.size w' b) R qs' high' ∧ Chg w V w' := by
  obtain ⟨Ak, ck, rfl, hrk⟩ := hk
  obtain ⟨Av, cv, rfl, hrv⟩ := hv
  have HK : Hid (Bs w w.heap.size (.slice Ak r.key.length ck) r.key) := ⟨Ak, ck, rfl, hrk⟩
  have HV : Hid (Bs w w.heap.size (.slice Av r.val.length cv) r.val) := ⟨Av, cv, rfl, hrv⟩
  clear hrk hrv
  have HH := Lib.hid h; clear h
  unfold ptr
  cases hR : rightN r.key.length r.seq r.del r.val.length with
  | false =>
    have HR := Lib.hid hR; clear hR
    go_enter Try.func11, Try.ntmps11
    go_wp2_with fail
    refine (right_ref Ak Av r.key.length ck r.val.length cv r.seq r.del _).mono ?_; rintro e w1 ⟨rfl, hw1⟩
    rw [HR.out]
    have HB1 : Hid (Below w.heap.size w w1) := ((Below.refl _ _).alloc (Nat.le_refl _) _).trans (hw1.mono (by simp))
    clear hw1
    go_wp2_with fail
    go_ret
    exact ⟨1, qs, high, rfl, by unfold putS; rw [HR.out]; rfl, (HH.out.below HB1.out).wider (fun b hb => .inl hb) (fun b hb => by rcases hb with hb | hb <;> (first | exact (HH.out.below HB1.out).lt b hb | exact hb.2)), Chg.of_below HB1.out⟩
  | true =>
    have HR := Lib.hid hR; clear hR
    go_enter Try.func11, Try.ntmps11
    go_wp2_with fail
    refine (right_ref Ak Av r.key.length ck r.val.length cv r.seq r.del _).mono ?_; rintro e w1 ⟨rfl, hw1⟩
    rw [HR.out]
    have HB1 : Hid (Below w.heap.size w w1) := ((Below.refl _ _).alloc (Nat.le_refl _) _).trans (hw1.mono (by simp))
    have bx := blk_below (blk_new w (.cells #[.slice Ak r.key.length ck, .int .i64 r.seq, .bool r.del, .slice Av r.val.length cv] 35) rfl) hw1 (by simp)
    have BX := Lib.hid bx
    clear hw1 bx
    go_upto_block 0 with fail
    go_cut [8] from 14 to 33 (fun v wc => ∃ A B : List El, qs = A ++ B ∧ v = .int .i64 (A.length : Nat) ∧ (∀ a ∈ A, ordS a.r r.key r.seq < 0) ∧ (∀ b, B.head? = some b → 0 ≤ ordS b.r r.key r.seq) ∧ Below w.heap.size w wc ∧ wc.heap[w.heap.size]? = some (.cells #[.slice Ak r.key.length ck, .int .i64 r.seq, .bool r.del, .slice Av r.val.length cv] 35 (0, 0)))
    case first =>
      go_wp2_with fail
      go_loopg [8] qs.length (fun g v wr => ∃ k : Nat, g = qs.length - k ∧ k ≤ qs.length ∧ v = .int .i64 k ∧ (∀ q ∈ qs.take k, ordS q.r r.key r.seq < 0) ∧ Below w.heap.size w wr ∧ wr.heap[w.heap.size]? = some (.cells #[.slice Ak r.key.length ck, .int .i64 r.seq, .bool r.del, .slice Av r.val.length cv] 35 (0, 0)))
      case atStart => exact ⟨0, rfl, by omega, rfl, by simp, HB1.out, BX.out⟩
      case round =>
        obtain ⟨k, hgk, hk, rfl, hah, hB, hbx⟩ := hrel
        have HG := Lib.hid hgk; have HA := Lib.hid hah; have HB := Lib.hid hB; have HBX := Lib.hid hbx
        have HS := Lib.hid (HH.out.below hB)
        clear hgk hah hB hbx
        obtain ⟨lv, hbox, hrow⟩ := HS.out.box
        obtain ⟨Al, cl, rfl⟩ := hrow.form
        obtain ⟨p0, p1, p2⟩ := cells2 hbox
        obtain ⟨q0, q1, q2, q3, q4⟩ := cells4 HBX.out
        have HBOX := Lib.hid hbox; have HROW := Lib.hid hrow
        clear hbox hrow
        by_cases hlt : k < qs.length
        · obtain ⟨_, _, e1, hcap, hrw⟩ := HROW.out
          injection e1 with e1 e2 e3; subst e1 e3
          obtain ⟨b, off, rfl, hbV, hbt, hcl⟩ := hrw (by omega)
          obtain ⟨r0, r1, r2, r3⟩ := row_at hcl hlt
          have HRW := Lib.hid (And.intro hcap (And.intro hbV (And.intro hbt hcl)))
          clear hcap hbV hbt hcl hrw e2
          have hel := HS.out.els qs[k] (List.getElem_mem hlt)
          have HE1 := Lib.hid (hel.1.bs HS.out.lt); have HE2 := Lib.hid (hel.2.bs HS.out.lt)
          have HEQ : Hid (qs[k] = qs[k]) := rfl
          obtain ⟨q, hq⟩ : ∃ q, qs[k] = q := ⟨_, rfl⟩
          rw [hq] at r0 r1 r2 r3 HE1 HE2
          have HQ := Lib.hid hq
          clear hel HEQ hq
          obtain ⟨qr, hqr⟩ : ∃ x, ordS q.r r.key r.seq = x := ⟨_, rfl⟩
          have HQR := Lib.hid hqr; clear hqr
          have i1 : (0 : Int) ≤ (k : Int) := by omega
          have i2 : (k : Int) < (qs.length : Int) := by omega
          have hIq : IsRc wr wr.heap.size (.agg #[q.kv, .int .i64 q.r.seq, .bool q.r.del, q.vv]) q.r := ⟨_, _, rfl, HE1.out, HE2.out⟩
          have hIr : IsRc wr wr.heap.size (.agg #[.slice Ak r.key.length ck, .int .i64 r.seq, .bool r.del, .slice Av r.val.length cv]) r := ⟨_, _, rfl, HK.out.up HB.out, HV.out.up HB.out⟩
          have HIQ := Lib.hid hIq; have HIR := Lib.hid hIr; clear hIq hIr
          have z1 : R < wr.heap.size := HS.out.lt R HS.out.inV
          have z2 : b < wr.heap.size := HS.out.lt b HRW.out.2.1
          have z3 : w.heap.size < wr.heap.size := blk_lt HBX.out
          have z4 : off + k * 4 + 1 ≠ off + k * 4 := by omega
          go_wp2_with fail
          go_cut [31] from 14 to 33 (fun v wc => v = .bool (decide (ordS q.r r.key r.seq < 0)) ∧ Below wr.heap.size wr wc)
          case first =>
            go_region_held3 (fun w' => w'.cell? ⟨R, 0, none⟩ = some (.slice (some ⟨b, off, none⟩) qs.length cl) ∧ w'.cell? ⟨b, off + k * 4, none⟩ = some q.kv ∧ w'.cell? ⟨b, off + k * 4 + 1, none⟩ = some (.int .i64 q.r.seq) ∧ w'.cell? ⟨b, off + k * 4 + 2, none⟩ = some (.bool q.r.del) ∧ w'.cell? ⟨b, off + k * 4 + 3, none⟩ = some q.vv ∧
                w'.cell? ⟨w.heap.size, 0, none⟩ = some (.slice Ak r.key.length ck) ∧ w'.cell? ⟨w.heap.size, 1, none⟩ = some (.int .i64 r.seq) ∧ w'.cell? ⟨w.heap.size, 2, none⟩ = some (.bool r.del) ∧ w'.cell? ⟨w.heap.size, 3, none⟩ = some (.slice Av r.val.length cv))
              ((first | (with_reducible exact ⟨p0, r0, r1, r2, r3, q0, q1, q2, q3⟩) | exact ⟨p0, r0, r1, r2, r3, q0, q1, q2, q3⟩ | exact ⟨(hcB _ z1).trans p0, (hcB _ z2).trans r0, (hcB _ z2).trans r1, (hcB _ z2).trans r2, (hcB _ z2).trans r3, (hcB _ z3).trans q0, (hcB _ z3).trans q1, (hcB _ z3).trans q2, (hcB _ z3).trans q3⟩))
              ((go_at_call 29; refine (ahead_any q.r r _ _ wr.drew HIQ.out HIR.out).mono ?_; rintro e w2 ⟨rfl, hw2⟩; have hcB := fun (p : Addr) (hp : p.block < wr.heap.size) => hw2.cell hp; have HW2 := Lib.hid hw2; clear hw2; rw [HQR.out]))
            go_wp2_with fail
            go_meet
            exact ⟨by rw [HQR.out], (Below.refl _ _).drew.trans HW2.out⟩
          case rest =>
            obtain ⟨rfl, hw4⟩ := hcut
            have HW4 := Lib.hid hw4; clear hw4
            have HB4 := Lib.hid (HB.out.trans (HW4.out.mono HB.out.size))
            have HBX4 := Lib.hid (blk_below HBX.out HW4.out (blk_lt HBX.out))
            by_cases hneg : ordS q.r r.key r.seq < 0
            · have hdt : decide (ordS q.r r.key r.seq < 0) = true := by simpa using hneg
              rw [hdt]
              have HN := Lib.hid hneg; clear hneg hdt
              clear p0 p1 p2 q0 q1 q2 q3 q4 r0 r1 r2 r3
              go_wp2_with fail
              go_roundg (qs.length - (k + 1))
              case measure => have := HG.out; omega
              case rel => exact ⟨k + 1, rfl, by omega, by go_num, take_more HA.out hlt (by rw [HQ.out]; exact HN.out), HB4.out, HBX4.out⟩
            · have hdt : decide (ordS q.r r.key r.seq < 0) = false := by simpa using hneg
              rw [hdt]
              have HN := Lib.hid hneg; clear hneg hdt
              clear p0 p1 p2 q0 q1 q2 q3 q4 r0 r1 r2 r3
              go_wp2_with fail
              go_meet
              refine ⟨qs.take k, qs.drop k, by simp, by simp; omega, HA.out, fun b hb => ?_, HB4.out, HBX4.out⟩
              rw [List.head?_drop, List.getElem?_eq_getElem hlt] at hb
              injection hb with hb
              rw [← hb, HQ.out]; exact HN.out
        · have hke : k = qs.length := by omega
          subst hke
          have hdt : decide ((qs.length : Int) < (qs.length : Int)) = false := by simp
          have hdt2 : decide (qs.length < qs.length) = false := by simp
          go_wp2_with fail
          go_quiet (fail)
          go_wp2_with fail
          go_meet
          exact ⟨qs, [], by simp, rfl, by simpa using HA.out, by simp, below_drewN HB.out _, HBX.out⟩
    case rest =>
      obtain ⟨A, B, hAB, rfl, hA, hB, hbw, hbx⟩ := hcut
      subst hAB
      have HA := Lib.hid hA; have HB := Lib.hid hB; have HBW := Lib.hid hbw; have HBX := Lib.hid hbx
      have HS := Lib.hid (HH.out.below hbw)
      clear hA hB hbw hbx HB1 BX
      obtain ⟨lv, hbox, hrow⟩ := HS.out.box
      obtain ⟨Al, cl, rfl⟩ := hrow.form
      obtain ⟨p0, p1, p2⟩ := cells2 hbox
      obtain ⟨q0, q1, q2, q3, q4⟩ := cells4 HBX.out
      have HBOX := Lib.hid hbox; have HROW := Lib.hid hrow
      clear hbox hrow
      obtain ⟨x, hx⟩ : ∃ x : Bool, B.head?.any (fun b => decide (ordS b.r r.key r.seq = 0)) = x := ⟨_, rfl⟩
      have HX := Lib.hid hx; clear hx
      go_upto_region 7 with fail
      go_cut [68] from 34 to 67 (fun v w2 => v = .bool x ∧ ∃ n, w2 = wc.drewN n)
      case first =>
        rcases B with _ | ⟨b, B⟩
        · have e2 : x = false := HX.out.symm
          subst e2
          rw [List.append_nil] at p0
          go_quiet (fail)
          go_wp2_with fail
          go_meet
          exact ⟨rfl, _, rfl⟩
        · have hlt : A.length < (A ++ b :: B).length := by simp
          obtain ⟨_, _, e1, hcap, hrw⟩ := HROW.out
          injection e1 with e1 e2 e3; subst e1 e3
          obtain ⟨g, off, rfl, hbV, hbt, hcl⟩ := hrw (by omega)
          obtain ⟨r0, r1, r2, r3⟩ := row_at hcl hlt
          have hel := HS.out.els b (by simp)
          have eb : (A ++ b :: B)[A.length] = b := by simp
          rw [eb] at r0 r1 r2 r3
          have HC1 : Bs wc wc.heap.size b.kv b.r.key := hel.1.bs HS.out.lt
          have HC2 : Bs wc wc.heap.size (.slice Ak r.key.length ck) r.key := HK.out.up HBW.out
          have k1 : ∀ n, (convert 33 9 b.kv).run Try.prog (wc.drewN n) = .ok (.string (strOfNums (nums b.r.key))) (wc.drewN n) := fun n => Bs.conv (w := wc.drewN n) HC1
          have k2 : ∀ n, (convert 33 9 (.slice Ak r.key.length ck)).run Try.prog (wc.drewN n) = .ok (.string (strOfNums (nums r.key))) (wc.drewN n) := fun n => Bs.conv (w := wc.drewN n) HC2
          have k3 := HC1.conv
          have k4 := HC2.conv
          have e2 : x = (decide (b.r.key = r.key) && decide (r.seq = b.r.seq)) := by
            have := HX.out; simp at this; rw [← this, ← Bool.decide_and]; simp only [ordS_eq]
          have E2 := Lib.hid e2
          clear e2 hel eb hcl hbt hbV hcap hrw HC1 HC2
          obtain ⟨N, hN⟩ : ∃ N, (A ++ b :: B).length = N := ⟨_, rfl⟩
          rw [hN] at p0 hlt
          clear hN hn HROW HBOX
          generalize A.length = k at *
          have i1 : (0 : Int) ≤ (k : Int) := by omega
          have i2 : (k : Int) < (N : Int) := by omega
          by_cases hk : b.r.key = r.key
          · by_cases hq : b.r.seq = r.seq
            · have t1 : ((strOfNums (nums b.r.key)).toList == (strOfNums (nums r.key)).toList) = true := by rw [str_l, str_l]; simpa using hk
              have t2 : (b.r.seq == r.seq) = true := by simpa using hq
              have EX : Hid (x = true) := by show _ = _; rw [E2.out]; simp [hk, hq]
              clear hk hq
              go_quiet (fail)
              go_wp2_with fail
              go_meet
              exact ⟨by rw [EX.out], _, rfl⟩
            · have t1 : ((strOfNums (nums b.r.key)).toList == (strOfNums (nums r.key)).toList) = true := by rw [str_l, str_l]; simpa using hk
              have t2 : (b.r.seq == r.seq) = false := by simpa using hq
              have EX : Hid (x = false) := by show _ = _; rw [E2.out]; simp [hk]; omega
              clear hk hq
              go_quiet (fail)
              go_wp2_with fail
              go_meet
              exact ⟨by rw [EX.out], _, rfl⟩
          · have t1 : ((strOfNums (nums b.r.key)).toList == (strOfNums (nums r.key)).toList) = false := by rw [str_l, str_l]; simpa using hk
            have EX : Hid (x = false) := by show _ = _; rw [E2.out]; simp [hk]
            clear hk
            go_quiet (fail)
            go_wp2_with fail
            go_meet
            exact ⟨by rw [EX.out], _, rfl⟩
      case rest =>
        obtain ⟨rfl, n, rfl⟩ := hcut
        have HS4 := Lib.hid (HS.out.below (below_drewN (Below.refl _ _) n))
        have HB4 := Lib.hid (below_drewN HBW.out n)
        have HBX4 : Hid ((wc.drewN n).heap[w.heap.size]? = some (.cells #[.slice Ak r.key.length ck, .int .i64 r.seq, .bool r.del, .slice Av r.val.length cv] 35 (0, 0))) := HBX.out
        clear HS HBW HBX HBOX HROW p0 p1 p2 q0 q1 q2 q3 q4
        generalize wc.drewN n = wd at *
        clear wc
        obtain ⟨lv, hbox, hrow⟩ := HS4.out.box
        obtain ⟨Al, cl, rfl⟩ := hrow.form
        obtain ⟨p0, p1, p2⟩ := cells2 hbox
        obtain ⟨q0, q1, q2, q3, q4⟩ := cells4 HBX4.out
        have HBOX := Lib.hid hbox; have HROW := Lib.hid hrow
        clear hbox hrow
        cases x with
        | true =>
          go_wp2_with fail
          go_ret
          exact ⟨5, A ++ B, high, rfl, rput_there HR.out HA.out HB.out HX.out, HS4.out.wider (fun b hb => .inl hb) (fun b hb => by rcases hb with hb | hb <;> (first | exact HS4.out.lt b hb | exact hb.2)), Chg.of_below HB4.out⟩
        | false =>
          obtain ⟨hrd, hcap⟩ := HROW.out.rd HS4.out.lt
          have hrd := hrd.wider (HS4.out.lt |> fun _ => Nat.le_refl _)
          obtain ⟨N, hN⟩ : ∃ N, (A ++ B).length = N := ⟨_, rfl⟩
          have htk := hrd.take (m := A.length) (by simp)
          have hAN : A.length ≤ N := by rw [← hN]; simp
          rw [elCells_take, List.take_left] at htk
          have HRD := Lib.hid hrd; have HTK := Lib.hid htk; have HN := Lib.hid hN
          rw [hN] at p0 hcap hn
          clear hrd htk hN
          obtain ⟨i0, hi, hz0, hz1, hz2⟩ := info_parts rec_info
          have hi' : Hid _ := hi
          clear hi
          have hm := maxLen_le
          have one : Hid (∀ u ∈ elCells A, u.oneCell' = true) := el_one (w := wd) (U := V) (fun q hq => HS4.out.els q (by simp [hq]))
          obtain ⟨k, hk⟩ : ∃ k, A.length = k := ⟨_, rfl⟩
          have HKL := Lib.hid hk
          rw [hk] at hAN ⊢
          have HTK2 : Hid (Rd wd wd.heap.size 4 Al k (elCells A)) := by have := HTK.out; rw [hk] at this; exact this
          clear hk
          have i1 : (0 : Int) ≤ (k : Int) := by omega
          have i2 : (k : Int) ≤ (N : Int) := by omega
          have i3 : (k : Int) ≤ (cl : Int) := by omega
          have i4 : k ≤ cl := by omega
          have zR : R < wd.heap.size := HS4.out.lt R HS4.out.inV
          have zW : w.heap.size < wd.heap.size := blk_lt HBX4.out
          go_upto_region 10 with (at_builtin; refine wpList_app rfl (.tmp 69) (.tmp 75) _ rfl wd.heap.size 35 i0 _ 4 64 Try.underlying28 hi'.out hz0 hz1 hz2 rfl (by omega) (.slice (some ⟨wd.heap.size, 0, none⟩) 0 0) 0 [] rfl (World.ownsRow_made wd #[] 0 (Nat.le_refl _) (by omega) rfl) wd.heap.size Al k cl (elCells A) rfl (HTK2.out.below ((Below.refl _ _).alloc (Nat.le_refl _) _)) one.out (by omega) (by omega) (by simp) ?_; intro v1 w2 hO hgr hat)
          have hO' : w2.ownsRow wd.heap.size 35 4 v1 k (elCells A) := by simpa using hO
          have hW2 : Below wd.heap.size wd w2 := ((Below.refl _ _).alloc (Nat.le_refl _) _).grown hgr (by simp) (fun b hb => by simp [Value.ownBlock] at hb; omega)
          have HO2 := Lib.hid hO'; have HW2 := Lib.hid hW2
          clear hO hO' hgr hat hW2 q0 q1 q2 q3 q4 p0 p1 p2
          have HBX2 := Lib.hid (blk_below HBX4.out HW2.out zW)
          have HB2 := Lib.hid (HB4.out.trans (HW2.out.mono HB4.out.size))
          obtain ⟨q0, q1, q2, q3, q4⟩ := cells4 HBX2.out
          have hkl : r.key.length ≤ 1099511627776 := by have := HR.out; simp [rightN] at this; omega
          have hvl : r.val.length ≤ 1099511627776 := by have := HR.out; simp [rightN] at this; omega
          go_wp2_with fail
          refine (copy_ref _ _ r _ (HK.out.up HB2.out) (HV.out.up HB2.out) hkl hvl).mono ?_
          rintro e w3 ⟨A5, c5, A6, c6, rfl, hm1, hm2, hw3⟩
          clear q0 q1 q2 q3 q4
          have HO3 := Lib.hid (own_below HO2.out hw3)
          have HW3 := Lib.hid (HW2.out.trans (hw3.mono HW2.out.size))
          have HM1 := Lib.hid (hm1.move (B := wd.heap.size) HW2.out.size (Nat.le_refl _) (fun _ _ => rfl)); have HM2 := Lib.hid (hm2.move (B := wd.heap.size) HW2.out.size (Nat.le_refl _) (fun _ _ => rfl))
          clear hm1 hm2 hw3 HO2 HBX2 HB2 HW2
          have H1c : Hid (∀ u ∈ (#[.slice A5 r.key.length c5, .int .i64 r.seq, .bool r.del, .slice A6 r.val.length c6] : Array Value).toList, u.oneCell' = true) := by intro u hu; simp at hu; rcases hu with rfl | rfl | rfl | rfl <;> rfl
          have s3 : wd.heap.size ≤ w3.heap.size := HW3.out.size
          go_upto_region 11 with (at_builtin; refine wpList_app rfl (.tmp 77) (.tmp 80) _ rfl wd.heap.size 35 i0 _ 4 64 Try.underlying28 hi'.out hz0 hz1 hz2 rfl (by omega) _ _ _ rfl (HO3.out.alloc _) _ (some ⟨w3.heap.size, 0, none⟩) 1 1 _ rfl (Rd.fresh w3 #[.slice A5 r.key.length c5, .int .i64 r.seq, .bool r.del, .slice A6 r.val.length c6] 35 1 4 rfl) H1c.out (by omega) (by omega) (by simp; omega) ?_; intro v2 w4 hO hgr hat)
          have hG4 := row_grow HO3.out HW3.out ((Below.refl _ _).alloc (Nat.le_refl _) _) hgr (Nat.le_refl _)
          have HO4 : Hid (w4.ownsRow wd.heap.size 35 4 v2 (k + 1) (elCells (A ++ [⟨.slice A5 r.key.length c5, .slice A6 r.val.length c6, r⟩]))) := by show World.ownsRow _ _ _ _ _ _ _; rw [elCells_app]; exact hO
          have HW4 := Lib.hid hG4.1
          have HM41 := Lib.hid (HM1.out.moveT hG4.2.2 hG4.2.1)
          have HM42 := Lib.hid (HM2.out.moveT hG4.2.2 hG4.2.1)
          clear hO hgr hat hG4 HO3 HW3 HM1 HM2 s3
          have HS5 := Lib.hid (HS4.out.keep HW4.out.size (fun b hb => HW4.out.block b (HS4.out.lt b hb)))
          obtain ⟨lv, hbox, hrow⟩ := HS5.out.box
          have hbox5 := blk_below HBOX.out HW4.out zR
          have HBOX5 := Lib.hid hbox5
          obtain ⟨p0, p1, p2⟩ := cells2 hbox5
          rw [HN.out] at p0
          clear hbox hrow hbox5
          have hRd4 := HRD.out.below HW4.out
          have hdr := hRd4.drop (k := k) (c := cl) (by rw [HN.out]; exact hAN) (by rw [HN.out]; exact hcap)
          rw [elCells_drop, HN.out, ← HKL.out, List.drop_left, HKL.out] at hdr
          have HDR := Lib.hid hdr
          have oneB : Hid (∀ u ∈ elCells B, u.oneCell' = true) := el_one (w := wd) (U := V) (fun q hq => HS4.out.els q (by simp [hq]))
          clear hRd4 hdr
          go_cut [] from 82 to 92 (fun wc => PutEnd wd R (N + 1) (A ++ (⟨.slice A5 r.key.length c5, .slice A6 r.val.length c6, r⟩ : El) :: B) (.slice A5 r.key.length c5) (.slice A6 r.val.length c6) r wc)
          case first =>
            by_cases hck : cl = k
            · have hNk : N = k := by omega
              rw [if_pos hck] at HDR
              rw [hNk] at HDR p0
              rw [hck] at p0
              have ENK := Lib.hid hNk
              clear hNk hck i2 i3
              go_wp2_with (at_builtin; refine wpList_app rfl (.tmp 83) (.tmp 89) _ rfl wd.heap.size 35 i0 _ 4 64 Try.underlying28 hi'.out hz0 hz1 hz2 rfl (by omega) _ _ _ rfl HO4.out _ Al (k - k) (k - k) (elCells B) (by simp; rfl) HDR.out oneB.out (by omega) (by omega) HW4.out.size ?_; intro v3 w5 hO hgr hat
                           have hG5 := row_grow HO4.out HW4.out (Below.refl _ _) hgr (Nat.le_refl _)
                           have hO5 : w5.ownsRow wd.heap.size 35 4 v3 (N + 1) (elCells (A ++ (⟨.slice A5 r.key.length c5, .slice A6 r.val.length c6, r⟩ : El) :: B)) := put_len hO (by have := ENK.out; omega)
                           clear hO hgr hat
                           obtain ⟨A9, c9, rfl, _⟩ := own_form hO5
                           have HO5 := Lib.hid hO5; have HG5 := Lib.hid hG5
                           clear hO5 hG5
                           have hb5 := blk_below HBOX.out HG5.out.1 zR
                           obtain ⟨x0, x1, x2⟩ := cells2 hb5
                           clear hb5)
              go_meet
              exact ⟨A9, c9, w5, rfl, HG5.out.1, HO5.out, HM41.out.moveT HG5.out.2.2 HG5.out.2.1, HM42.out.moveT HG5.out.2.2 HG5.out.2.1⟩
            · rw [if_neg hck] at HDR
              have hck' : ¬ (cl : Int) = (k : Int) := by omega
              go_wp2_with (at_builtin; refine wpList_app rfl (.tmp 83) (.tmp 89) _ rfl wd.heap.size 35 i0 _ 4 64 Try.underlying28 hi'.out hz0 hz1 hz2 rfl (by omega) _ _ _ rfl HO4.out _ (Al.map (·.add (k * 4))) (N - k) (cl - k) (elCells B) rfl HDR.out oneB.out (by omega) (by omega) HW4.out.size ?_; intro v3 w5 hO hgr hat
                           have hG5 := row_grow HO4.out HW4.out (Below.refl _ _) hgr (Nat.le_refl _)
                           have hO5 : w5.ownsRow wd.heap.size 35 4 v3 (N + 1) (elCells (A ++ (⟨.slice A5 r.key.length c5, .slice A6 r.val.length c6, r⟩ : El) :: B)) := put_len hO (by omega)
                           clear hO hgr hat
                           obtain ⟨A9, c9, rfl, _⟩ := own_form hO5
                           have HO5 := Lib.hid hO5; have HG5 := Lib.hid hG5
                           clear hO5 hG5
                           have hb5 := blk_below HBOX.out HG5.out.1 zR
                           obtain ⟨x0, x1, x2⟩ := cells2 hb5
                           clear hb5)
              go_meet
              exact ⟨A9, c9, w5, rfl, HG5.out.1, HO5.out, HM41.out.moveT HG5.out.2.2 HG5.out.2.1, HM42.out.moveT HG5.out.2.2 HG5.out.2.1⟩
          case rest =>
            obtain ⟨A9, c9, w5, rfl, h5, ho, hm1, hm2⟩ := hcut
            have H5 := Lib.hid h5; have HO := Lib.hid ho; have HM1 := Lib.hid hm1; have HM2 := Lib.hid hm2
            have hb5 := blk_set (blk_below HBOX.out h5 zR) 0 (.slice A9 (N + 1) c9)
            clear h5 ho hm1 hm2 p0 p1 p2
            have HB5 := Lib.hid hb5
            obtain ⟨p0, p1, p2⟩ := cells2 hb5
            clear hb5
            generalize hwe : w5.setCell ⟨R, 0, none⟩ (.slice A9 (N + 1) c9) = we at *
            have HWE := Lib.hid hwe; clear hwe
            obtain ⟨h, hlh⟩ : ∃ h, levS draw = h := ⟨_, rfl⟩
            have HLH := Lib.hid hlh; clear hlh
            go_wp2_with fail
            go_region_with (go_at_call 30; refine (levels_ref draw _ hd0).mono ?_; rintro e w6 ⟨rfl, rfl⟩; rw [HLH.out])
            all_goals
              have fin := rput_end (h := h) HS4.out HB4.out H5.out HO.out HM1.out HM2.out HN.out HBOX.out
              rw [HWE.out] at fin
              have FIN := Lib.hid fin; clear fin
              go_wp2_with fail
              go_ret
              exact ⟨0, A ++ (⟨.slice A5 r.key.length c5, .slice A6 r.val.length c6, r⟩ : El) :: B, max high h, rfl, by rw [← HLH.out]; exact rput_new HR.out HA.out HB.out HX.out rfl, FIN.out.1, FIN.out.2⟩
end Go.Proofs.Ytpgbinijocbfmaa
