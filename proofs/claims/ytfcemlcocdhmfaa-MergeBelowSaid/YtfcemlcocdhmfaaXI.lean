/- The reference's two and All. -/
import Derived.Test.YtfcemlcocdhmfaaHR
import Derived.Test.YtfcemlcocdhmfaaHO
/- One record of a row, whole; and an append of one record. -/
namespace Go.Proofs.Ytfcemlcocdhmfaa
open Go.RowKit Go
set_option linter.unusedVariables false
set_option linter.unusedSimpArgs false

theorem drop_at {xs : List El} {i : Nat} (h : i < xs.length) : xs.drop i = xs[i] :: xs.drop (i + 1) := List.drop_eq_getElem_cons h
abbrev elOf (A : Option Addr) (c : Nat) (A' : Option Addr) (c' : Nat) (r : Rc) : El := ⟨.slice A r.key.length c, .slice A' r.val.length c', r⟩
abbrev elRow (A : Option Addr) (c : Nat) (A' : Option Addr) (c' : Nat) (r : Rc) : Array Value := #[.slice A r.key.length c, .int .i64 r.seq, .bool r.del, .slice A' r.val.length c']
/-- One record of the row, with its cells. -/
theorem RowB.pick {w : World} {A : Option Addr} {n c : Nat} {qs : List El} (h : RowB w (.slice A n c) qs) {k : Nat} (hk : k < qs.length) :
    ∃ (b off : Nat) (Ak : Option Addr) (ck : Nat) (Av : Option Addr) (cv : Nat) (r : Rc), A = some ⟨b, off, none⟩ ∧ b < w.heap.size ∧ qs[k] = elOf Ak ck Av cv r ∧
      w.cell? ⟨b, off + k * 4, none⟩ = some (.slice Ak r.key.length ck) ∧ w.cell? ⟨b, off + k * 4 + 1, none⟩ = some (.int .i64 r.seq) ∧ w.cell? ⟨b, off + k * 4 + 2, none⟩ = some (.bool r.del) ∧ w.cell? ⟨b, off + k * 4 + 3, none⟩ = some (.slice Av r.val.length cv) ∧
      Bs w w.heap.size (.slice Ak r.key.length ck) r.key ∧ Bs w w.heap.size (.slice Av r.val.length cv) r.val := by
  obtain ⟨b, off, e, hb, h0, h1, h2, h3⟩ := h.at_ hk
  obtain ⟨b0, b1⟩ := h.bs _ (List.getElem_mem hk)
  obtain ⟨Ak, ck, e0, x0⟩ := id b0
  obtain ⟨Av, cv, e1, x1⟩ := id b1
  rw [e0] at h0 b0; rw [e1] at h3 b1
  refine ⟨b, off, Ak, ck, Av, cv, qs[k].r, e, hb, ?_, h0, h1, h2, h3, b0, b1⟩
  unfold elOf; rw [← e0, ← e1]
/-- A row of records of the call's own, whose texts are others'. -/
structure OutB (w : World) (B : Nat) (v : Value) (qs : List El) : Prop where
  own : w.ownsRow B 40 4 v qs.length (elCells qs)
theorem OutB.nil (w : World) (B : Nat) : OutB w B (.slice none 0 0) [] := ⟨World.ownsRow_nil _ _ _ _⟩
theorem OutB.below {w w' : World} {B : Nat} {v : Value} {qs : List El} (h : OutB w B v qs) (hb : Below w.heap.size w w') : OutB w' B v qs := ⟨own_below h.own hb⟩
theorem OutB.drewN {w : World} {B : Nat} {v : Value} {qs : List El} (h : OutB w B v qs) (n : Nat) : OutB (w.drewN n) B v qs := ⟨h.own⟩
theorem OutB.row {w w0 : World} {v : Value} {qs : List El} (h : OutB w w0.heap.size v qs) (hb : Below w0.heap.size w0 w) (hq : ∀ q ∈ qs, Bs w0 w0.heap.size q.kv q.r.key ∧ Bs w0 w0.heap.size q.vv q.r.val) : RowB w v qs := by
  have hu := RowU.of_own h.own
  obtain ⟨A, c, rfl⟩ := hu.form
  obtain ⟨h1, h2⟩ := hu.rd (B := w.heap.size) fun b hb => hb.2
  exact ⟨A, c, rfl, h2, h1, fun q hq' => ⟨(hq q hq').1.up hb, (hq q hq').2.up hb⟩⟩
theorem OutB.form {w : World} {B : Nat} {v : Value} {qs : List El} (h : OutB w B v qs) : ∃ A c, v = .slice A qs.length c := by
  obtain ⟨A, c, e, _⟩ := own_form h.own; exact ⟨A, c, e⟩
theorem rec_parts : ∃ i0, Try.prog.info? 40 = some i0 ∧ ∃ z, i0.zero = some z ∧ z.cells.size = 4 ∧ i0.size = 4 ∧ i0.bytes = 64 := by
  obtain ⟨i0, hi, hz0, hz1, hz2⟩ := info_parts rec_info
  exact ⟨i0, hi, _, hz0, rfl, hz1, hz2⟩
/-- One record more, laid first in a block of its own. -/
theorem app_el {ops : Array Oper} {rest : List Oper} {o : Oper} {a : Act} {Q : Exit → Act → World → Prop} (hgd : o.guard = none) (s x : Operand)
    (ho : o.op = .call { callee := .builtin .append, args := #[s, x], argTypes := #[25, 25] })
    (w0 w : World) (B : Nat) (v : Value) (os : List El) (A : Option Addr) (c : Nat) (A' : Option Addr) (c' : Nat) (r : Rc) (hs : a.eval s = v) (hx : a.eval x = .slice (some ⟨w.heap.size, 0, none⟩) 1 1)
    (hO : OutB w B v os) (hB : Below B w0 w) (hb : B ≤ w0.heap.size) (hl : os.length ≤ 2000000000)
    (h : ∀ v' w', OutB w' B v' (os ++ [elOf A c A' c' r]) → Below B w0 w' → wpList Try.prog ops Q rest (a.put o.dst v') w') :
    wpList Try.prog ops Q (o :: rest) a (w.alloc (.cells (elRow A c A' c' r) 40)) := by
  obtain ⟨i0, hi, z, hz0, hz, hz1, hz2⟩ := rec_parts
  have hbw : B ≤ w.heap.size := Nat.le_trans hb hB.size
  have hbw' : B ≤ (w.alloc (.cells (elRow A c A' c' r) 40)).heap.size := Nat.le_trans hbw (by simp)
  have ho' : (w.alloc (.cells (elRow A c A' c' r) 40)).ownsRow B 40 4 v os.length (elCells os) := World.ownsRow.alloc hO.own _
  refine wpList_app hgd s x _ ho B 40 i0 z 4 64 Try.underlying25 hi hz0 hz1 hz2 hz (by omega) v os.length (elCells os) hs ho' _ _ 1 1 _ hx (Rd.fresh w (elRow A c A' c' r) 40 1 4 rfl) rec_one (by unfold maxLen; omega) (by omega) hbw' ?_
  intro v4 w4 hO4 hg _
  refine h v4 w4 ⟨?_⟩ (own_app_below (hB.alloc hbw _) hbw' ho' hg)
  rw [elCells_app, List.length_append]
  simpa [elCells, El.cells] using hO4
end Go.Proofs.Ytfcemlcocdhmfaa
/- Two lists in one: plain. -/
namespace Go.Proofs.Ytfcemlcocdhmfaa
open Go.RowKit Go
set_option linter.unusedVariables false
set_option linter.unusedSimpArgs false
def oE (a b : El) : Int := ord2 a.r b.r
theorem two_map : ∀ (xs bs : List El), (two oE xs bs).map El.r = two ord2 (xs.map El.r) (bs.map El.r)
  | [], bs => by simp [two]
  | a :: xs, [] => by simp [two]
  | a :: xs, b :: bs => by
    rw [two, List.map_cons, List.map_cons, two]
    by_cases h1 : oE a b < 0
    · rw [if_pos h1, if_pos (show ord2 a.r b.r < 0 from h1), List.map_cons, two_map xs (b :: bs)]; rfl
    · rw [if_neg h1, if_neg (show ¬ ord2 a.r b.r < 0 from h1)]
      by_cases h2 : oE b a < 0
      · rw [if_pos h2, if_pos (show ord2 b.r a.r < 0 from h2), List.map_cons, two_map (a :: xs) bs]; rfl
      · rw [if_neg h2, if_neg (show ¬ ord2 b.r a.r < 0 from h2), List.map_cons, two_map xs bs]
termination_by xs bs => xs.length + bs.length
theorem two_sub : ∀ (xs bs : List El), ∀ q ∈ two oE xs bs, q ∈ xs ∨ q ∈ bs
  | [], bs, q, h => by rw [two] at h; exact .inr h
  | a :: xs, [], q, h => by rw [two] at h; exact .inl h; simp
  | a :: xs, b :: bs, q, h => by
    rw [two] at h
    split at h
    · rcases List.mem_cons.1 h with e | h
      · exact .inl (e ▸ List.mem_cons_self)
      · rcases two_sub xs (b :: bs) q h with h | h
        · exact .inl (List.mem_cons_of_mem _ h)
        · exact .inr h
    · split at h
      · rcases List.mem_cons.1 h with e | h
        · exact .inr (e ▸ List.mem_cons_self)
        · rcases two_sub (a :: xs) bs q h with h | h
          · exact .inl h
          · exact .inr (List.mem_cons_of_mem _ h)
      · rcases List.mem_cons.1 h with e | h
        · exact .inl (e ▸ List.mem_cons_self)
        · rcases two_sub xs bs q h with h | h
          · exact .inl (List.mem_cons_of_mem _ h)
          · exact .inr (List.mem_cons_of_mem _ h)
termination_by xs bs => xs.length + bs.length
theorem two_len : ∀ (xs bs : List El), (two oE xs bs).length ≤ xs.length + bs.length
  | [], bs => by simp [two]
  | a :: xs, [] => by simp [two]
  | a :: xs, b :: bs => by
    rw [two]
    have h1 := two_len xs (b :: bs); have h2 := two_len (a :: xs) bs; have h3 := two_len xs bs
    simp only [List.length_cons] at h1 h2 ⊢
    split
    · simp only [List.length_cons]; omega
    · split <;> simp only [List.length_cons] <;> omega
termination_by xs bs => xs.length + bs.length
theorem two_nilr (xs : List El) : two oE xs [] = xs := by cases xs <;> simp [two]
theorem below_drewNr (w : World) (n : Nat) : Below w.heap.size w (w.drewN n) := ⟨rfl, rfl, rfl, Nat.le_refl _, fun _ _ => rfl⟩
end Go.Proofs.Ytfcemlcocdhmfaa
/- The reference's two lists in one. -/
namespace Go.Proofs.Ytfcemlcocdhmfaa
open Go.RowKit Go
set_option linter.unusedVariables false
set_option linter.unusedSimpArgs false
theorem isRc_up {w w' : World} {v : Value} {r : Rc} (h : IsRc w w.heap.size v r) (hb : Below w.heap.size w w') : IsRc w' w'.heap.size v r := by
  obtain ⟨kv, vv, e, h1, h2⟩ := h; exact ⟨kv, vv, e, h1.up hb, h2.up hb⟩
set_option maxHeartbeats 40000000 in
set_option maxRecDepth 100000 in
theorem two_any (va vb : Value) (xs bs : List El) (w : World) (ha : RowB w va xs) (hb : RowB w vb bs) (hla : xs.length ≤ 1000000000) (hlb : bs.length ≤ 1000000000) :
    Calls Try.prog 27 #[va, vb] w fun e w' => (∃ v, e = .returned v ∧ OutB w' w.heap.size v (two oE xs bs)) ∧ Below w.heap.size w w' := by
  obtain ⟨A, ca, rfl⟩ := ha.form
  obtain ⟨A', cb, rfl⟩ := hb.form
  have HA0 := Lib.hid ha; have HB0 := Lib.hid hb
  obtain ⟨na, hna⟩ : ∃ n, xs.length = n := ⟨_, rfl⟩
  obtain ⟨nb, hnb⟩ : ∃ n, bs.length = n := ⟨_, rfl⟩
  have HNA := Lib.hid hna; have HNB := Lib.hid hnb
  rw [hna] at HA0 hla; rw [hnb] at HB0 hlb
  rw [hna, hnb]
  clear ha hb hna hnb
  go_enter Try.func27, Try.ntmps27
  go_wp2_with fail
  go_loopg [5, 6, 7] (na + nb) (fun q vo vi vk wr => ∃ (i k : Nat) (os : List El), q = (na - i) + (nb - k) ∧ i ≤ na ∧ k ≤ nb ∧ vi = .int .i64 i ∧ vk = .int .i64 k ∧ os ++ two oE (xs.drop i) (bs.drop k) = two oE xs bs ∧ os.length ≤ i + k ∧ OutB wr w.heap.size vo os ∧ Below w.heap.size w wr)
  case atStart => exact ⟨0, 0, [], by omega, by omega, by omega, rfl, rfl, rfl, by simp, OutB.nil _ _, Below.refl _ _⟩
  case round =>
    obtain ⟨i, k, os, hq, hi, hk, rfl, rfl, hos, hol, how, hbw⟩ := hrel
    have HQ := Lib.hid hq; have HOS := Lib.hid hos; have HOL := Lib.hid hol; have HOW := Lib.hid how; have HBW := Lib.hid hbw
    have HUA := Lib.hid (HA0.out.up hbw); have HUB := Lib.hid (HB0.out.up hbw)
    obtain ⟨Ao, co, rfl⟩ := how.form
    clear hq hos hol how hbw
    have j1 : (0 : Int) ≤ (i : Int) := by omega
    have j2 : (0 : Int) ≤ (k : Int) := by omega
    by_cases h1 : i < na
    · have hia : i < xs.length := by rw [HNA.out]; exact h1
      have j3 : (i : Int) < (na : Int) := by omega
      have g1 : ¬ ((i : Int) = (na : Int)) := by omega
      by_cases h2 : k < nb
      · have hib : k < bs.length := by rw [HNB.out]; exact h2
        have j4 : (k : Int) < (nb : Int) := by omega
        have g2 : ¬ ((k : Int) = (nb : Int)) := by omega
        have g3 : ((k : Int) == (nb : Int)) = false := by simp; omega
        have g4 : ((i : Int) == (na : Int)) = false := by simp; omega
        have g5 : decide ((i : Int) < (na : Int)) = true := by simp; omega
        obtain ⟨ba, fa, Ka, ka, Va, va, ra, ea, hba, Ea, a0, a1, a2, a3, ak, av⟩ := HUA.out.pick hia
        subst ea
        have DA : Hid (xs.drop i = elOf Ka ka Va va ra :: xs.drop (i + 1)) := Lib.hid (by rw [drop_at hia, Ea])
        have ISA : Hid (IsRc wr wr.heap.size (.agg (elRow Ka ka Va va ra)) ra) := Lib.hid ⟨_, _, rfl, ak, av⟩
        clear Ea ak av
        obtain ⟨bb, fb, Kb, kb, Vb, vb, rb, eb, hbb, Eb, b0, b1, b2, b3, bk, bv⟩ := HUB.out.pick hib
        subst eb
        have DB : Hid (bs.drop k = elOf Kb kb Vb vb rb :: bs.drop (k + 1)) := Lib.hid (by rw [drop_at hib, Eb])
        have ISB : Hid (IsRc wr wr.heap.size (.agg (elRow Kb kb Vb vb rb)) rb) := Lib.hid ⟨_, _, rfl, bk, bv⟩
        clear Eb bk bv
        go_wp2_with fail
        go_cut [29] from 30 to 50 (fun v29 wz => v29 = .bool (decide (ord2 ra rb < 0)) ∧ Below wr.heap.size wr wz)
        case first =>
          go_region_held3 (fun w' => w'.cell? ⟨ba, fa + i * 4, none⟩ = some (.slice Ka ra.key.length ka) ∧ w'.cell? ⟨ba, fa + i * 4 + 1, none⟩ = some (.int .i64 ra.seq) ∧ w'.cell? ⟨ba, fa + i * 4 + 2, none⟩ = some (.bool ra.del) ∧ w'.cell? ⟨ba, fa + i * 4 + 3, none⟩ = some (.slice Va ra.val.length va) ∧ w'.cell? ⟨bb, fb + k * 4, none⟩ = some (.slice Kb rb.key.length kb) ∧ w'.cell? ⟨bb, fb + k * 4 + 1, none⟩ = some (.int .i64 rb.seq) ∧ w'.cell? ⟨bb, fb + k * 4 + 2, none⟩ = some (.bool rb.del) ∧ w'.cell? ⟨bb, fb + k * 4 + 3, none⟩ = some (.slice Vb rb.val.length vb))
            ((first | (with_reducible exact ⟨a0, a1, a2, a3, b0, b1, b2, b3⟩) | exact ⟨a0, a1, a2, a3, b0, b1, b2, b3⟩ | exact ⟨(hcB _ hba).trans a0, (hcB _ hba).trans a1, (hcB _ hba).trans a2, (hcB _ hba).trans a3, (hcB _ hbb).trans b0, (hcB _ hbb).trans b1, (hcB _ hbb).trans b2, (hcB _ hbb).trans b3⟩))
            ((first
                | (go_at_call 29; refine (ahead_any ra rb _ _ (wr).drew (ISA.out) (ISB.out)).mono ?_; rintro e w2 ⟨rfl, hw2⟩; have HW2 : Hid (Below (wr).heap.size (wr) w2) := Lib.hid ((Below.refl _ _).drew.trans hw2); have hcB := fun (p : Addr) (hp : p.block < (wr).heap.size) => HW2.out.cell hp; clear hw2)))
          all_goals go_wp2_with fail
          all_goals go_meet
          all_goals exact ⟨rfl, HW2.out⟩
        case rest =>
          obtain ⟨rfl, hbz⟩ := hcut
          have hwz := hbz.size
          have HOY := Lib.hid (HOW.out.below hbz); have HBY := Lib.hid (HBW.out.trans (hbz.mono HBW.out.size))
          have ISAY := Lib.hid (isRc_up ISA.out hbz); have ISBY := Lib.hid (isRc_up ISB.out hbz)
          obtain ⟨a0, a1, a2, a3⟩ : _ ∧ _ ∧ _ ∧ _ := ⟨(hbz.cell hba).trans a0, (hbz.cell hba).trans a1, (hbz.cell hba).trans a2, (hbz.cell hba).trans a3⟩
          obtain ⟨b0, b1, b2, b3⟩ : _ ∧ _ ∧ _ ∧ _ := ⟨(hbz.cell hbb).trans b0, (hbz.cell hbb).trans b1, (hbz.cell hbb).trans b2, (hbz.cell hbb).trans b3⟩
          have hba := Nat.lt_of_lt_of_le hba hbz.size
          have hbb := Nat.lt_of_lt_of_le hbb hbz.size
          clear hbz hwz
          have hdec : ord2 ra rb < 0 ∨ ¬ ord2 ra rb < 0 := Decidable.em _
          rcases hdec with hd | hd
          · have HD := Lib.hid hd
            rw [decide_eq_true hd]
            clear hd
            go_upto_if 29 with fail
            go_wp2_with (at_builtin; go_loud (refine app_el rfl (.tmp 51) (.tmp 56) rfl w (wc) w.heap.size _ os Ka ka Va va ra rfl rfl HOY.out HBY.out (Nat.le_refl _) (by have := HOL.out; omega) ?_); intro v4 w4 hO4 hB4
                         have HO4 := Lib.hid hO4; have HB4 := Lib.hid hB4
                         clear hO4 hB4)
            go_roundg ((na - (i + 1)) + (nb - (k)))
            case measure => have := HQ.out; omega
            case rel => exact ⟨i + 1, k, os ++ [elOf Ka ka Va va ra], rfl, by omega, by omega, by go_num, by go_num, by rw [← HOS.out, List.append_assoc]; congr 1; rw [DA.out, DB.out, two, if_pos (show oE (elOf Ka ka Va va ra) (elOf Kb kb Vb vb rb) < 0 from HD.out)]; rfl, by have := HOL.out; simp; omega, HO4.out, HB4.out⟩
          · have HD := Lib.hid hd
            rw [decide_eq_false hd]
            clear hd
            go_upto_region 11 with fail
            go_cut [60] from 61 to 75 (fun v60 wy => v60 = .bool (decide (ord2 rb ra < 0)) ∧ Below wc.heap.size wc wy)
            case first =>
              go_region_held3 (fun w' => w'.cell? ⟨bb, fb + k * 4, none⟩ = some (.slice Kb rb.key.length kb) ∧ w'.cell? ⟨bb, fb + k * 4 + 1, none⟩ = some (.int .i64 rb.seq) ∧ w'.cell? ⟨bb, fb + k * 4 + 2, none⟩ = some (.bool rb.del) ∧ w'.cell? ⟨bb, fb + k * 4 + 3, none⟩ = some (.slice Vb rb.val.length vb) ∧ w'.cell? ⟨ba, fa + i * 4, none⟩ = some (.slice Ka ra.key.length ka) ∧ w'.cell? ⟨ba, fa + i * 4 + 1, none⟩ = some (.int .i64 ra.seq) ∧ w'.cell? ⟨ba, fa + i * 4 + 2, none⟩ = some (.bool ra.del) ∧ w'.cell? ⟨ba, fa + i * 4 + 3, none⟩ = some (.slice Va ra.val.length va))
                ((first | (with_reducible exact ⟨b0, b1, b2, b3, a0, a1, a2, a3⟩) | exact ⟨b0, b1, b2, b3, a0, a1, a2, a3⟩ | exact ⟨(hcB _ hbb).trans b0, (hcB _ hbb).trans b1, (hcB _ hbb).trans b2, (hcB _ hbb).trans b3, (hcB _ hba).trans a0, (hcB _ hba).trans a1, (hcB _ hba).trans a2, (hcB _ hba).trans a3⟩))
                ((first
                    | (go_at_call 29; refine (ahead_any rb ra _ _ (wc).drew (ISBY.out) (ISAY.out)).mono ?_; rintro e w2 ⟨rfl, hw2⟩; have HW2 : Hid (Below (wc).heap.size (wc) w2) := Lib.hid ((Below.refl _ _).drew.trans hw2); have hcB := fun (p : Addr) (hp : p.block < (wc).heap.size) => HW2.out.cell hp; clear hw2)))
              all_goals go_wp2_with fail
              all_goals go_meet
              all_goals exact ⟨rfl, HW2.out⟩
            case rest =>
              obtain ⟨rfl, hbz⟩ := hcut
              have HOZ := Lib.hid (HOY.out.below hbz); have HBZ := Lib.hid (HBY.out.trans (hbz.mono HBY.out.size))
              obtain ⟨a0, a1, a2, a3⟩ : _ ∧ _ ∧ _ ∧ _ := ⟨(hbz.cell hba).trans a0, (hbz.cell hba).trans a1, (hbz.cell hba).trans a2, (hbz.cell hba).trans a3⟩
              obtain ⟨b0, b1, b2, b3⟩ : _ ∧ _ ∧ _ ∧ _ := ⟨(hbz.cell hbb).trans b0, (hbz.cell hbb).trans b1, (hbz.cell hbb).trans b2, (hbz.cell hbb).trans b3⟩
              clear hbz
              have hdec : ord2 rb ra < 0 ∨ ¬ ord2 rb ra < 0 := Decidable.em _
              rcases hdec with hd | hd
              · have HE := Lib.hid hd
                rw [decide_eq_true hd]
                clear hd
                go_upto_if 60 with fail
                go_wp2_with (at_builtin; go_loud (refine app_el rfl (.tmp 76) (.tmp 81) rfl w (wc) w.heap.size _ os Kb kb Vb vb rb rfl rfl HOZ.out HBZ.out (Nat.le_refl _) (by have := HOL.out; omega) ?_); intro v4 w4 hO4 hB4
                             have HO4 := Lib.hid hO4; have HB4 := Lib.hid hB4
                             clear hO4 hB4)
                go_roundg ((na - (i)) + (nb - (k + 1)))
                case measure => have := HQ.out; omega
                case rel => exact ⟨i, k + 1, os ++ [elOf Kb kb Vb vb rb], rfl, by omega, by omega, by go_num, by go_num, by rw [← HOS.out, List.append_assoc]; congr 1; rw [DA.out, DB.out, two, if_neg (show ¬ oE (elOf Ka ka Va va ra) (elOf Kb kb Vb vb rb) < 0 from (show ¬ ord2 ra rb < 0 by have := HD.out; omega)), if_pos (show oE (elOf Kb kb Vb vb rb) (elOf Ka ka Va va ra) < 0 from HE.out)]; rfl, by have := HOL.out; simp; omega, HO4.out, HB4.out⟩
              · have HE := Lib.hid hd
                rw [decide_eq_false hd]
                clear hd
                go_upto_if 60 with fail
                go_wp2_with (at_builtin; go_loud (refine app_el rfl (.tmp 18) (.tmp 23) rfl w (wc) w.heap.size _ os Ka ka Va va ra rfl rfl HOZ.out HBZ.out (Nat.le_refl _) (by have := HOL.out; omega) ?_); intro v4 w4 hO4 hB4
                             have HO4 := Lib.hid hO4; have HB4 := Lib.hid hB4
                             clear hO4 hB4)
                go_roundg ((na - (i + 1)) + (nb - (k + 1)))
                case measure => have := HQ.out; omega
                case rel => exact ⟨i + 1, k + 1, os ++ [elOf Ka ka Va va ra], rfl, by omega, by omega, by go_num, by go_num, by rw [← HOS.out, List.append_assoc]; congr 1; rw [DA.out, DB.out, two, if_neg (show ¬ oE (elOf Ka ka Va va ra) (elOf Kb kb Vb vb rb) < 0 from (show ¬ ord2 ra rb < 0 by have := HD.out; omega)), if_neg (show ¬ oE (elOf Kb kb Vb vb rb) (elOf Ka ka Va va ra) < 0 from (show ¬ ord2 rb ra < 0 by have := HE.out; omega))]; rfl, by have := HOL.out; simp; omega, HO4.out, HB4.out⟩
      · have h2' : k = nb := by omega
        subst h2'
        obtain ⟨ba, fa, Ka, ka, Va, va, ra, ea, hba, Ea, a0, a1, a2, a3, ak, av⟩ := HUA.out.pick hia
        subst ea
        have DA : Hid (xs.drop i = elOf Ka ka Va va ra :: xs.drop (i + 1)) := Lib.hid (by rw [drop_at hia, Ea])
        have ISA : Hid (IsRc wr wr.heap.size (.agg (elRow Ka ka Va va ra)) ra) := Lib.hid ⟨_, _, rfl, ak, av⟩
        clear Ea ak av
        go_wp2_with fail
        go_quiet (fail)
        have HOD := Lib.hid (HOW.out.drewN nq); have HBD := Lib.hid (below_drewN HBW.out nq)
        go_wp2_with (at_builtin; go_loud (refine app_el rfl (.tmp 51) (.tmp 56) rfl w (wr.drewN nq) w.heap.size _ os Ka ka Va va ra rfl rfl HOD.out HBD.out (Nat.le_refl _) (by have := HOL.out; omega) ?_); intro v4 w4 hO4 hB4
                     have HO4 := Lib.hid hO4; have HB4 := Lib.hid hB4
                     clear hO4 hB4)
        go_roundg ((na - (i + 1)) + (k - (k)))
        case measure => have := HQ.out; omega
        case rel => exact ⟨i + 1, k, os ++ [elOf Ka ka Va va ra], rfl, by omega, by omega, by go_num, by go_num, by rw [← HOS.out, List.append_assoc]; congr 1; rw [List.drop_of_length_le (i := k) (by rw [HNB.out]; exact Nat.le_refl _), two_nilr, two_nilr, DA.out]; rfl, by have := HOL.out; simp; omega, HO4.out, HB4.out⟩
    · have h1' : i = na := by omega
      subst h1'
      have n1 : ¬ ((i : Int) < (i : Int)) := by omega
      by_cases h2 : k < nb
      · have hib : k < bs.length := by rw [HNB.out]; exact h2
        have j4 : (k : Int) < (nb : Int) := by omega
        have g2 : ¬ ((k : Int) = (nb : Int)) := by omega
        have g3 : ((k : Int) == (nb : Int)) = false := by simp; omega
        have g4 : decide ((i : Int) < (i : Int)) = false := by simp
        obtain ⟨bb, fb, Kb, kb, Vb, vb, rb, eb, hbb, Eb, b0, b1, b2, b3, bk, bv⟩ := HUB.out.pick hib
        subst eb
        have DB : Hid (bs.drop k = elOf Kb kb Vb vb rb :: bs.drop (k + 1)) := Lib.hid (by rw [drop_at hib, Eb])
        have ISB : Hid (IsRc wr wr.heap.size (.agg (elRow Kb kb Vb vb rb)) rb) := Lib.hid ⟨_, _, rfl, bk, bv⟩
        clear Eb bk bv
        go_wp2_with fail
        go_quiet (fail)
        generalize nq = n1
        go_wp2_with fail
        go_quiet (fail)
        have HOD := Lib.hid (HOW.out.drewN (n1 + nq)); have HBD := Lib.hid (below_drewN HBW.out (n1 + nq))
        go_wp2_with (at_builtin; go_loud (refine app_el rfl (.tmp 76) (.tmp 81) rfl w (wr.drewN (n1 + nq)) w.heap.size _ os Kb kb Vb vb rb rfl rfl HOD.out HBD.out (Nat.le_refl _) (by have := HOL.out; omega) ?_); intro v4 w4 hO4 hB4
                     have HO4 := Lib.hid hO4; have HB4 := Lib.hid hB4
                     clear hO4 hB4)
        go_roundg ((i - (i)) + (nb - (k + 1)))
        case measure => have := HQ.out; omega
        case rel => exact ⟨i, k + 1, os ++ [elOf Kb kb Vb vb rb], rfl, by omega, by omega, by go_num, by go_num, by rw [← HOS.out, List.append_assoc]; congr 1; rw [List.drop_of_length_le (i := i) (by rw [HNA.out]; exact Nat.le_refl _), DB.out]; simp [two], by have := HOL.out; simp; omega, HO4.out, HB4.out⟩
      · have h2' : k = nb := by omega
        subst h2'
        have n2 : ¬ ((k : Int) < (k : Int)) := by omega
        have HE : Hid (two oE xs bs = os) := by
          show _ = _
          rw [← HOS.out, List.drop_of_length_le (i := i) (by rw [HNA.out]; exact Nat.le_refl _), List.drop_of_length_le (i := k) (by rw [HNB.out]; exact Nat.le_refl _)]; simp [two]
        go_wp2_with fail
        go_ret
        exact ⟨⟨_, rfl, by rw [HE.out]; exact HOW.out⟩, HBW.out⟩
end Go.Proofs.Ytfcemlcocdhmfaa
/- The reference's All. -/
namespace Go.Proofs.Ytfcemlcocdhmfaa
open Go.RowKit Go
set_option linter.unusedVariables false
set_option linter.unusedSimpArgs false
theorem sum_take {α : Type} (f : α → Nat) : ∀ (l : List α) (k : Nat), ((l.take k).map f).sum ≤ (l.map f).sum
  | [], k => by simp
  | a :: l, 0 => by simp
  | a :: l, k + 1 => by
    rw [List.take_succ_cons, List.map_cons, List.map_cons, List.sum_cons, List.sum_cons]; have := sum_take f l k; omega
set_option maxHeartbeats 3200000 in
theorem refAll_any (A : Option Addr) (n c : Nat) (ls : List Lst) (w : World) (h : LstsB w A n ls) (hn : n < 1000000) (htot : (ls.map fun x => x.2.length).sum ≤ 1000000000) :
    Calls Try.prog 12 #[.slice A n c] w (Alls ls w) := by
  have H := Lib.hid h; have HN : Hid (ls.length = n) := h.1; have HTOT := Lib.hid htot
  clear h htot
  go_enter Try.func12, Try.ntmps12
  go_wp2_with fail
  go_loopg [5] n (fun q vi wr => ∃ (k : Nat), q = n - k ∧ k ≤ n ∧ vi = .int .i64 k ∧ (∀ x ∈ ls.take k, inO (recs x) = true) ∧ Below w.heap.size w wr)
  case atStart => exact ⟨0, rfl, Nat.zero_le _, rfl, by simp, Below.refl _ _⟩
  case round =>
    obtain ⟨k, hq, hk, rfl, hio, hb⟩ := hrel
    have HQ := Lib.hid hq; have HIO := Lib.hid hio; have HB := Lib.hid hb
    clear hq hio hb
    by_cases hlt : k < n
    · have hkl : k < ls.length := by rw [HN.out]; exact hlt
      obtain ⟨b, off, A', n', c', rfl, e1, e2, hc, hrow, hlen⟩ := H.out.at_ HB.out hkl
      have i1 : (0 : Int) ≤ (k : Int) := by omega
      have i2 : (k : Int) < (n : Int) := by omega
      have HTK : Hid (ls.take (k + 1) = ls.take k ++ [ls[k]]) := List.take_succ_eq_append_getElem hkl
      have HXM : Hid (ls[k] ∈ ls) := Lib.hid (List.getElem_mem hkl)
      generalize ls[k] = x at *
      obtain ⟨lv, els⟩ := x
      dsimp only at e1 e2 hrow hlen
      subst e1
      have hin := inOrder_ref (.slice A' n' c') els wr hrow hlen
      clear e2 hrow hlen
      by_cases hio : inO (els.map El.r) = true
      · rw [hio] at hin
        have HIN := Lib.hid hin; have HIO2 := Lib.hid hio
        clear hin hio
        go_wp2_with fail
        refine HIN.out.mono ?_; rintro e w1 ⟨rfl, hw1⟩
        have HB1 := Lib.hid (HB.out.trans (hw1.mono HB.out.size))
        clear hw1 hc
        go_wp2_with fail
        go_roundg (n - (k + 1))
        case measure => have := HQ.out; omega
        case rel => exact ⟨k + 1, rfl, by omega, by go_num, by
            intro x hx
            rw [HTK.out, List.mem_append, List.mem_singleton] at hx
            rcases hx with hx | hx
            · exact HIO.out x hx
            · rw [hx]; exact HIO2.out, HB1.out⟩
      · have hio' : inO (els.map El.r) = false := by simpa using hio
        rw [hio'] at hin
        have HIN := Lib.hid hin; have HIO2 := Lib.hid hio'
        clear hin hio hio'
        go_wp2_with fail
        refine HIN.out.mono ?_; rintro e w1 ⟨rfl, hw1⟩
        have HB1 := Lib.hid (HB.out.trans (hw1.mono HB.out.size))
        clear hw1 hc
        go_wp2_with fail
        go_ret2
        refine ⟨?_, HB1.out⟩
        rw [if_neg (fun h => by have := h _ HXM.out; rw [show recs _ = els.map El.r from rfl, HIO2.out] at this; exact Bool.noConfusion this)]
        rfl
    · have hkn : k = n := by omega
      subst hkn
      have HIO2 : Hid (∀ x ∈ ls, inO (recs x) = true) := Lib.hid (by have := HIO.out; rwa [List.take_of_length_le (by rw [HN.out]; exact Nat.le_refl _)] at this)
      clear HIO
      have n1 : ¬ ((k : Int) < (k : Int)) := by omega
      go_wp2_with fail
      go_loopg [4, 7] k (fun q vo vi wx => ∃ (j : Nat) (os : List El), q = k - j ∧ j ≤ k ∧ vi = .int .i64 j ∧ IsMerge ord2 (LL (ls.take j)) (os.map El.r) ∧ RowB wx vo os ∧ (∀ q ∈ os, LenR q) ∧ os.length ≤ ((ls.take j).map fun x => x.2.length).sum ∧ Below w.heap.size w wx)
      case atStart => exact ⟨0, [], rfl, Nat.zero_le _, rfl, merge_nil, ⟨none, 0, rfl, Nat.le_refl _, Rd.nil, by simp⟩, by simp, by simp, HB.out⟩
      case round =>
        obtain ⟨j, os, hq, hj, rfl, him, hrow, hl, hsum, hb⟩ := hrel
        clear HB
        have HQ := Lib.hid hq; have HIM := Lib.hid him; have HROW := Lib.hid hrow; have HLO := Lib.hid hl; have HSUM := Lib.hid hsum; have HB := Lib.hid hb
        obtain ⟨Ao, co, rfl⟩ := hrow.form
        clear hq him hrow hl hsum hb
        by_cases hlt : j < k
        · have hkl : j < ls.length := by rw [HN.out]; exact hlt
          obtain ⟨b, off, A', n', c', rfl, e1, e2, hc, hrow, hlen⟩ := H.out.at_ HB.out hkl
          have i1 : (0 : Int) ≤ (j : Int) := by omega
          have i2 : (j : Int) < (k : Int) := by omega
          have HTK : Hid (ls.take (j + 1) = ls.take j ++ [ls[j]]) := List.take_succ_eq_append_getElem hkl
          have HXM : Hid (ls[j] ∈ ls) := Lib.hid (List.getElem_mem hkl)
          have hs1 := sum_take (fun x : Lst => x.2.length) ls (j + 1)
          have hs0 := sum_take (fun x : Lst => x.2.length) ls j
          have HS2 : Hid (((ls.take (j + 1)).map fun x => x.2.length).sum = ((ls.take j).map fun x => x.2.length).sum + ls[j].2.length) := Lib.hid (by rw [HTK.out, List.map_append, List.sum_append]; simp)
          have hla : os.length ≤ 1000000000 := by have := HSUM.out; have := HTOT.out; omega
          have hlb : ls[j].2.length ≤ 1000000000 := by have := HS2.out; have := HTOT.out; omega
          clear hs1 hs0
          generalize ls[j] = x at *
          obtain ⟨lv, els⟩ := x
          dsimp only at e1 e2 hrow hlen hlb
          subst e1
          have HTW := Lib.hid (two_any _ _ os els wr HROW.out hrow hla hlb)
          have HBS : Hid (∀ q ∈ els, Bs wr wr.heap.size q.kv q.r.key ∧ Bs wr wr.heap.size q.vv q.r.val) := Lib.hid hrow.bs
          clear e2 hrow hlen hla hlb
          go_wp2_with fail
          refine HTW.out.mono ?_; rintro e w1 ⟨⟨v1, rfl, ho1⟩, hw1⟩
          have HR1 := Lib.hid (ho1.row hw1 (fun q hq => by
            rcases two_sub os els q hq with h | h
            · exact HROW.out.bs q h
            · exact HBS.out q h))
          have HB1 := Lib.hid (HB.out.trans (hw1.mono HB.out.size))
          clear hw1 hc ho1
          go_wp2_with fail
          go_roundg (k - (j + 1))
          case measure => have := HQ.out; omega
          case rel => exact ⟨j + 1, two oE os els, rfl, by omega, by go_num, by
              rw [HTK.out, two_map]
              have := HIM.out.snoc toOrd (l := els.map El.r) (inO_srt (HIO2.out _ HXM.out))
              unfold LL at this ⊢
              rw [List.map_append]; exact this, HR1.out, fun q hq => by
              rcases two_sub os els q hq with h | h
              · exact HLO.out q h
              · exact (H.out.2.2 _ HXM.out).2.2 q h, by rw [HS2.out]; have := two_len os els; have := HSUM.out; omega, HB1.out⟩
        · have hkn : j = k := by omega
          subst hkn
          have HE : Hid (IsMerge ord2 (LL ls) (os.map El.r)) := Lib.hid (by have := HIM.out; rwa [List.take_of_length_le (by rw [HN.out]; exact Nat.le_refl _)] at this)
          go_wp2_with fail
          go_ret2
          exact ⟨by rw [if_pos HIO2.out]; exact ⟨_, os, rfl, HROW.out, HE.out, HLO.out⟩, HB.out⟩
end Go.Proofs.Ytfcemlcocdhmfaa
