/- DeleteFunc on a row of items of the call's own: those of which nothing is open go. -/
import Derived.Test.YtbjjgnaojoaoiaaGreatK10
import Derived.Lib.SliceRun
import Derived.Test.YtbjjgnaojoaoiaaGreatK19
import Derived.Test.YtbjjgnaojoaoiaaGreatK17
import Derived.Test.YtbjjgnaojoaoiaaGreatK15
namespace Go.Proofs.YtbjjgnaojoaoiaaGreat
open Go.RowKit Go
set_option linter.unusedVariables false
set_option linter.unusedSimpArgs false

def putAt (cs : Array Value) : Nat → List Value → Array Value
  | _, [] => cs
  | o, v :: r => putAt (cs.setIfInBounds o v) (o + 1) r
theorem setCells_at {b t : Nat} {fr : Nat × Nat} : ∀ (vs : List Value) (o : Nat) {w : World} {cs : Array Value}, w.heap[b]? = some (.cells cs t fr) → (w.setCells b o vs).heap[b]? = some (.cells (putAt cs o vs) t fr)
  | [], _, _, _, h => h
  | v :: r, o, w, cs, h => setCells_at r (o + 1) (blk_set h o v)
theorem setCells_far (b : Nat) {k : Nat} (hk : k ≠ b) : ∀ (vs : List Value) (o : Nat) (w : World), (w.setCells b o vs).heap[k]? = w.heap[k]?
  | [], _, _ => rfl
  | v :: r, o, w => (setCells_far b hk r (o + 1) _).trans (Below.heap_setCell w ⟨b, o, none⟩ v k hk)
theorem setCells_below {B b : Nat} (hb : B ≤ b) : ∀ (vs : List Value) (o : Nat) {a w : World}, Below B a w → Below B a (w.setCells b o vs)
  | [], _, _, _, h => h
  | v :: r, o, a, w, h => setCells_below hb r (o + 1) (h.setCell hb v)
theorem putAt_size : ∀ (vs : List Value) (o : Nat) (cs : Array Value), (putAt cs o vs).size = cs.size
  | [], _, _ => rfl
  | v :: r, o, cs => by rw [putAt, putAt_size r]; simp
theorem putAt_list : ∀ (vs : List Value) (o : Nat) (cs : Array Value), o + vs.length ≤ cs.size → (putAt cs o vs).toList = cs.toList.take o ++ vs ++ cs.toList.drop (o + vs.length)
  | [], o, cs, h => by simp [putAt]
  | v :: r, o, cs, h => by
    rw [List.length_cons] at h
    rw [putAt, putAt_list r (o + 1) _ (by simp; omega), Array.toList_setIfInBounds]
    have hl : o < cs.toList.length := by simp; omega
    rw [List.drop_set_of_lt (by omega), List.take_set, List.take_succ_eq_append_getElem hl, List.set_append_right _ _ (by simp; omega)]
    simp only [List.length_take, Nat.min_eq_left (Nat.le_of_lt hl), Nat.sub_self, List.set_cons_zero, List.length_cons, List.append_assoc, List.cons_append, List.nil_append]
    rw [show o + 1 + r.length = o + (r.length + 1) by omega]
/-- 'clear' on a part of a row of items. -/
theorem run_clear_it (w : World) (ty : TypeId) (b o n c : Nat) (hn : 0 < n) (hc : ∀ j, j < n * 4 → (w.cell? ⟨b, o + j, none⟩).isSome = true) (hf : ∀ j, j < n * 4 → w.frozen? ⟨b, o + j, none⟩ = false) :
    (Builtin.clear_ #[41] ty #[.slice (some ⟨b, o, none⟩) n c]).run Tryz.prog w = .ok (.tuple #[]) (w.setCells b o (List.replicate (n * 4) (.int .i64 0))) := by
  have hzc : (Builtin.zeroCells #[Value.int .i64 0, .int .i64 0, .int .i64 0, .int .i64 0] n).toList = List.replicate (n * 4) (.int .i64 0) := by
    simp [Builtin.zeroCells]
    apply List.ext_getElem
    · simp
    · intro i h1 h2
      simp only [List.getElem_map, List.getElem_range, List.getElem_replicate]
      have h4 : i % 4 < 4 := Nat.mod_lt _ (by omega)
      rcases (show i % 4 = 0 ∨ i % 4 = 1 ∨ i % 4 = 2 ∨ i % 4 = 3 by omega) with e | e | e | e <;> rw [e] <;> rfl
  have hst := run_storeCells_cells (P := Tryz.prog) b o (List.replicate (n * 4) (.int .i64 0)) 0 w (by simpa using hc) (by simpa using hf) (by intro v hv'; rw [List.eq_of_mem_replicate hv']; rfl)
  simp only [Nat.add_zero] at hst
  have hv : ∀ wx, (zeroValue 58).run Tryz.prog wx = .ok (.agg #[.int .i64 0, .int .i64 0, .int .i64 0, .int .i64 0]) wx := fun _ => by kernel_rfl
  obtain ⟨m, rfl⟩ : ∃ m, n = m + 1 := ⟨n - 1, by omega⟩
  have hz' : (Value.agg #[.int .i64 0, .int .i64 0, .int .i64 0, .int .i64 0]).cells = #[Value.int .i64 0, .int .i64 0, .int .i64 0, .int .i64 0] := rfl
  simp [Builtin.clear_, run_underlying Tryz.underlying41, hv, hz', hzc, hst]
theorem itC_len (x : Dq) : (itC x).length = 4 := rfl
theorem it_put4 {l : List Dq} {i : Nat} (h : i < l.length) (x : Dq) : ((((itCs l).set (i * 4) (.int .i64 x.due)).set (i * 4 + 1) (.int .i64 x.kind)).set (i * 4 + 2) (.int .i64 x.per)).set (i * 4 + 3) (.int .i64 x.opn) = itCs (l.set i x) := by
  have h1 : (itCs l).set (i * 4) (.int .i64 x.due) = itCs (l.set i ⟨x.due, l[i].kind, l[i].per, l[i].opn⟩) := flat_set (c := itC) (j := 0) itC_len h (by omega) rfl
  rw [h1]
  have h2 : (itCs (l.set i ⟨x.due, l[i].kind, l[i].per, l[i].opn⟩)).set (i * 4 + 1) (.int .i64 x.kind) = itCs ((l.set i ⟨x.due, l[i].kind, l[i].per, l[i].opn⟩).set i ⟨x.due, x.kind, l[i].per, l[i].opn⟩) := flat_set (c := itC) (j := 1) itC_len (by simpa using h) (by omega) (by simp [itC])
  rw [h2, List.set_set]
  have h3 : (itCs (l.set i ⟨x.due, x.kind, l[i].per, l[i].opn⟩)).set (i * 4 + 2) (.int .i64 x.per) = itCs ((l.set i ⟨x.due, x.kind, l[i].per, l[i].opn⟩).set i ⟨x.due, x.kind, x.per, l[i].opn⟩) := flat_set (c := itC) (j := 2) itC_len (by simpa using h) (by omega) (by simp [itC])
  rw [h3, List.set_set]
  have h4 : (itCs (l.set i ⟨x.due, x.kind, x.per, l[i].opn⟩)).set (i * 4 + 3) (.int .i64 x.opn) = itCs ((l.set i ⟨x.due, x.kind, x.per, l[i].opn⟩).set i x) := flat_set (c := itC) (j := 3) itC_len (by simpa using h) (by omega) (by simp [itC])
  rw [h4, List.set_set]
/-- A closure that tells so. -/
def Tells (K : Nat) : Prop := (∀ (u : Value) (wx : World), (callFunc K #[u]).run Tryz.prog wx = .ok (.enter K #[u]) wx) ∧ ∀ (x : Dq) (wx : World), Calls Tryz.prog K #[itV x] wx fun e w' => e = .returned (.bool (nil0 x)) ∧ Below wx.heap.size wx w'
theorem items1_tells : Tells 48 := by
  refine ⟨fun u wx => by kernel_rfl, fun x wx => ?_⟩
  go_enter Tryz.func48, Tryz.ntmps48
  go_wp2_with fail
  go_ret
  exact ⟨by first | rfl | (congr 2; exact beq_eq_decide _ _), (Below.refl _ _).alloc (Nat.le_refl _) _⟩
theorem pay1_tells : Tells 112 := by
  refine ⟨fun u wx => by kernel_rfl, fun x wx => ?_⟩
  go_enter Tryz.func112, Tryz.ntmps112
  go_wp2_with fail
  go_ret
  exact ⟨by first | rfl | (congr 2; exact beq_eq_decide _ _), (Below.refl _ _).alloc (Nat.le_refl _) _⟩
set_option maxHeartbeats 1600000 in
set_option maxRecDepth 100000 in
theorem indexIt_any (K : Nat) (hK : Tells K) (A : Option Addr) (N c : Nat) (ps : List Dq) (w : World) (hl : ps.length = N) (hr : Rd w w.heap.size 4 A N (itCs ps)) (hN : N ≤ 1099511627776) :
    Calls Tryz.prog 107 #[.slice A N c, .func (.func K) #[] #[]] w fun e w' => e = .returned (.int .i64 (idxI nil0 0 ps)) ∧ Below w.heap.size w w' := by
  obtain ⟨hcf, hK⟩ := hK
  have HW := Lib.hid hK
  have HL := Lib.hid hl; have HR := Lib.hid hr
  clear hl hr hK
  go_enter Tryz.func107, Tryz.ntmps107
  go_wp2_with fail
  go_loopg [5, 8] N (fun g' v5 v8 wr => ∃ k : Nat, g' = N - k ∧ k ≤ N ∧ v8 = .int .i64 k ∧ idxI nil0 0 ps = idxI nil0 k (ps.drop k) ∧ Below w.heap.size w wr)
  case atStart => exact ⟨0, rfl, by omega, rfl, rfl, Below.refl _ _⟩
  case round =>
    obtain ⟨k, hgk, hk, rfl, hf, hbr⟩ := hrel
    have HG := Lib.hid hgk; have HF := Lib.hid hf; have HB := Lib.hid hbr
    clear hgk hf
    by_cases hlt : k < N
    · have hl1 : k < ps.length := by rw [HL.out]; exact hlt
      obtain ⟨b, off, rfl, hb, c0, c1, c2, c3⟩ := (HR.out.below hbr).it hl1
      have hd : ps.drop k = ps[k] :: ps.drop (k + 1) := List.drop_eq_getElem_cons hl1
      rw [hd] at HF
      clear hd hbr
      generalize ps[k] = q at *
      have i1 : (0 : Int) ≤ (k : Int) := by omega
      have i2 : (k : Int) < (N : Int) := by omega
      have HWM := Lib.hid (HW.out q wr)
      cases hx : nil0 q with
      | true =>
        rw [hx] at HWM
        have HF2 : Hid (idxI nil0 0 ps = k) := Lib.hid (by rw [HF.out, idxI, if_pos hx])
        clear hx HF
        go_wp2_with fail
        refine HWM.out.mono ?_; rintro e w1 ⟨rfl, hw1⟩
        have HW1 := Lib.hid hw1; clear hw1
        go_wp2_with fail
        go_ret
        exact ⟨by rw [HF2.out]; first | done | rfl, HB.out.trans (HW1.out.mono HB.out.size)⟩
      | false =>
        rw [hx] at HWM
        have HF2 : Hid (idxI nil0 0 ps = idxI nil0 (k + 1) (ps.drop (k + 1))) := Lib.hid (by rw [HF.out, idxI, if_neg (by rw [hx]; decide)])
        clear hx HF
        go_wp2_with fail
        refine HWM.out.mono ?_; rintro e w1 ⟨rfl, hw1⟩
        have HW1 := Lib.hid hw1; clear hw1
        go_wp2_with fail
        go_roundg (N - (k + 1))
        case measure => have := HG.out; omega
        case rel => exact ⟨k + 1, rfl, by omega, by go_num, HF2.out, HB.out.trans (HW1.out.mono HB.out.size)⟩
    · have hkN : k = N := by omega
      subst hkN
      have HF2 : Hid (idxI nil0 0 ps = -1) := Lib.hid (by
        rw [HF.out, List.drop_of_length_le (by rw [HL.out]; exact Nat.le_refl _)]; rfl)
      clear HF hbr
      go_wp2_with fail
      go_ret
      exact ⟨by rw [HF2.out]; first | done | rfl, HB.out⟩
end Go.Proofs.YtbjjgnaojoaoiaaGreat
/- DeleteFunc on a row of items of the call's own. -/
namespace Go.Proofs.YtbjjgnaojoaoiaaGreat
open Go.RowKit Go
set_option linter.unusedVariables false
set_option linter.unusedSimpArgs false

theorem own_it {w : World} {B g n c : Nat} {l : List Dq} (h : w.ownsRow B 58 4 (.slice (some ⟨g, 0, none⟩) n c) n (itCs l)) {i : Nat} (hi : i < l.length) :
    (w.cell? ⟨g, i * 4, none⟩ = some (.int .i64 l[i].due) ∧ w.cell? ⟨g, i * 4 + 1, none⟩ = some (.int .i64 l[i].kind) ∧ w.cell? ⟨g, i * 4 + 2, none⟩ = some (.int .i64 l[i].per) ∧ w.cell? ⟨g, i * 4 + 3, none⟩ = some (.int .i64 l[i].opn)) ∧ ∀ j, w.frozen? ⟨g, j, none⟩ = false := by
  obtain ⟨h0, h1, h2, h3⟩ := itCs_at l i hi
  refine ⟨⟨(own_cell h h0).1, (own_cell h h1).1, (own_cell h h2).1, (own_cell h h3).1⟩, fun j => ?_⟩
  obtain ⟨_, cs, hcs⟩ := own_block_type h (b := g) rfl
  exact blk_free hcs j
theorem own_cut {w : World} {B g n c : Nat} {ks mid : List Dq} (h : w.ownsRow B 58 4 (.slice (some ⟨g, 0, none⟩) n c) n (itCs (ks ++ mid))) (vs : List Value) (hv : vs.length = mid.length * 4) :
    (w.setCells g (ks.length * 4) vs).ownsRow B 58 4 (.slice (some ⟨g, 0, none⟩) ks.length c) ks.length (itCs ks) := by
  have hl := h.1
  rw [itCs_len, List.length_append] at hl
  refine ⟨itCs_len ks, ?_⟩
  rcases h.2 with ⟨h1, _⟩ | ⟨g', cap', cur, h1, h2, h3, h4, h5, h6, h7⟩
  · cases h1
  · injection h1 with h1 _ h8; injection h1 with h1; injection h1 with h1 _ _; subst h1; subst h8
    refine .inr ⟨g, c, _, rfl, h2, setCells_at vs _ h3, by omega, h5, by rw [putAt_size]; exact h6, ?_⟩
    rw [putAt_list _ _ _ (by omega), List.append_assoc, List.take_append_of_le_length (by simp; omega), List.take_take, Nat.min_self]
    have : cur.toList.take (ks.length * 4) = (cur.toList.take (n * 4)).take (ks.length * 4) := by rw [List.take_take, Nat.min_eq_left (by omega)]
    rw [this, h7, itCs_app, List.take_append_of_le_length (by rw [itCs_len]; exact Nat.le_refl _), List.take_of_length_le (by rw [itCs_len]; exact Nat.le_refl _)]
theorem live_take {s : List Dq} {j : Nat} (h : j < s.length) : live (s.take (j + 1)) = if nil0 s[j] then live (s.take j) else live (s.take j) ++ [s[j]] := by
  unfold live
  rw [List.take_succ_eq_append_getElem h, List.filter_append]
  cases hx : nil0 s[j] <;> simp [hx]
theorem live_all {s : List Dq} (h : ∀ x ∈ s, nil0 x = false) : live s = s := by
  unfold live
  rw [List.filter_eq_self]
  intro x hx; rw [h x hx]; rfl
theorem cells4U {w : World} {v0 v1 v2 v3 : Value} {t g : Nat} (h : w.heap[g]? = some (.cells #[v0, v1, v2, v3] t (0, 0))) : w.cell? ⟨g, 0, none⟩ = some v0 ∧ w.cell? ⟨g, 1, none⟩ = some v1 ∧ w.cell? ⟨g, 2, none⟩ = some v2 ∧ w.cell? ⟨g, 3, none⟩ = some v3 ∧ ∀ i, w.frozen? ⟨g, i, none⟩ = false := by
  simp [World.cell?, World.frozen?, h]
/-- The round's row. -/
structure DelInv (w wr : World) (B g n c : Nat) (s ks mid : List Dq) (j : Nat) : Prop where
  own : wr.ownsRow B 58 4 (.slice (some ⟨g, 0, none⟩) n c) n (itCs (ks ++ mid ++ s.drop j))
  keq : ks = live (s.take j)
  len : ks.length + mid.length = j
  pos : 0 < mid.length
  le : j ≤ n
  bel : Below B w wr
theorem DelInv.skip {w wr w1 : World} {B g n c : Nat} {s ks mid : List Dq} {j : Nat} (h : DelInv w wr B g n c s ks mid j) (hB : B ≤ wr.heap.size) (hb : Below wr.heap.size wr w1) (hj : j < s.length) (hs : s.length = n) (hx : nil0 s[j] = true) : DelInv w w1 B g n c s ks (mid ++ [s[j]]) (j + 1) :=
  ⟨by
    have e : ks ++ (mid ++ [s[j]]) ++ s.drop (j + 1) = ks ++ mid ++ s.drop j := by rw [List.drop_eq_getElem_cons hj]; simp
    rw [e]; exact own_below h.own hb,
   by rw [live_take hj, if_pos hx]; exact h.keq, by rw [List.length_append, ← Nat.add_assoc, h.len]; rfl, by simp, by omega, h.bel.trans (hb.mono hB)⟩
theorem DelInv.keep {w wr w1 : World} {B g n c : Nat} {s ks mid : List Dq} {j : Nat} (h : DelInv w wr B g n c s ks mid j) (hB : B ≤ wr.heap.size) (hb : Below wr.heap.size wr w1) (hj : j < s.length) (hs : s.length = n) (hx : nil0 s[j] = false) (hgB : B ≤ g) :
    DelInv w ((((w1.setCell ⟨g, ks.length * 4, none⟩ (.int .i64 s[j].due)).setCell ⟨g, ks.length * 4 + 1, none⟩ (.int .i64 s[j].kind)).setCell ⟨g, ks.length * 4 + 2, none⟩ (.int .i64 s[j].per)).setCell ⟨g, ks.length * 4 + 3, none⟩ (.int .i64 s[j].opn)) B g n c s (ks ++ [s[j]]) (mid.drop 1 ++ [s[j]]) (j + 1) := by
  have hl := h.len
  have hp := h.pos
  have ho := own_below h.own hb
  have hn : (ks ++ mid ++ s.drop j).length = n := by simp; omega
  have o1 := own_set ho (i := ks.length * 4) (by omega) (.int .i64 s[j].due)
  have o2 := own_set o1 (i := ks.length * 4 + 1) (by omega) (.int .i64 s[j].kind)
  have o3 := own_set o2 (i := ks.length * 4 + 2) (by omega) (.int .i64 s[j].per)
  have o4 := own_set o3 (i := ks.length * 4 + 3) (by omega) (.int .i64 s[j].opn)
  rw [it_put4 (by omega)] at o4
  have e : (ks ++ mid ++ s.drop j).set ks.length s[j] = (ks ++ [s[j]]) ++ (mid.drop 1 ++ [s[j]]) ++ s.drop (j + 1) := by
    cases mid with
    | nil => simp at hp
    | cons m mt => rw [List.drop_eq_getElem_cons hj]; simp
  rw [e] at o4
  exact ⟨o4, by rw [live_take hj, if_neg (by rw [hx]; decide), ← h.keq], by simp; omega, by simp, by omega, ((((h.bel.trans (hb.mono hB)).setCell hgB _).setCell hgB _).setCell hgB _).setCell hgB _⟩
set_option maxHeartbeats 6400000 in
set_option maxRecDepth 100000 in
theorem delete_any (K : Nat) (hK : Tells K) (B : Nat) (A : Option Addr) (n c : Nat) (s : List Dq) (w : World) (hl : s.length = n) (ho : w.ownsRow B 58 4 (.slice A n c) n (itCs s)) (hB : B ≤ w.heap.size) (hn : n ≤ 1000000) :
    Calls Tryz.prog 46 #[.slice A n c, .func (.func K) #[] #[]] w fun e w' => ∃ A' c', e = .returned (.slice A' (live s).length c') ∧ w'.ownsRow B 58 4 (.slice A' (live s).length c') (live s).length (itCs (live s)) ∧ Below B w w' := by
  have HI := Lib.hid (indexIt_any K hK A n c s w hl (Rd.of_own ho) (by omega))
  have HO := Lib.hid ho; have HL := Lib.hid hl
  obtain ⟨hcf, hK⟩ := hK
  have HW := Lib.hid hK
  clear hK
  rcases idxI_spec nil0 s 0 with ⟨h1, h2⟩ | ⟨i, hi, h1, h2, h3⟩
  · have HV := Lib.hid (live_all h2)
    rw [h1] at HI
    clear ho hl h1 h2
    go_enter Tryz.func46, Tryz.ntmps46
    go_wp2_with fail
    refine HI.out.mono ?_; rintro e w1 ⟨rfl, hw1⟩
    have HW1 := Lib.hid hw1; clear hw1
    go_wp2_with fail
    go_ret
    exact ⟨A, c, by rw [HV.out, HL.out]; rfl, by rw [HV.out, HL.out]; exact own_below HO.out HW1.out, HW1.out.mono hB⟩
  · rw [h1] at HI
    simp only [Nat.zero_add] at HI
    have hin : i < n := by omega
    obtain ⟨g, cap, ev, hgB, hgl⟩ := ho.form (by omega)
    injection ev with ev _ ev2
    subst ev ev2
    have HS0 : Hid (∀ w1, Below w.heap.size w w1 → DelInv w w1 B g n c s (s.take i) [s[i]] (i + 1)) := Lib.hid (fun w1 hb => ⟨by
        have e : s.take i ++ [s[i]] ++ s.drop (i + 1) = s := by rw [List.append_assoc, List.singleton_append, ← List.drop_eq_getElem_cons hi, List.take_append_drop]
        rw [e]; exact own_below HO.out hb,
      by rw [live_take hi, if_pos h2, live_all (fun x hx => by obtain ⟨k, hk, rfl⟩ := List.getElem_of_mem hx; rw [List.getElem_take]; exact h3 k (by simp at hk; omega))],
      by rw [List.length_take, Nat.min_eq_left (by omega)]; rfl, by simp, by omega, hb.mono hB⟩)
    have HTK : Hid ((s.take i).length = i) := Lib.hid (by rw [List.length_take]; omega)
    have hne1 : ((i : Int) == -1) = false := by first | (simp; done) | (simp; omega)
    have i0 : (0 : Int) ≤ (i : Int) := by omega
    have i1 : IntKind.i64.wrap ((i : Int) + 1) = ((i + 1 : Nat) : Int) := by rw [IntWalk.i64_in _ (by omega)]; omega
    clear ho hl h1 h2 h3
    go_enter Tryz.func46, Tryz.ntmps46
    go_wp2_with fail
    refine HI.out.mono ?_; rintro e w1 ⟨rfl, hw1⟩
    have HD1 := Lib.hid (HS0.out w1 hw1); clear hw1
    go_wp2_with fail
    go_loopg [5, 6] (n - (i + 1)) (fun gh v5 v6 wr => ∃ (j : Nat) (ks mid : List Dq), gh = n - j ∧ v6 = .int .i64 j ∧ v5 = .int .i64 ks.length ∧ DelInv w wr B g n c s ks mid j)
    case atStart => exact ⟨i + 1, s.take i, [s[i]], rfl, by go_num, by rw [HTK.out], HD1.out⟩
    case round =>
      obtain ⟨j, ks, mid, hgk, rfl, rfl, hinv⟩ := hrel
      have HG := Lib.hid hgk; have HV := Lib.hid hinv
      have hjn := hinv.le
      have hlen := hinv.len
      have hpos := hinv.pos
      have hBr : B ≤ wr.heap.size := Nat.le_trans hB hinv.bel.size
      by_cases hlt : j < n
      · have hjs : j < s.length := by rw [HL.out]; exact hlt
        have hil : (ks ++ mid ++ s.drop j).length = n := by simp; have := HL.out; omega
        have hj1 : j < (ks ++ mid ++ s.drop j).length := by omega
        have hi1 : ks.length < (ks ++ mid ++ s.drop j).length := by omega
        have hej : (ks ++ mid ++ s.drop j)[j] = s[j] := by
          rw [List.getElem_append_right (by simp; omega)]; simp; congr 1; omega
        obtain ⟨⟨c0, c1, c2, c3⟩, hf⟩ := own_it hinv.own hj1
        rw [hej] at c0 c1 c2 c3
        obtain ⟨⟨d0, d1, d2, d3⟩, -⟩ := own_it hinv.own hi1
        generalize (ks ++ mid ++ s.drop j)[ks.length] = y at d0 d1 d2 d3
        have hSK := Lib.hid (fun w1 hb hx => hinv.skip (w1 := w1) hBr hb hjs HL.out hx)
        have hKP := Lib.hid (fun w1 hb hx => hinv.keep (w1 := w1) hBr hb hjs HL.out hx hgB)
        have hgr : g < wr.heap.size := by have := hinv.bel.size; obtain ⟨_, cs, hcs⟩ := own_block_type hinv.own (b := g) rfl; exact blk_lt hcs
        generalize s[j] = x at *
        obtain ⟨ni, hni⟩ : ∃ ni, ks.length = ni := ⟨_, rfl⟩
        rw [hni] at d0 d1 d2 d3 hKP
        have j1 : (0 : Int) ≤ (j : Int) := by omega
        have j2 : (j : Int) < (n : Int) := by omega
        have k1 : (0 : Int) ≤ (ni : Int) := by omega
        have k2 : (ni : Int) < (n : Int) := by omega
        have hne : g ≠ wr.heap.size := by omega
        have jw : IntKind.i64.wrap ((j : Int) + 1) = ((j + 1 : Nat) : Int) := by rw [IntWalk.i64_in _ (by omega)]; omega
        have kw : IntKind.i64.wrap ((ni : Int) + 1) = ((ni + 1 : Nat) : Int) := by rw [IntWalk.i64_in _ (by omega)]; omega
        have HWX := Lib.hid (fun wx => HW.out x wx)
        have HNI := Lib.hid hni
        rw [hni]
        clear hinv hgk hil hj1 hi1 hej hjs
        cases hx : nil0 x with
        | true =>
          have HSK := Lib.hid (fun w1 hb => hSK.out w1 hb hx)
          clear hSK hKP d0 d1 d2 d3
          rw [hx] at HWX
          go_wp2_with fail
          refine (HWX.out _).mono ?_; rintro e w2 ⟨rfl, hw2⟩
          have HW2 := Lib.hid (((Below.refl wr.heap.size wr).alloc (Nat.le_refl _) _).trans (hw2.mono (by simp))); clear hw2
          go_wp2_with fail
          go_roundg (n - (j + 1))
          case measure => have := HG.out; omega
          case rel => exact ⟨j + 1, ks, _, rfl, by first | rfl | go_num, by rw [HNI.out], HSK.out _ HW2.out⟩
        | false =>
          have HKP := Lib.hid (fun w1 hb => hKP.out w1 hb hx)
          clear hSK hKP
          rw [hx] at HWX
          go_wp2_with fail
          refine (HWX.out _).mono ?_; rintro e w2 ⟨rfl, hw2⟩
          have hb2 : Below wr.heap.size wr w2 := ((Below.refl wr.heap.size wr).alloc (Nat.le_refl _) _).trans (hw2.mono (by simp))
          have HW2 := Lib.hid hb2
          obtain ⟨q0, q1, q2, q3, -⟩ := cells4U (blk_below (blk_new wr (.cells #[.int .i64 x.due, .int .i64 x.kind, .int .i64 x.per, .int .i64 x.opn] 58) rfl) hw2 (by simp))
          have e0 := (hb2.cell (p := ⟨g, ni * 4, none⟩) hgr).trans d0
          have e1 := (hb2.cell (p := ⟨g, ni * 4 + 1, none⟩) hgr).trans d1
          have e2 := (hb2.cell (p := ⟨g, ni * 4 + 2, none⟩) hgr).trans d2
          have e3 := (hb2.cell (p := ⟨g, ni * 4 + 3, none⟩) hgr).trans d3
          have f0 : ∀ j, w2.frozen? ⟨g, j, none⟩ = false := fun j => (hb2.frozen (p := ⟨g, j, none⟩) hgr).trans (hf j)
          have hgr2 : g < w2.heap.size := Nat.lt_of_lt_of_le hgr hb2.size
          have hwr2 : wr.heap.size < w2.heap.size := by have := hw2.size; simp at this; omega
          clear hw2 hb2 c0 c1 c2 c3 d0 d1 d2 d3
          go_wp2_with fail
          go_roundg (n - (j + 1))
          case measure => have := HG.out; omega
          case rel => exact ⟨j + 1, ks ++ [x], _, rfl, by first | rfl | go_num, by rw [List.length_append, HNI.out]; first | rfl | go_num, HKP.out _ HW2.out⟩
      · have hjn2 : j = n := by omega
        subst hjn2
        have hdr : s.drop j = [] := List.drop_of_length_le (by rw [HL.out]; exact Nat.le_refl _)
        have hown : wr.ownsRow B 58 4 (.slice (some ⟨g, 0, none⟩) j c) j (itCs (ks ++ mid)) := by have := hinv.own; rw [hdr, List.append_nil] at this; exact this
        have hke : ks = live s := by have := hinv.keq; rw [List.take_of_length_le (by rw [HL.out]; exact Nat.le_refl _)] at this; exact this
        have HKE := Lib.hid hke
        have HCT := Lib.hid (own_cut hown (List.replicate (mid.length * 4) (.int .i64 0)) (by simp))
        have HBR := Lib.hid hinv.bel
        obtain ⟨_, cs, hcs⟩ := own_block_type hown (b := g) rfl
        have hkj : ks.length < j := by omega
        have hjc : j ≤ c := by
          rcases hown.2 with ⟨h1, h2⟩ | ⟨g', cap', cur, h1, _, _, h4, _⟩
          · cases h1
          · injection h1 with _ _ h1; omega
        have hcl : ∀ ty, (Builtin.clear_ #[41] ty #[.slice (some ⟨g, ks.length * 4, none⟩) (j - ks.length) (c - ks.length)]).run Tryz.prog wr = .ok (.tuple #[]) (wr.setCells g (ks.length * 4) (List.replicate ((j - ks.length) * 4) (.int .i64 0))) := fun ty =>
          run_clear_it wr ty g _ _ _ (by omega) (fun t ht => by
            have ht2 : ks.length * 4 + t < (itCs (ks ++ mid)).length := by rw [itCs_len, List.length_append]; omega
            rw [(own_cell hown (List.getElem?_eq_getElem ht2)).1]; rfl) (fun t ht => blk_free hcs _)
        have hml : mid.length = j - ks.length := by omega
        rw [hml] at HCT
        obtain ⟨ni, hni⟩ : ∃ ni, ks.length = ni := ⟨_, rfl⟩
        rw [hni] at hcl HCT hkj
        rw [hni]
        have k1 : (0 : Int) ≤ (ni : Int) := by omega
        have k2 : (ni : Int) ≤ (j : Int) := by omega
        have k3 : (ni : Int) ≤ (c : Int) := by omega
        have HNI := Lib.hid hni
        clear hinv hgk hdr hown hke hml hni hlen hpos
        go_wp2_with fail
        go_ret
        exact ⟨_, c, by rw [← HKE.out, HNI.out]; rfl, by rw [← HKE.out, HNI.out]; exact HCT.out, setCells_below hgB _ _ HBR.out⟩
end Go.Proofs.YtbjjgnaojoaoiaaGreat
/- Paying items, in plain words: rises, sums, parts. -/
namespace Go.Proofs.YtbjjgnaojoaoiaaGreat
set_option linter.unusedVariables false
set_option linter.unusedSimpArgs false

theorem rise_exP {its : List Dq} (hn : (its.map keyI).Nodup) : ∃ d, Pl its.length d ∧ Rise its d := by
  let le : Int → Int → Bool := fun x y => decide (keyI (its.getD x.toNat ⟨0, 0, 0, 0⟩) ≤ keyI (its.getD y.toNat ⟨0, 0, 0, 0⟩))
  have hp : ((upTo its.length).mergeSort le).Perm (upTo its.length) := List.mergeSort_perm _ _
  have hpl : Pl its.length ((upTo its.length).mergeSort le) := hp
  refine ⟨_, hpl, ?_⟩
  have hs := List.pairwise_mergeSort (le := le) (fun a b c h1 h2 => by simp only [le, decide_eq_true_eq] at *; omega) (fun a b => by simp only [le, Bool.or_eq_true, decide_eq_true_eq]; omega) (upTo its.length)
  have h1 : (inOrd its ((upTo its.length).mergeSort le)).Pairwise fun a b => ¬ keyI b < keyI a := by
    unfold inOrd
    rw [List.pairwise_map]
    exact hs.imp fun h => by simp only [le, decide_eq_true_eq] at h; omega
  refine rise_of h1 fun k hk e => ?_
  exact not_nodup hpl hk e hn
theorem payE_okP {its : List Dq} {a : Int} (h : payE its a = 0) : (0 ≤ a ∧ a ≤ 4611686018427387904) ∧ placesE its = 0 := by
  unfold payE at h
  by_cases h1 : 0 ≤ a ∧ a ≤ 4611686018427387904
  · rw [if_pos h1] at h; exact ⟨h1, h⟩
  · rw [if_neg h1] at h; omega
theorem payL_lenP (its : List Dq) (a : Int) : (payL its a).length = its.length := by simp [payL]
theorem payL_atP (its : List Dq) (a : Int) (k : Nat) (h : k < its.length) : (payL its a)[k]'(by rw [payL_lenP]; exact h) = paidI its a its[k] := by simp [payL]
theorem pay_sumP {its : List Dq} {a : Int} (h : payE its a = 0) : (payL its a).sum = a - leftI its a := by
  obtain ⟨h1, h2⟩ := payE_okP h
  obtain ⟨_, hok, hnd⟩ := placesE_ok h2
  obtain ⟨d, hpd, hri⟩ := rise_exP hnd
  exact paidSum hok hpd hri h1.1
theorem pay_bdP {its : List Dq} {a : Int} (h : payE its a = 0) (k : Nat) (hk : k < its.length) :
    0 ≤ (payL its a)[k]'(by rw [payL_lenP]; exact hk) ∧ (payL its a)[k]'(by rw [payL_lenP]; exact hk) ≤ its[k].opn := by
  obtain ⟨h1, h2⟩ := payE_okP h
  obtain ⟨_, hok, hnd⟩ := placesE_ok h2
  rw [payL_atP _ _ _ hk]; exact paid_bd hok (List.getElem_mem hk)
end Go.Proofs.YtbjjgnaojoaoiaaGreat
/- pay: the walk. -/
namespace Go.Proofs.YtbjjgnaojoaoiaaGreat
open Go.RowKit Go
set_option linter.unusedVariables false
set_option linter.unusedSimpArgs false

/-- The row while what is paid is put in: the first k. -/
def mixK (s : List Dq) (a : Int) (k : Nat) : List Dq := (paidRow s a).take k ++ s.drop k
theorem mixK_len {s : List Dq} {a : Int} {k : Nat} (h : k ≤ s.length) : (mixK s a k).length = s.length := by simp [mixK, paidRow_len]; omega
theorem mixK_at {s : List Dq} {a : Int} {k : Nat} (h : k < s.length) : (mixK s a k)[k]'(by rw [mixK_len (by omega)]; exact h) = s[k] := by
  unfold mixK
  rw [List.getElem_append_right (by simp [paidRow_len]; omega)]
  simp only [List.length_take, paidRow_len, Nat.min_eq_left (Nat.le_of_lt h), Nat.sub_self, List.getElem_drop]
  simp
theorem mixK_step {s : List Dq} {a : Int} {k : Nat} (h : k < s.length) : (itCs (mixK s a k)).set (k * 4 + 3) (.int .i64 (paidI s a s[k])) = itCs (mixK s a (k + 1)) := by
  have hk : k < (mixK s a k).length := by rw [mixK_len (by omega)]; exact h
  have e := flat_set (c := itC) (j := 3) itC_len hk (by omega) (u := .int .i64 (paidI s a s[k])) (y := { s[k] with opn := paidI s a s[k] }) (by rw [mixK_at h]; rfl)
  refine e.trans ?_
  congr 1
  unfold mixK
  have hl : ((paidRow s a).take k).length = k := by simp [paidRow_len]; omega
  rw [List.set_append_right _ _ (by omega), hl, Nat.sub_self, List.drop_eq_getElem_cons h, List.set_cons_zero, List.take_succ_eq_append_getElem (by rw [paidRow_len]; exact h), List.append_assoc]
  simp [paidRow]
theorem Rd.far {w : World} {B s n : Nat} {A : Option Addr} {xs : List Value} (h : Rd w B s A n xs) {p : Addr} (hp : ∀ b, A = some b → b.block ≠ p.block) (u : Value) : Rd (w.setCell p u) B s A n xs := by
  refine ⟨h.1, fun h0 => ?_⟩
  obtain ⟨b, off, e, hb, hc⟩ := h.2 h0
  refine ⟨b, off, e, hb, fun j hj => ?_⟩
  rw [← hc j hj]
  have := Below.heap_setCell w p u b (hp _ e)
  simp only [World.cell?, this]
/-- How pay ends. -/
def UPayOf (w : World) (B g : Nat) (S : Ac) (vp vq : Value) (qs : List PmE) (a : Int) (e : Ending) (w' : World) : Prop := Turn w B vp w' ∧
  match giveS S.day (-1) S.ps (partsOf (itemsOf S.ps) a) with
  | some ps => ∃ A c, e = .returned (.tuple #[.slice A (partsOf (itemsOf S.ps) a).length c, .int .i64 (leftI (itemsOf S.ps) a)]) ∧ OwnV w' B g { S with ps := ps } vp vq qs ∧ PartsAt w' (.slice A (partsOf (itemsOf S.ps) a).length c) (partsOf (itemsOf S.ps) a) ∧ ps.length = S.ps.length
  | none => e = pan 2
set_option maxHeartbeats 6400000 in
set_option maxRecDepth 100000 in
theorem upay_any (g B : Nat) (S : Ac) (vp vq : Value) (qs : List PmE) (a : Int) (w : World) (h : OwnV w B g S vp vq qs) (hB : B ≤ w.heap.size) (hN : S.ps.length ≤ 60) (ha : 0 ≤ a ∧ a ≤ 4611686018427387904)
    (h1 : 0 ≤ S.day ∧ S.day ≤ 3652058) (hP : placesE (itemsOf S.ps) = 0)
    (hgood : ∀ k ps (hk : k < (partsOf (itemsOf S.ps) a).length), giveS S.day (-1) S.ps ((partsOf (itemsOf S.ps) a).take k) = some ps → GoodAt S.day S.bp (-1) ps (partsOf (itemsOf S.ps) a)[k]) :
    Calls Tryz.prog 52 #[.pointer (some ⟨g, 0, none⟩), .int .i64 a] w (UPayOf w B g S vp vq qs a) := by
  have HI := Lib.hid (items_any g B S vp vq qs w h (by omega) hP)
  have HGD := Lib.hid hgood; have HV0 := Lib.hid h; have HPL := Lib.hid hP
  obtain ⟨n, hn⟩ : ∃ n, (itemsOf S.ps).length = n := ⟨_, rfl⟩
  have HNN := Lib.hid hn
  have hn2 : n ≤ 1000 := by rw [← hn, itemsOf_len]; omega
  clear hgood h hP hn
  go_enter Tryz.func52, Tryz.ntmps52
  go_wp2_with fail
  refine HI.out.mono ?_; rintro e w1 ⟨hb1, A, c, s, rfl, ho1, hs⟩
  rw [HNN.out] at ho1 ⊢
  have hsp := hs.places HPL.out
  have hse := hs.eq HPL.out
  have hsl : s.length = n := by rw [hs.len]; exact HNN.out
  have hpe : payE s a = 0 := by unfold payE; rw [if_pos ha]; exact hsp
  have HPY := Lib.hid (pay_nN A s a n c w1 hsl (Rd.of_own ho1) (by unfold maxLen; omega))
  have HB1 := Lib.hid hb1; have HO1 := Lib.hid ho1; have HSL := Lib.hid hsl; have HSE := Lib.hid hse; have HPE := Lib.hid hpe
  have HLF : Hid (leftI s a = leftI (itemsOf S.ps) a) := Lib.hid (leftI_perm hs.1 a)
  clear hb1 ho1 hs hsp hse hsl hpe
  go_wp2_with fail
  refine HPY.out.mono ?_; rintro e w2 ⟨hb2, ⟨hne, _⟩ | ⟨_, A', c', rfl, hrd, hc', hnew⟩⟩
  · exact absurd HPE.out hne
  rw [HSL.out] at hrd hc' ⊢
  have HB2 := Lib.hid (HB1.out.trans (hb2.mono HB1.out.size))
  have HO2 : Hid (w2.ownsRow w.heap.size 58 4 (.slice A n c) n (itCs (mixK s a 0))) := Lib.hid (by
    have e : mixK s a 0 = s := by simp [mixK]
    rw [e]; exact own_below HO1.out hb2)
  have HRD := Lib.hid hrd
  have HNEW := Lib.hid hnew
  clear hb2 hrd hnew HPY
  go_wp2_with fail
  go_loopg [23] n (fun gh v23 wr => ∃ k : Nat, gh = n - k ∧ k ≤ n ∧ v23 = .int .i64 k ∧ wr.ownsRow w.heap.size 58 4 (.slice A n c) n (itCs (mixK s a k)) ∧ Rd wr wr.heap.size 1 A' n (ints (payL s a)) ∧ Below w.heap.size w wr)
  case atStart => exact ⟨0, rfl, by omega, rfl, HO2.out, HRD.out, HB2.out⟩
  case round =>
    obtain ⟨k, hgk, hk, rfl, hown, hrr, hbr⟩ := hrel
    have HG := Lib.hid hgk; have HO := Lib.hid hown; have HB := Lib.hid hbr; have HRR := Lib.hid hrr
    by_cases hlt : k < n
    · have hks : k < s.length := by rw [HSL.out]; exact hlt
      have hkm : k < (mixK s a k).length := by rw [mixK_len (by omega)]; exact hks
      obtain ⟨gi, cap, ev, hgB, hgl⟩ := hown.form (by omega)
      injection ev with ev _ ev2
      subst ev ev2
      obtain ⟨⟨c0, c1, c2, c3⟩, hf⟩ := own_it hown hkm
      have hkp : k < (payL s a).length := by rw [payL_lenP]; exact hks
      obtain ⟨b', off', rfl, hb', cp⟩ := hrr.num hkp
      rw [payL_atP s a k hks] at cp
      have hbg : gi < w1.heap.size := by
        obtain ⟨_, cs, hcs⟩ := own_block_type HO1.out (b := gi) rfl
        exact blk_lt hcs
      have hnb : w1.heap.size ≤ b' := HNEW.out _ rfl
      have hne : b' ≠ gi := by omega
      have HST : Hid (∀ u, u = Value.int .i64 (paidI s a s[k]) → (wr.setCell ⟨gi, k * 4 + 3, none⟩ u).ownsRow w.heap.size 58 4 (.slice (some ⟨gi, 0, none⟩) n c) n (itCs (mixK s a (k + 1))) ∧ Rd (wr.setCell ⟨gi, k * 4 + 3, none⟩ u) (wr.setCell ⟨gi, k * 4 + 3, none⟩ u).heap.size 1 (some ⟨b', off', none⟩) n (ints (payL s a)) ∧ Below w.heap.size w (wr.setCell ⟨gi, k * 4 + 3, none⟩ u)) := Lib.hid (fun u hu => by
        subst hu
        refine ⟨?_, by rw [World.size_setCell]; exact hrr.far (fun b e => by injection e with e; subst e; exact hne) _, hbr.setCell hgB _⟩
        rw [← mixK_step hks]
        exact own_set hown (by omega) _)
      generalize (mixK s a k)[k] = y at c0 c1 c2 c3
      generalize paidI s a s[k] = pv at *
      have hgi := hf (k * 4 + 3)
      have hgr := hgl
      have j1 : (0 : Int) ≤ (k : Int) := by omega
      have j2 : (k : Int) < (n : Int) := by omega
      clear hown hrr hbr hgk c0 c1 c2 hf
      go_wp2_with fail
      go_roundg (n - (k + 1))
      case measure => have := HG.out; omega
      case rel => exact ⟨k + 1, rfl, by omega, by go_num, (HST.out _ rfl).1, (HST.out _ rfl).2.1, (HST.out _ rfl).2.2⟩
    · have hkn : k = n := by omega
      subst hkn
      have hmx : mixK s a k = paidRow s a := by unfold mixK; rw [List.drop_of_length_le (by rw [HSL.out]; exact Nat.le_refl _), List.take_of_length_le (by rw [paidRow_len, HSL.out]; exact Nat.le_refl _), List.append_nil]
      rw [hmx] at hown
      have HDL := Lib.hid (delete_any 112 pay1_tells w.heap.size A k c (paidRow s a) wr (by rw [paidRow_len, HSL.out]) hown hbr.size (by omega))
      have HPO : Hid (live (paidRow s a) = partsOf (itemsOf S.ps) a) := Lib.hid (by rw [HSE.out]; rfl)
      rw [HPO.out] at HDL
      have hpl : (partsOf (itemsOf S.ps) a).length ≤ k := by rw [← HPO.out]; exact Nat.le_trans (List.length_filter_le _ _) (by rw [paidRow_len, HSL.out]; exact Nat.le_refl _)
      clear hown hrr hbr hgk hmx
      go_wp2_with fail
      refine HDL.out.mono ?_; rintro e w3 ⟨A3, c3, rfl, ho3, hb3⟩
      have hbw3 : Below w.heap.size w w3 := HB.out.trans hb3
      have HGV := Lib.hid (give_any g B S vp vq qs A3 _ c3 (partsOf (itemsOf S.ps) a) (-1) w3 (HV0.out.below hbw3) (PartsAt.of_own ho3) (Nat.le_trans hB hbw3.size) (by omega) (by omega) h1 HGD.out)
      have HB3 := Lib.hid hbw3
      clear ho3 hb3 hbw3
      obtain ⟨pn, hpn⟩ : ∃ pn, (partsOf (itemsOf S.ps) a).length = pn := ⟨_, rfl⟩
      have HPN := Lib.hid hpn
      rw [hpn] at HGV ⊢
      clear hpn hpl
      go_wp2_with fail
      refine HGV.out.mono ?_; rintro e w4 ⟨hb4, hm⟩
      have HB4 := Lib.hid (hb4.ahead HB3.out hB)
      cases hgs : giveS S.day (-1) S.ps (partsOf (itemsOf S.ps) a) with
      | none =>
        rw [hgs] at hm
        simp only at hm
        subst hm
        have HGS := Lib.hid hgs
        unfold UPayOf; rw [HGS.out]
        exact ⟨rfl, HB4.out, rfl⟩
      | some ps =>
        rw [hgs] at hm
        obtain ⟨⟨x, rfl⟩, ho4, hpt4, hl4⟩ := hm
        have HGS := Lib.hid hgs; have HO4 := Lib.hid ho4; have HPT4 := Lib.hid hpt4; have HL4 := Lib.hid hl4
        clear hb4 hgs ho4 hpt4 hl4
        go_wp2_with fail
        go_ret2
        unfold UPayOf; rw [HGS.out]
        refine ⟨HB4.out, ?_⟩
        exact ⟨A3, c3, by rw [HPN.out, ← HLF.out]; rfl, HO4.out, by rw [HPN.out]; exact HPT4.out, HL4.out⟩
end Go.Proofs.YtbjjgnaojoaoiaaGreat
