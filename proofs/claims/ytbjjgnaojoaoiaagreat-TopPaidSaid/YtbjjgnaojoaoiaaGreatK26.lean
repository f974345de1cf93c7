/- TopPaid, in plain words. -/
import Derived.Test.YtbjjgnaojoaoiaaGreatK25
import Derived.WalkKit
import Derived.Deep.Slices
import Derived.Deep.Fields
import Derived.ChangeSame
import Derived.OpenShut
import Derived.Test.YtbjjgnaojoaoiaaGreatK9
import Derived.Test.YtbjjgnaojoaoiaaGreatK0
namespace Go.Proofs.YtbjjgnaojoaoiaaGreat
set_option linter.unusedVariables false
set_option linter.unusedSimpArgs false

theorem openS_places {ps : List Per} (h : placesE (itemsOf ps) = 0) : placesE (openS ps) = 0 := by
  have hs := (ordS_is h).places h
  obtain ⟨h1, h2, h3⟩ := placesE_ok hs
  have hsub : (openS ps).Sublist (ordS (itemsOf ps)) := List.filter_sublist
  have e1 : (openS ps).length ≤ 200 := Nat.le_trans hsub.length_le h1
  have e2 : (openS ps).all okI = true := List.all_eq_true.2 fun x hx => List.all_eq_true.1 h2 x (hsub.subset hx)
  have e3 : ((openS ps).map keyI).Nodup := List.Pairwise.sublist (hsub.map keyI) h3
  unfold placesE
  rw [if_pos ⟨e1, e2⟩, if_pos e3]
theorem openS_opens {ps : List Per} (h : placesE (itemsOf ps) = 0) : opens (openS ps) = opens (itemsOf ps) := by
  unfold openS
  rw [opens_live, opens_perm (ordS_is h).1]
theorem total_is {ps : List Per} (h : placesE (itemsOf ps) = 0) (hb : opens (itemsOf ps) ≤ 4611686018427387904) : totalS (openS ps) = (opens (itemsOf ps), 0) := by
  have hp := openS_places h
  obtain ⟨_, hok, _⟩ := placesE_ok hp
  unfold totalS
  rw [if_pos hp]
  unfold sumS
  have ha : ((openS ps).map Dq.opn).all amt = true := List.all_eq_true.2 fun x hx => by
    obtain ⟨y, hy, rfl⟩ := List.mem_map.1 hx
    have := okI_yes (List.all_eq_true.1 hok y hy)
    simp [amt]; omega
  rw [if_pos ha]
  have e : ((openS ps).map Dq.opn).sum = opens (itemsOf ps) := openS_opens h
  rw [e]
  have := opens_nonneg (placesE_ok h).2.1
  exact told_yes (by simp [amt]; omega)
theorem items_nn {S : Ac} (h : Good S) : 0 ≤ opens (itemsOf S.ps) := opens_nonneg (placesE_ok h.places).2.1
/-- What is left of all. -/
theorem opens_rest {its : List Dq} (h : placesE its = 0) {a : Int} (ha : 0 ≤ a) : opens (restI its a) = max (opens its - a) 0 := by
  obtain ⟨_, hok, hnd⟩ := placesE_ok h
  have e : opens (restI its a) = opens its - (payL its a).sum := by
    unfold restI payL opens
    rw [List.map_map]
    clear hok hnd h
    have : ∀ l : List Dq, (l.map (Dq.opn ∘ fun x => ({ due := x.due, kind := x.kind, per := x.per, opn := x.opn - paidI its a x } : Dq))).sum = (l.map Dq.opn).sum - (l.map (paidI its a)).sum := by
      intro l
      induction l with
      | nil => simp
      | cons x l ih => simp only [List.map_cons, List.sum_cons, Function.comp] at ih ⊢; omega
    exact this its
  have ho := ordS_is h
  have hs := ho.places h
  obtain ⟨_, hok2, _⟩ := placesE_ok hs
  have hl : (payL its a).sum = a - leftI its a := by
    have h1 := opens_parts h (a := a)
    have hrise : (ordS its).Pairwise fun a b => keyI a < keyI b := ho.2
    obtain ⟨d, hd, hri⟩ : ∃ d, Pl (ordS its).length d ∧ Rise (ordS its) d := by
      refine ⟨(List.range (ordS its).length).map fun (i : Nat) => (i : Int), List.Perm.refl _, ?_⟩
      unfold Rise
      have : inOrd (ordS its) ((List.range (ordS its).length).map fun (i : Nat) => (i : Int)) = ordS its := by
        unfold inOrd
        apply List.ext_getElem (by simp)
        intro i h1 h2
        simp [h2]
      rw [this]; exact hrise
    have h2 := paidSum hok2 hd hri ha
    have h3 : (payL (ordS its) a).sum = (payL its a).sum := by
      unfold payL
      rw [show paidI (ordS its) a = paidI its a from funext fun x => paidI_perm ho.1 a x]
      exact sum_perm (ho.1.map _)
    rw [← h3, h2, leftI_perm ho.1]
  rw [e, hl]
  unfold leftI
  have := opens_nonneg hok
  omega
theorem leftI_is {its : List Dq} (a : Int) : leftI its a = max (a - opens its) 0 := by unfold leftI; omega
/-- A payment that is taken. -/
theorem pay_ok {S : Ac} (h : Good S) {id a : Int} (hid : 1 ≤ id ∧ id ≤ 1099511627776) (ha : 1 ≤ a ∧ a ≤ 1125899906842624) (hn : S.ms.length < 50) (hnew : ∀ m ∈ S.ms, m.id ≠ id) (hc : S.cr + a ≤ 4611686018427387904) :
    ∃ ps, payS S id a = ({ S with ps := ps, cr := S.cr + leftI (itemsOf S.ps) a, ms := S.ms ++ [⟨id, S.day, a, partsOf (itemsOf S.ps) a, leftI (itemsOf S.ps) a, false⟩] }, ⟨0, 0, 0, a - leftI (itemsOf S.ps) a, leftI (itemsOf S.ps) a, a⟩, 0) ∧ itemsOf ps = restI (itemsOf S.ps) a := by
  obtain ⟨ps, e, hi, hr, hp, hri⟩ := h.paid (a := a) (by omega)
  have hl := leftI_bd h.places (show 0 ≤ a by omega)
  have hcr := h.cr
  have h2 : ¬ 0 ≤ S.pay id := by
    unfold Ac.pay
    rcases idxI_spec (fun p : Pm => decide (p.id = id)) S.ms 0 with ⟨h1, _⟩ | ⟨i, hi, _, h2, _⟩
    · omega
    · exact absurd (by simpa using h2) (hnew _ (List.getElem_mem hi))
  refine ⟨ps, ?_, hi⟩
  unfold payS
  rw [if_neg (by simp; omega), if_neg h2, if_neg (by omega)]
  unfold pay1
  rw [e]
  simp only
  have h3 : addS S.cr (leftI (itemsOf S.ps) a) = (S.cr + leftI (itemsOf S.ps) a, 0) := add_yes (by simp [amt]; omega) (by omega)
  rw [h3, if_pos rfl]
theorem opens_ins (ps : List Per) (i : Nat) (p : Per) : opens (itemsOf (insP ps i p)) = opens (itemsOf ps) + (p.o0 + p.o1 + p.o2) := by
  have e1 : itemsOf (insP ps i p) = itemsOf (ps.take i) ++ (itemsP p ++ itemsOf (ps.drop i)) := by unfold insP itemsOf; rw [List.flatMap_append, List.flatMap_cons]
  have e2 : itemsOf ps = itemsOf (ps.take i) ++ itemsOf (ps.drop i) := by unfold itemsOf; rw [← List.flatMap_append, List.take_append_drop]
  have e3 : opens (itemsP p) = p.o0 + p.o1 + p.o2 := by simp [opens, itemsP]; omega
  rw [e1, opens_app, opens_app, e3]
  conv => rhs; rw [e2, opens_app]
  omega
theorem interest_top {day bp : Int} {p : Per} (hd : 0 ≤ day ∧ day ≤ 738000) (hb : bp = 500) (hp : 0 ≤ p.o2 ∧ p.o2 ≤ 1125899906842624) (hs : 0 ≤ p.since) (h0 : p.done = 0) (hi : (interestS day bp p).2 = 0) : (interestS day bp p).1 ≤ 114841790497947648 := by
  subst hb
  unfold interestS at hi ⊢
  split
  · simp
  · rename_i hlt
    rw [if_neg hlt] at hi
    split
    · rename_i h1
      rw [if_pos h1] at hi
      rw [h0] at hi ⊢
      obtain ⟨e1, _, e3⟩ := add_zero_any _ hi
      rw [e1]
      unfold simpleS
      split
      · have hle : p.o2 * (500 * (day - p.since)) ≤ 1125899906842624 * 369000000 := Int.le_trans (Int.mul_le_mul_of_nonneg_right hp.2 (by omega)) (Int.mul_le_mul_of_nonneg_left (by omega) (by omega))
        have : p.o2 * (500 * (day - p.since)) / 3650000 ≤ 114841790497947648 := by omega
        unfold told; split
        · exact this
        · simp
      · simp
    · simp
/-- What a return adds to what is open, and to the credit. -/
theorem file_top {S : Ac} (h : Good S) (hd : S.day = 738000) (hb : S.bp = 500) (s : Sch) (r : Ret) : (fileS S s r).1.day = 738000 ∧ (fileS S s r).1.bp = 500 ∧ (fileS S s r).1.ms = S.ms ∧
    S.cr ≤ (fileS S s r).1.cr ∧ (fileS S s r).1.cr ≤ S.cr + 1125899906842624 ∧ opens (itemsOf (fileS S s r).1.ps) ≤ opens (itemsOf S.ps) + 117093590311632896 := by
  have base : S.day = 738000 ∧ S.bp = 500 ∧ S.ms = S.ms ∧ S.cr ≤ S.cr ∧ S.cr ≤ S.cr + 1125899906842624 ∧ opens (itemsOf S.ps) ≤ opens (itemsOf S.ps) + 117093590311632896 := ⟨hd, hb, rfl, by omega, by omega, by omega⟩
  unfold fileS
  by_cases h0 : (billS s (r.onDay S.day)).2 ≠ 0
  · rw [if_pos h0]; exact base
  · rw [if_neg h0]
    by_cases h1 : S.place r.per ≠ -1
    · rw [if_pos h1]; exact base
    · rw [if_neg h1]
      by_cases h2 : 20 ≤ S.ps.length
      · rw [if_pos h2]; exact base
      · rw [if_neg h2]
        obtain ⟨b, er, hbl⟩ : ∃ b er, billS s (r.onDay S.day) = (b, er) := ⟨_, _, rfl⟩
        rw [hbl] at h0 ⊢
        simp only at h0 ⊢
        have hbb : retB (r.onDay S.day) = true ∧ (0 ≤ b.prin ∧ b.prin ≤ 1125899906842624) ∧ (0 ≤ b.pen ∧ b.pen ≤ b.prin) ∧ (0 ≤ b.exc ∧ b.exc ≤ 1125899906842624) := by
          by_cases hs : OkS s
          · by_cases hrr : retB (r.onDay S.day) = true
            · rw [billS_yes hs hrr] at hbl
              have h3 := bill_bd hs hrr
              injection hbl with hbl _
              rw [hbl] at h3
              exact ⟨hrr, h3.2.1, h3.2.2.1, h3.2.2.2.1⟩
            · rw [billS_no2 hrr] at hbl; injection hbl with _ h; omega
          · rw [billS_no1 hs] at hbl; injection hbl with _ h; omega
        obtain ⟨hrr, hpr, hpe, hex⟩ := hbb
        unfold file1
        by_cases h3 : (settleS S.day S.bp (newPer (r.onDay S.day) b)).1 ≠ 0
        · rw [if_pos h3]; exact base
        · rw [if_neg h3]
          by_cases h4 : (addS S.cr b.exc).2 ≠ 0
          · rw [if_pos h4]; exact base
          · rw [if_neg h4]
            obtain ⟨e1, e2, e3⟩ := add_ok (by omega : (addS S.cr b.exc).2 = 0)
            obtain ⟨k1, k2, k3, k4, k5, k6⟩ := newPer_ok h hrr hpr hpe (by omega)
            have hdd := dayB_yes (retB_yes hrr).2.1
            have hmore : (settleS S.day S.bp (newPer (r.onDay S.day) b)).2.1 ≤ 114841790497947648 := by
              have hi0 : (interestS S.day S.bp (newPer (r.onDay S.day) b)).2 = 0 := by
                unfold settleS at h3
                by_cases hx : (interestS S.day S.bp (newPer (r.onDay S.day) b)).2 ≠ 0
                · rw [if_pos hx] at h3; exact absurd hx h3
                · omega
              have ht := interest_top (day := S.day) (bp := S.bp) (p := newPer (r.onDay S.day) b) (by omega) hb hpr hdd.1 rfl hi0
              unfold settleS
              rw [if_neg (by omega)]
              split
              · simp
              · show (interestS S.day S.bp (newPer (r.onDay S.day) b)).1 - 0 ≤ _
                omega
            refine ⟨hd, hb, rfl, ?_, ?_, ?_⟩
            · show S.cr ≤ (addS S.cr b.exc).1; omega
            · show (addS S.cr b.exc).1 ≤ _; omega
            · show opens (itemsOf (insP _ _ _)) ≤ _
              rw [opens_ins, k4, k5, k6]
              omega
end Go.Proofs.YtbjjgnaojoaoiaaGreat
/- A slice of structs of four int fields that came in. -/
namespace Go.Proofs.YtbjjgnaojoaoiaaGreat
open Go.ChangeShapes Go.WideShapes Go.Deep Go.RowKit Go
set_option linter.unusedVariables false

def i64ok (z : Int) : Prop := -9223372036854775808 ≤ z ∧ z ≤ 9223372036854775807

theorem spot_of_cell {w : World} {a : Addr} {v : Value} (h : w.cell? a = some v) : a.spot = none := by
  unfold World.cell? at h
  split at h
  · by_cases g : a.spot.isSome = true
    · rw [if_pos g] at h; cases h
    · simpa using g
  · cases h
theorem addr_add {a : Addr} (h : a.spot = none) (n : Nat) : a.add n = ⟨a.block, a.off + n, none⟩ := by
  unfold Addr.add; split
  · rename_i e; subst e; cases a; simp at h; subst h; rfl
  · rfl

section
variable {H : Type} {enc : TypeId × Value → H} {P : Program} {w : World} {base : Nat} {spare : Nat → Bool} {held : Bool}
theorem quad_elem {e : TypeId} {f0 f1 f2 f3 : Field} {n : Nat} {cs : List Value} {x : DataW H × List MemPlace} (he : P.underlying e = some (.struct #[f0, f1, f2, f3])) (hone : oneCellFields P #[f0, f1, f2, f3] = true) (hC : P.cellsOf e = 4)
    (i0 : P.underlying f0.type = some (.int .i64)) (i1 : P.underlying f1.type = some (.int .i64)) (i2 : P.underlying f2.type = some (.int .i64)) (i3 : P.underlying f3.type = some (.int .i64))
    (h : DataW.trod enc P w base spare held n e cs = some x) : ∃ z0 z1 z2 z3 : Int, cs = [.int .i64 z0, .int .i64 z1, .int .i64 z2, .int .i64 z3] ∧ i64ok z0 ∧ i64ok z1 ∧ i64ok z2 ∧ i64ok z3 := by
  obtain ⟨ys, m, _, _, hlen, hyl, hf⟩ := DataW.trod_struct he h
  rw [hC] at hlen
  match cs, hlen with
  | [c0, c1, c2, c3], _ =>
    match ys, hyl with
    | [y0, y1, y2, y3], _ =>
      obtain ⟨o0, k0⟩ := hone_of hone 0 f0 rfl
      obtain ⟨o1, k1⟩ := hone_of hone 1 f1 rfl
      obtain ⟨o2, k2⟩ := hone_of hone 2 f2 rfl
      obtain ⟨o3, k3⟩ := hone_of hone 3 f3 rfl
      have g0 : DataW.trod enc P w base spare held m f0.type [c0] = some y0 := by simpa [o0, k0] using hf 0 f0 rfl
      have g1 : DataW.trod enc P w base spare held m f1.type [c1] = some y1 := by simpa [o1, k1] using hf 1 f1 rfl
      have g2 : DataW.trod enc P w base spare held m f2.type [c2] = some y2 := by simpa [o2, k2] using hf 2 f2 rfl
      have g3 : DataW.trod enc P w base spare held m f3.type [c3] = some y3 := by simpa [o3, k3] using hf 3 f3 rfl
      obtain ⟨z0, e0, _, w0⟩ := DataW.trod_int i0 g0
      obtain ⟨z1, e1, _, w1⟩ := DataW.trod_int i1 g1
      obtain ⟨z2, e2, _, w2⟩ := DataW.trod_int i2 g2
      obtain ⟨z3, e3, _, w3⟩ := DataW.trod_int i3 g3
      simp at e0 e1 e2 e3
      exact ⟨z0, z1, z2, z3, by rw [e0, e1, e2, e3], bounds_i64 w0, bounds_i64 w1, bounds_i64 w2, bounds_i64 w3⟩

/-- Every slice of such structs reads as a list of quadruples. -/
theorem quads_of {t e : TypeId} {f0 f1 f2 f3 : Field} {fuel : Nat} {cs : List Value} {x : DataW H × List MemPlace} (ht : P.underlying t = some (.slice e)) (he : P.underlying e = some (.struct #[f0, f1, f2, f3])) (hone : oneCellFields P #[f0, f1, f2, f3] = true) (hC : P.cellsOf e = 4)
    (i0 : P.underlying f0.type = some (.int .i64)) (i1 : P.underlying f1.type = some (.int .i64)) (i2 : P.underlying f2.type = some (.int .i64)) (i3 : P.underlying f3.type = some (.int .i64))
    (h : DataW.trod enc P w base spare held fuel t cs = some x) :
    ∃ (A : Option Addr) (c : Nat) (l : List (Int × Int × Int × Int)), cs = [.slice A l.length c] ∧ l.length ≤ c ∧ c ≤ maxLen ∧ (∀ q ∈ l, i64ok q.1 ∧ i64ok q.2.1 ∧ i64ok q.2.2.1 ∧ i64ok q.2.2.2) ∧
      (0 < l.length → ∃ b off, A = some ⟨b, off, none⟩ ∧ b < w.heap.size ∧ ∀ k (hk : k < l.length), w.cell? ⟨b, off + k * 4, none⟩ = some (.int .i64 l[k].1) ∧ w.cell? ⟨b, off + k * 4 + 1, none⟩ = some (.int .i64 l[k].2.1) ∧
        w.cell? ⟨b, off + k * 4 + 2, none⟩ = some (.int .i64 l[k].2.2.1) ∧ w.cell? ⟨b, off + k * 4 + 3, none⟩ = some (.int .i64 l[k].2.2.2)) := by
  rcases open_slice ht h with ⟨rfl, _⟩ | ⟨a, len, cap, m, n, D, Pl, rfl, hb, hl, hm, hmm, hx, hi⟩
  · exact ⟨none, 0, [], rfl, by simp, by simp, by simp, fun h => absurd h (by simp)⟩
  · have hlm : len ≤ m := by rw [hmm]; split <;> omega
    have key : ∀ i, i < len → ∃ q : Int × Int × Int × Int, (i64ok q.1 ∧ i64ok q.2.1 ∧ i64ok q.2.2.1 ∧ i64ok q.2.2.2) ∧ w.cell? (a.add (i * 4 + 0)) = some (.int .i64 q.1) ∧ w.cell? (a.add (i * 4 + 1)) = some (.int .i64 q.2.1) ∧ w.cell? (a.add (i * 4 + 2)) = some (.int .i64 q.2.2.1) ∧ w.cell? (a.add (i * 4 + 3)) = some (.int .i64 q.2.2.2) := by
      intro i hil
      obtain ⟨cs', hc, ht'⟩ := hi i (by omega)
      rw [hC] at hc
      obtain ⟨z0, z1, z2, z3, rfl, b0, b1, b2, b3⟩ := quad_elem he hone hC i0 i1 i2 i3 ht'
      obtain ⟨_, _, hat⟩ := World.cells?_some hc
      have a0 := hat 0 (by omega); have a1 := hat 1 (by omega); have a2 := hat 2 (by omega); have a3 := hat 3 (by omega)
      rw [Go.Deep.add_add] at a0 a1 a2 a3
      exact ⟨(z0, z1, z2, z3), ⟨b0, b1, b2, b3⟩, a0, a1, a2, a3⟩
    let q : Nat → Int × Int × Int × Int := fun i => if hil : i < len then Classical.choose (key i hil) else (0, 0, 0, 0)
    have hq : ∀ i (hil : i < len), q i = Classical.choose (key i hil) := fun i hil => dif_pos hil
    have hlen : ((List.range len).map q).length = len := by simp
    have hget : ∀ k (hk : k < ((List.range len).map q).length), ((List.range len).map q)[k] = q k := fun k hk => by simp
    refine ⟨some a, cap, (List.range len).map q, by rw [hlen], by rw [hlen]; exact hl, hm, fun z hz => ?_, fun h0 => ?_⟩
    · obtain ⟨i, hi', rfl⟩ := List.mem_map.1 hz
      have hil := List.mem_range.1 hi'
      rw [hq i hil]; exact (Classical.choose_spec (key i hil)).1
    · rw [hlen] at h0
      obtain ⟨_, _, s1, _⟩ := key 0 h0
      have hsp := spot_of_cell s1
      have hs : a.spot = none := by
        by_cases h4 : (0 * 4 + 0) = 0
        · rw [show a.add (0 * 4 + 0) = a by simp [Addr.add]] at hsp; exact hsp
        · omega
      have hblk := World.block_lt_of_cell? w _ s1
      rw [addr_add hs] at hblk
      refine ⟨a.block, a.off, by cases a; simp at hs; subst hs; rfl, hblk, fun k hk => ?_⟩
      rw [hlen] at hk
      have sp := (Classical.choose_spec (key k hk)).2
      rw [← hq k hk] at sp
      rw [addr_add hs, addr_add hs, addr_add hs, addr_add hs] at sp
      rw [hget k (by rw [hlen]; exact hk)]
      simpa [Nat.add_assoc] using sp
end
end Go.Proofs.YtbjjgnaojoaoiaaGreat
/- A schedule and a return that came in. -/
namespace Go.Proofs.YtbjjgnaojoaoiaaGreat
open Go.ChangeShapes Go.WideShapes Go.Deep Go.RowKit Go
set_option linter.unusedVariables false

section
variable {H : Type} {enc : TypeId × Value → H} {w : World} {base : Nat} {spare : Nat → Bool} {held : Bool}
theorem pair_elem {P : Program} {e : TypeId} {f0 f1 : Field} {n : Nat} {cs : List Value} {x : DataW H × List MemPlace} (he : P.underlying e = some (.struct #[f0, f1])) (hone : oneCellFields P #[f0, f1] = true) (hC : P.cellsOf e = 2)
    (i0 : P.underlying f0.type = some (.int .i64)) (i1 : P.underlying f1.type = some (.int .i64))
    (h : DataW.trod enc P w base spare held n e cs = some x) : ∃ z0 z1 : Int, cs = [.int .i64 z0, .int .i64 z1] := by
  obtain ⟨ys, m, _, _, hlen, hyl, hf⟩ := DataW.trod_struct he h
  rw [hC] at hlen
  match cs, hlen with
  | [c0, c1], _ =>
    match ys, hyl with
    | [y0, y1], _ =>
      obtain ⟨o0, k0⟩ := hone_of hone 0 f0 rfl
      obtain ⟨o1, k1⟩ := hone_of hone 1 f1 rfl
      have g0 : DataW.trod enc P w base spare held m f0.type [c0] = some y0 := by simpa [o0, k0] using hf 0 f0 rfl
      have g1 : DataW.trod enc P w base spare held m f1.type [c1] = some y1 := by simpa [o1, k1] using hf 1 f1 rfl
      obtain ⟨z0, e0, _, _⟩ := DataW.trod_int i0 g0
      obtain ⟨z1, e1, _, _⟩ := DataW.trod_int i1 g1
      simp at e0 e1
      exact ⟨z0, z1, by rw [e0, e1]⟩
theorem brs_of {P : Program} {t e : TypeId} {f0 f1 : Field} {fuel : Nat} {cs : List Value} {x : DataW H × List MemPlace} (ht : P.underlying t = some (.slice e)) (he : P.underlying e = some (.struct #[f0, f1])) (hone : oneCellFields P #[f0, f1] = true) (hC : P.cellsOf e = 2)
    (i0 : P.underlying f0.type = some (.int .i64)) (i1 : P.underlying f1.type = some (.int .i64))
    (h : DataW.trod enc P w base spare held fuel t cs = some x) :
    ∃ (A : Option Addr) (c : Nat) (l : List Br), cs = [.slice A l.length c] ∧ Rd w w.heap.size 2 A l.length (brCs l) := by
  rcases open_slice ht h with ⟨rfl, _⟩ | ⟨a, len, cap, m, n, D, Pl, rfl, hb, hl, hm, hmm, hx, hi⟩
  · exact ⟨none, 0, [], rfl, ⟨rfl, fun h => absurd h (by simp)⟩⟩
  · have hlm : len ≤ m := by rw [hmm]; split <;> omega
    have key : ∀ i, i < len → ∃ q : Br, w.cell? (a.add (i * 2 + 0)) = some (.int .i64 q.frm) ∧ w.cell? (a.add (i * 2 + 1)) = some (.int .i64 q.bp) := by
      intro i hil
      obtain ⟨cs', hc, ht'⟩ := hi i (by omega)
      rw [hC] at hc
      obtain ⟨z0, z1, rfl⟩ := pair_elem he hone hC i0 i1 ht'
      obtain ⟨_, _, hat⟩ := World.cells?_some hc
      have a0 := hat 0 (by omega); have a1 := hat 1 (by omega)
      rw [Go.Deep.add_add] at a0 a1
      exact ⟨⟨z0, z1⟩, a0, a1⟩
    let q : Nat → Br := fun i => if hil : i < len then Classical.choose (key i hil) else ⟨0, 0⟩
    have hq : ∀ i (hil : i < len), q i = Classical.choose (key i hil) := fun i hil => dif_pos hil
    have hlen : ((List.range len).map q).length = len := by simp
    have hget : ∀ k (hk : k < ((List.range len).map q).length), ((List.range len).map q)[k] = q k := fun k hk => by simp
    refine ⟨some a, cap, (List.range len).map q, by rw [hlen], brCs_len _, fun h0 => ?_⟩
    rw [hlen] at h0
    obtain ⟨_, s1, _⟩ := key 0 h0
    have hsp := spot_of_cell s1
    have hs : a.spot = none := by
      rw [show a.add (0 * 2 + 0) = a by simp [Addr.add]] at hsp; exact hsp
    have hblk := World.block_lt_of_cell? w _ s1
    rw [addr_add hs] at hblk
    refine ⟨a.block, a.off, by cases a; simp at hs; subst hs; rfl, hblk, fun j hj => ?_⟩
    rw [hlen] at hj
    have hk : j / 2 < len := by omega
    have sp := Classical.choose_spec (key (j / 2) hk)
    rw [← hq _ hk, addr_add hs, addr_add hs] at sp
    have hk' : j / 2 < ((List.range len).map q).length := by rw [hlen]; exact hk
    have hb2 := brCs_at _ (j / 2) hk'
    rw [fr_at _ _ hk', bpA_at _ _ hk', hget _ hk'] at hb2
    have hmod : j % 2 = 0 ∨ j % 2 = 1 := by omega
    rcases hmod with h | h
    · have e : j = j / 2 * 2 := by omega
      have e1 : j / 2 * 2 + 0 = j := by omega
      rw [e1] at sp
      rw [← e] at hb2
      rw [hb2.1]; exact sp.1
    · have e : j = j / 2 * 2 + 1 := by omega
      rw [← e] at sp hb2
      rw [hb2.2]; exact sp.2
set_option maxRecDepth 100000 in
theorem sched_form {fuel : Nat} {cs : List Value} {x : DataW H × List MemPlace} (h : DataW.trod enc Tryz.prog w base spare held fuel 24 cs = some x) :
    ∃ (A : Option Addr) (c : Nat) (s : Sch), cs = [.slice A s.bs.length c, .int .i64 s.ded, .int .i64 s.cred, .int .i64 s.lbp, .int .i64 s.most, .int .i64 s.least] ∧ Rd w w.heap.size 2 A s.bs.length (brCs s.bs) := by
  obtain ⟨ys, m, _, _, hlen, hyl, hf⟩ := DataW.trod_struct Tryz.underlying24 h
  have h6 : Tryz.prog.cellsOf 24 = 6 := by kernel_rfl
  have hsl : Tryz.prog.cellsOf 22 = 1 := by kernel_rfl
  have hi1 : Tryz.prog.cellsOf 2 = 1 := by kernel_rfl
  have hi2 : Tryz.prog.cellsOf 3 = 1 := by kernel_rfl
  rw [h6] at hlen
  match cs, hlen with
  | [c0, c1, c2, c3, c4, c5], _ =>
    match ys, hyl with
    | [y0, y1, y2, y3, y4, y5], _ =>
      have g0 : DataW.trod enc Tryz.prog w base spare held m 22 (([c0, c1, c2, c3, c4, c5].drop 0).take (Tryz.prog.cellsOf 22)) = some y0 := hf 0 _ rfl
      have g1 : DataW.trod enc Tryz.prog w base spare held m 2 (([c0, c1, c2, c3, c4, c5].drop 1).take (Tryz.prog.cellsOf 2)) = some y1 := hf 1 _ rfl
      have g2 : DataW.trod enc Tryz.prog w base spare held m 2 (([c0, c1, c2, c3, c4, c5].drop 2).take (Tryz.prog.cellsOf 2)) = some y2 := hf 2 _ rfl
      have g3 : DataW.trod enc Tryz.prog w base spare held m 3 (([c0, c1, c2, c3, c4, c5].drop 3).take (Tryz.prog.cellsOf 3)) = some y3 := hf 3 _ rfl
      have g4 : DataW.trod enc Tryz.prog w base spare held m 3 (([c0, c1, c2, c3, c4, c5].drop 4).take (Tryz.prog.cellsOf 3)) = some y4 := hf 4 _ rfl
      have g5 : DataW.trod enc Tryz.prog w base spare held m 2 (([c0, c1, c2, c3, c4, c5].drop 5).take (Tryz.prog.cellsOf 2)) = some y5 := hf 5 _ rfl
      rw [hsl] at g0; rw [hi1] at g1 g2 g5; rw [hi2] at g3 g4
      simp only [List.drop_succ_cons, List.drop_zero, List.take_succ_cons, List.take_zero] at g0 g1 g2 g3 g4 g5
      obtain ⟨A, c, l, e0, hr⟩ := brs_of Tryz.underlying22 Tryz.underlying160 (by kernel_rfl) (by kernel_rfl) Tryz.underlying2 Tryz.underlying3 g0
      obtain ⟨z1, e1, _, _⟩ := DataW.trod_int Tryz.underlying2 g1
      obtain ⟨z2, e2, _, _⟩ := DataW.trod_int Tryz.underlying2 g2
      obtain ⟨z3, e3, _, _⟩ := DataW.trod_int Tryz.underlying3 g3
      obtain ⟨z4, e4, _, _⟩ := DataW.trod_int Tryz.underlying3 g4
      obtain ⟨z5, e5, _, _⟩ := DataW.trod_int Tryz.underlying2 g5
      simp only [List.cons.injEq, and_true] at e0 e1 e2 e3 e4 e5
      subst e0 e1 e2 e3 e4 e5
      exact ⟨A, c, ⟨l, z1, z2, z3, z4, z5⟩, rfl, hr⟩
set_option maxRecDepth 100000 in
theorem ret_form {fuel : Nat} {cs : List Value} {x : DataW H × List MemPlace} (h : DataW.trod enc Tryz.prog w base spare held fuel 37 cs = some x) :
    ∃ r : Ret, cs = [.int .i64 r.per, .int .i64 r.due, .int .i64 r.filed, .int .i64 r.inc, .int .i64 r.wh] := by
  obtain ⟨ys, m, _, _, hlen, hyl, hf⟩ := DataW.trod_struct Tryz.underlying37 h
  have h5 : Tryz.prog.cellsOf 37 = 5 := by kernel_rfl
  have hi1 : Tryz.prog.cellsOf 2 = 1 := by kernel_rfl
  have hi2 : Tryz.prog.cellsOf 3 = 1 := by kernel_rfl
  rw [h5] at hlen
  match cs, hlen with
  | [c0, c1, c2, c3, c4], _ =>
    match ys, hyl with
    | [y0, y1, y2, y3, y4], _ =>
      have g0 : DataW.trod enc Tryz.prog w base spare held m 3 (([c0, c1, c2, c3, c4].drop 0).take (Tryz.prog.cellsOf 3)) = some y0 := hf 0 _ rfl
      have g1 : DataW.trod enc Tryz.prog w base spare held m 3 (([c0, c1, c2, c3, c4].drop 1).take (Tryz.prog.cellsOf 3)) = some y1 := hf 1 _ rfl
      have g2 : DataW.trod enc Tryz.prog w base spare held m 3 (([c0, c1, c2, c3, c4].drop 2).take (Tryz.prog.cellsOf 3)) = some y2 := hf 2 _ rfl
      have g3 : DataW.trod enc Tryz.prog w base spare held m 2 (([c0, c1, c2, c3, c4].drop 3).take (Tryz.prog.cellsOf 2)) = some y3 := hf 3 _ rfl
      have g4 : DataW.trod enc Tryz.prog w base spare held m 2 (([c0, c1, c2, c3, c4].drop 4).take (Tryz.prog.cellsOf 2)) = some y4 := hf 4 _ rfl
      rw [hi2] at g0 g1 g2; rw [hi1] at g3 g4
      simp only [List.drop_succ_cons, List.drop_zero, List.take_succ_cons, List.take_zero] at g0 g1 g2 g3 g4
      obtain ⟨z0, e0, _, _⟩ := DataW.trod_int Tryz.underlying3 g0
      obtain ⟨z1, e1, _, _⟩ := DataW.trod_int Tryz.underlying3 g1
      obtain ⟨z2, e2, _, _⟩ := DataW.trod_int Tryz.underlying3 g2
      obtain ⟨z3, e3, _, _⟩ := DataW.trod_int Tryz.underlying2 g3
      obtain ⟨z4, e4, _, _⟩ := DataW.trod_int Tryz.underlying2 g4
      simp only [List.cons.injEq, and_true] at e0 e1 e2 e3 e4
      subst e0 e1 e2 e3 e4
      exact ⟨⟨z0, z1, z2, z3, z4⟩, rfl⟩
end
end Go.Proofs.YtbjjgnaojoaoiaaGreat
/- A slice of integers that came in. -/
namespace Go.Proofs.YtbjjgnaojoaoiaaGreat
open Go.RowKit Go
set_option linter.unusedVariables false

/-- What the shell says of a slice of integers that came in. -/
theorem Rd.of_row {w : World} {a : Option Addr} {len cap : Nat} {zs : List Int}
    (h : (a = none ∧ len = 0 ∧ cap = 0 ∧ zs = []) ∨ ∃ x, a = some x ∧ len ≤ cap ∧ cap ≤ maxLen ∧ zs.length = cap ∧ (∀ i, i < zs.length → w.cell? (x.add i) = some (.int .i64 (zs.getD i 0))) ∧ ∀ n ∈ zs, (Lit.int .i64 n).wf = true) :
    ∃ l : List Int, l.length = len ∧ len ≤ maxLen ∧ Rd w w.heap.size 1 a l.length (ints l) ∧ ∀ z ∈ l, -9223372036854775808 ≤ z ∧ z ≤ 9223372036854775807 := by
  rcases h with ⟨rfl, rfl, rfl, rfl⟩ | ⟨x, rfl, hl, hm, hz, hc, hw⟩
  · exact ⟨[], rfl, by simp, ⟨rfl, fun h => absurd h (by simp)⟩, by simp⟩
  · refine ⟨zs.take len, by simp; omega, by omega, ⟨by simp [ints], fun h0 => ?_⟩, fun z hzz => ?_⟩
    · have hlen : (zs.take len).length = len := by simp; omega
      rw [hlen] at h0 ⊢
      have hx0 := hc 0 (by omega)
      have hx : x.add 0 = x := by simp [Addr.add]
      rw [hx] at hx0
      have hb := World.block_lt_of_cell? w _ hx0
      have hs : x.spot = none := by
        unfold World.cell? at hx0
        split at hx0
        · by_cases h : x.spot.isSome = true
          · rw [if_pos h] at hx0; cases hx0
          · simpa using h
        · cases hx0
      refine ⟨x.block, x.off, ?_, hb, fun j hj => ?_⟩
      · cases x; simp at hs; subst hs; rfl
      · have hcj := hc j (by omega)
        have he : x.add j = ⟨x.block, x.off + j, none⟩ := by
          unfold Addr.add; split
          · rename_i h; subst h; cases x; simp at hs; subst hs; rfl
          · rfl
        rw [he] at hcj
        rw [hcj, ints_at _ _ (by rw [hlen]; omega)]
        simp [List.getD, show j < zs.length by omega]
    · have h1 := hw z (List.mem_of_mem_take hzz)
      have := bounds_i64 h1
      omega
end Go.Proofs.YtbjjgnaojoaoiaaGreat
