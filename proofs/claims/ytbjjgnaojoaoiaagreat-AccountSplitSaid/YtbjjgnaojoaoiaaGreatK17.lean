/- give: parts are open again, or no more. -/
import Derived.Test.YtbjjgnaojoaoiaaGreatK15
import Derived.Test.YtbjjgnaojoaoiaaGreatK16
namespace Go.Proofs.YtbjjgnaojoaoiaaGreat
open Go.RowKit Go
set_option linter.unusedVariables false
set_option linter.unusedSimpArgs false

def Per.zero : Per := ⟨⟨0, 0, 0, 0, 0⟩, 0, 0, 0, 0, 0, 0⟩
def placeP (n : Int) (ps : List Per) : Int := idxI (fun p : Per => decide (p.ret.per = n)) 0 ps
/-- One part is given. -/
def give1 (day times : Int) (ps : List Per) (x : Dq) : Option (List Per) :=
  if (addS ((ps.getD (placeP x.per ps).toNat Per.zero).opn x.kind) (times * x.opn)).2 = 0 then
    some (ps.set (placeP x.per ps).toNat (Per.setO day (ps.getD (placeP x.per ps).toNat Per.zero) x.kind (addS ((ps.getD (placeP x.per ps).toNat Per.zero).opn x.kind) (times * x.opn)).1))
  else none
def giveS (day times : Int) : List Per → List Dq → Option (List Per)
  | ps, [] => some ps
  | ps, x :: l => match give1 day times ps x with | some ps' => giveS day times ps' l | none => none
/-- What a step of give needs. -/
structure GoodAt (day bp times : Int) (ps : List Per) (x : Dq) : Prop where
  i : ∃ i, i < ps.length ∧ placeP x.per ps = (i : Int)
  kind : x.kind = 0 ∨ x.kind = 1 ∨ x.kind = 2
  mul : -4611686018427387904 ≤ times * x.opn ∧ times * x.opn ≤ 4611686018427387904
  since : ∀ p ∈ ps, 0 ≤ p.since ∧ p.since ≤ 3652058
  int : ∀ p ∈ ps, p.since ≤ day → interestS day bp p = (p.acc, 0)
theorem giveS_take (day times : Int) : ∀ (l : List Dq) (ps : List Per) (k : Nat) (ps' : List Per) (h : k < l.length), giveS day times ps (l.take k) = some ps' →
    giveS day times ps (l.take (k + 1)) = give1 day times ps' l[k] ∧ (give1 day times ps' l[k] = none → giveS day times ps l = none)
  | [], _, _, _, h, _ => by simp at h
  | x :: l, ps, 0, ps', h, e => by
    simp only [List.take_zero, giveS] at e
    injection e with e; subst e
    simp only [List.take_succ_cons, List.take_zero, List.getElem_cons_zero, giveS]
    refine ⟨by cases give1 day times ps x <;> rfl, fun h => by rw [h]⟩
  | x :: l, ps, k + 1, ps', h, e => by
    simp only [List.take_succ_cons, giveS] at e ⊢
    simp only [List.getElem_cons_succ]
    cases h1 : give1 day times ps x with
    | none => rw [h1] at e; simp at e
    | some ps1 =>
      rw [h1] at e
      simp only at e ⊢
      exact giveS_take day times l ps1 k ps' (by simpa using h) e
theorem set_enter (u v : Value) (a b : Int) (w : World) : (callFunc 116 #[u, v, .int .i64 a, .int .i64 b]).run Tryz.prog w = .ok (.enter 116 #[u, v, .int .i64 a, .int .i64 b]) w := by kernel_rfl
/-- Nothing turned but what lies from B on; of what was there the row of periods alone. -/
structure Turn (w : World) (B : Nat) (v : Value) (w' : World) : Prop where
  bel : Below B w w'
  gr : w.grownBy w' v.ownBlock
theorem Turn.refl (w : World) (B : Nat) (v : Value) : Turn w B v w := ⟨Below.refl _ _, ⟨rfl, rfl, rfl, Nat.le_refl _, fun _ _ _ => rfl⟩⟩
theorem Turn.size {w w' : World} {B : Nat} {v : Value} (h : Turn w B v w') : w.heap.size ≤ w'.heap.size := h.bel.size
theorem Turn.below {w w1 w2 : World} {B : Nat} {v : Value} (h : Turn w B v w1) (hb : Below w1.heap.size w1 w2) (hB : B ≤ w1.heap.size) : Turn w B v w2 :=
  ⟨h.bel.trans (hb.mono hB), ⟨hb.os.trans h.gr.os, hb.tape.trans h.gr.tape, hb.output.trans h.gr.output, Nat.le_trans h.gr.size hb.size, fun k hk hn => (hb.block k (Nat.lt_of_lt_of_le hk h.gr.size)).trans (h.gr.block k hk hn)⟩⟩
theorem Turn.ahead {w w1 w2 : World} {B : Nat} {v : Value} (hb : Below w.heap.size w w1) (h : Turn w1 B v w2) (hB : B ≤ w.heap.size) : Turn w B v w2 :=
  ⟨(hb.mono hB).trans h.bel, ⟨h.gr.os.trans hb.os, h.gr.tape.trans hb.tape, h.gr.output.trans hb.output, Nat.le_trans hb.size h.gr.size, fun k hk hn => (h.gr.block k (Nat.lt_of_lt_of_le hk hb.size) hn).trans (hb.block k hk)⟩⟩
theorem Turn.puts {w w1 w2 : World} {B gp n cap : Nat} {us : List (Nat × Value)} (h : Turn w B (.slice (some ⟨gp, 0, none⟩) n cap) w1) (hp : Puts w1 gp us w2) (hgp : B ≤ gp) (hB : B ≤ w1.heap.size) : Turn w B (.slice (some ⟨gp, 0, none⟩) n cap) w2 :=
  ⟨h.bel.trans (hp.toBelow hgp hB), ⟨hp.os.trans h.gr.os, hp.tape.trans h.gr.tape, hp.output.trans h.gr.output, Nat.le_trans h.gr.size hp.size, fun k hk hn => (hp.far k (Nat.lt_of_lt_of_le hk h.gr.size) (fun e => hn (by rw [e]; rfl))).trans (h.gr.block k hk hn)⟩⟩
/-- How give ends. -/
def GiveOf (w : World) (B g : Nat) (S : Ac) (vp vq v : Value) (qs : List PmE) (parts : List Dq) (r : Option (List Per)) (e : Ending) (w' : World) : Prop := Turn w B vp w' ∧
  match r with
  | some ps => (∃ x, e = .returned x) ∧ OwnV w' B g { S with ps := ps } vp vq qs ∧ PartsAt w' v parts ∧ ps.length = S.ps.length
  | none => e = pan 2
structure GiveInv (w wr : World) (B g : Nat) (S : Ac) (vp vq v : Value) (qs : List PmE) (parts : List Dq) (times : Int) (k : Nat) (ps : List Per) : Prop where
  eq : giveS S.day times S.ps (parts.take k) = some ps
  own : OwnV wr B g { S with ps := ps } vp vq qs
  pt : PartsAt wr v parts
  len : ps.length = S.ps.length
  bel : Turn w B vp wr
theorem GiveInv.step {w wr w1 w2 : World} {B g gp cap i k : Nat} {S : Ac} {vq v : Value} {qs : List PmE} {parts : List Dq} {times n : Int} {ps : List Per} (h : GiveInv w wr B g S (.slice (some ⟨gp, 0, none⟩) ps.length cap) vq v qs parts times k ps) (hk : k < parts.length)
    (hi : i < ps.length) (he : placeP (parts[k]).per ps = (i : Int)) (hkd : (parts[k]).kind = 0 ∨ (parts[k]).kind = 1 ∨ (parts[k]).kind = 2) (ha : addS ((ps[i]).opn (parts[k]).kind) (times * (parts[k]).opn) = (n, 0)) (hb : Below wr.heap.size wr w1)
    (hp : Puts w1 gp (setU S.day ps[i] (i * 11) (parts[k]).kind n) w2) (hBr : B ≤ wr.heap.size) (hgp : B ≤ gp) :
    GiveInv w w2 B g S (.slice (some ⟨gp, 0, none⟩) ps.length cap) vq v qs parts times (k + 1) (ps.set i (Per.setO S.day ps[i] (parts[k]).kind n)) := by
  have hg : ps.getD i Per.zero = ps[i] := by simp [hi]
  have hpp : Puts wr gp (setU S.day ps[i] (i * 11) (parts[k]).kind n) w2 := hp.after hb
  have h1 := giveS_take S.day times parts S.ps k ps hk h.eq
  obtain ⟨b, cs, hcs⟩ := own_block_type h.own.hp (b := gp) rfl
  refine ⟨?_, ?_, h.pt.puts3 hpp hcs (by decide), by simpa using h.len, h.bel.puts hpp hgp hBr⟩
  · rw [h1.1, give1, he, Int.toNat_natCast, hg, ha]; rfl
  · exact OwnV.puts (S := { S with ps := ps }) h.own (by show 0 < ps.length; omega) hpp (by simp) (setU_puts hi S.day _ n hkd)
end Go.Proofs.YtbjjgnaojoaoiaaGreat
/- An account that is right, and what it pays, in plain words. -/
namespace Go.Proofs.YtbjjgnaojoaoiaaGreat
set_option linter.unusedVariables false
set_option linter.unusedSimpArgs false

/-- Items in the order in which they are paid. -/
def ordS (its : List Dq) : List Dq := its.mergeSort fun a b => decide (keyI a ≤ keyI b)
theorem ordS_is {its : List Dq} (h : placesE its = 0) : IsOrd its (ordS its) := by
  have hn := (placesE_ok h).2.2
  have hp : (ordS its).Perm its := List.mergeSort_perm _ _
  refine ⟨hp, ?_⟩
  have hs := List.pairwise_mergeSort (le := fun a b : Dq => decide (keyI a ≤ keyI b)) (fun a b c h1 h2 => by simp only [decide_eq_true_eq] at *; omega) (fun a b => by simp only [Bool.or_eq_true, decide_eq_true_eq]; omega) its
  have hnd : ((ordS its).map keyI).Nodup := (hp.map keyI).nodup_iff.2 hn
  have h1 : (ordS its).Pairwise fun a b => keyI a ≠ keyI b := (List.pairwise_map.1 hnd)
  have h2 : (ordS its).Pairwise fun a b => decide (keyI a ≤ keyI b) = true := hs
  exact (List.pairwise_and_iff.2 ⟨h1, h2⟩).imp fun ⟨h1, h2⟩ => by simp only [decide_eq_true_eq] at h2; omega
theorem IsOrd.eq {its s : List Dq} (h : placesE its = 0) (k : IsOrd its s) : s = ordS its := k.same (ordS_is h)
theorem IsOrd.places {its s : List Dq} (k : IsOrd its s) (h : placesE its = 0) : placesE s = 0 := by
  obtain ⟨h1, h2, h3⟩ := placesE_ok h
  have e1 : s.length ≤ 200 := by rw [k.len]; exact h1
  have e2 : s.all okI = true := List.all_eq_true.2 fun x hx => List.all_eq_true.1 h2 x (k.1.mem_iff.1 hx)
  have e3 : (s.map keyI).Nodup := (k.1.map keyI).nodup_iff.2 h3
  unfold placesE
  rw [if_pos ⟨e1, e2⟩, if_pos e3]
/-- What is paid of each, as items. -/
def paidRow (s : List Dq) (a : Int) : List Dq := s.map fun x => { x with opn := paidI s a x }
theorem paidRow_len (s : List Dq) (a : Int) : (paidRow s a).length = s.length := by simp [paidRow]
def partsOf (its : List Dq) (a : Int) : List Dq := live (paidRow (ordS its) a)
theorem paidI_perm {s t : List Dq} (h : s.Perm t) (a : Int) (x : Dq) : paidI s a x = paidI t a x := by unfold paidI; rw [ahd_perm h]
theorem leftI_perm {s t : List Dq} (h : s.Perm t) (a : Int) : leftI s a = leftI t a := by unfold leftI; rw [opens_perm h]

/-- A period that is right. -/
structure PerOk (day bp : Int) (p : Per) : Prop where
  ret : retB p.ret = true
  b0 : 0 ≤ p.o0 ∧ p.o0 ≤ 4611686018427387904
  b1 : 0 ≤ p.o1 ∧ p.o1 ≤ 4611686018427387904
  b2 : 0 ≤ p.o2 ∧ p.o2 ≤ 4611686018427387904
  since : p.ret.due ≤ p.since ∧ p.since ≤ 3652058
  at_ : p.since = p.ret.due ∨ p.since ≤ day
  done : 0 ≤ p.done ∧ p.done ≤ 4611686018427387904
  acc : 0 ≤ p.acc ∧ p.acc ≤ 4611686018427387904
  int : p.since ≤ day → interestS day bp p = (p.acc, 0)
  none_ : day < p.since → p.done = 0 ∧ p.acc = 0
theorem PerOk.due {day bp : Int} {p : Per} (h : PerOk day bp p) : 0 ≤ p.ret.due ∧ p.ret.due ≤ 3652058 := dayB_yes (retB_yes h.ret).2.1
theorem PerOk.since0 {day bp : Int} {p : Per} (h : PerOk day bp p) : 0 ≤ p.since ∧ p.since ≤ 3652058 := by have := h.due; have := h.since; omega
theorem simple_zero {p bp : Int} (hp : 0 ≤ p ∧ p ≤ 4611686018427387904) (hb : 0 ≤ bp ∧ bp ≤ 100000) : simpleS p bp 0 = (0, 0) := by
  have h1 : okP p = true := by simpa [okP] using hp
  have h2 : okR bp = true := by simpa [okR] using hb
  have h3 : okD 0 = true := by decide
  rw [simpleS, h1, h2, h3, Int.mul_zero, Int.mul_zero]; rfl
theorem add_zero_amt {a : Int} (h : 0 ≤ a ∧ a ≤ 4611686018427387904) : addS a 0 = (a, 0) := by
  have h1 : (amt a && amt 0) = true := by simp [amt]; omega
  rw [add_yes h1 (by omega), Int.add_zero]
/-- Something else is open of a kind. -/
theorem PerOk.setO {day bp : Int} {p : Per} (h : PerOk day bp p) (hd : 0 ≤ day ∧ day ≤ 3652058) (hb : 0 ≤ bp ∧ bp ≤ 100000) {kind v : Int} (hk : kind = 0 ∨ kind = 1 ∨ kind = 2) (hv : 0 ≤ v ∧ v ≤ 4611686018427387904) : PerOk day bp (Per.setO day p kind v) ∧ (Per.setO day p kind v).ret = p.ret := by
  unfold Per.setO
  by_cases hc : kind = 2 ∧ v ≠ p.o2 ∧ p.since ≤ day
  · rw [if_pos hc]
    refine ⟨⟨h.ret, h.b0, h.b1, hv, ⟨by have := h.since; show p.ret.due ≤ day; omega, hd.2⟩, .inr (Int.le_refl _), h.acc, h.acc, fun _ => ?_, fun hlt => absurd hlt (by show ¬ day < day; omega)⟩, rfl⟩
    show interestS day bp { p with o2 := v, done := p.acc, since := day } = (p.acc, 0)
    unfold interestS
    simp only [Int.sub_self, simple_zero hv hb]
    rw [if_neg (by omega)]
    exact add_zero_amt h.acc
  · rw [if_neg hc]
    unfold Per.putO
    by_cases h0 : kind = 0
    · rw [if_pos h0]
      exact ⟨⟨h.ret, hv, h.b1, h.b2, h.since, h.at_, h.done, h.acc, h.int, h.none_⟩, rfl⟩
    · rw [if_neg h0]
      by_cases h1 : kind = 1
      · rw [if_pos h1]
        exact ⟨⟨h.ret, h.b0, hv, h.b2, h.since, h.at_, h.done, h.acc, h.int, h.none_⟩, rfl⟩
      · rw [if_neg h1]
        refine ⟨⟨h.ret, h.b0, h.b1, hv, h.since, h.at_, h.done, h.acc, fun hs => ?_, h.none_⟩, rfl⟩
        have h2 : kind = 2 := by omega
        have he : v = p.o2 := by
          rcases Classical.em (v = p.o2) with e | e
          · exact e
          · exact absurd ⟨h2, e, hs⟩ hc
        subst he
        exact h.int hs

theorem flat_congr {α β : Type} {f g : α → List β} : ∀ {l : List α}, (∀ a ∈ l, f a = g a) → l.flatMap f = l.flatMap g
  | [], _ => rfl
  | a :: l, h => by rw [List.flatMap_cons, List.flatMap_cons, h a (by simp), flat_congr fun b hb => h b (by simp [hb])]
/-- Periods rise. -/
def RiseP (ps : List Per) : Prop := ps.Pairwise fun a b => a.ret.per < b.ret.per
theorem riseP_ret {ps qs : List Per} (h : RiseP ps) (e : qs.map Per.ret = ps.map Per.ret) : RiseP qs := by
  have h1 : (ps.map Per.ret).Pairwise fun a b => a.per < b.per := List.pairwise_map.2 h
  rw [← e] at h1
  exact (List.pairwise_map (R := fun a b : Ret => a.per < b.per)).1 h1
theorem RiseP.inj {ps : List Per} (h : RiseP ps) {i j : Nat} (hi : i < ps.length) (hj : j < ps.length) (e : ps[i].ret.per = ps[j].ret.per) : i = j := by
  rcases Nat.lt_trichotomy i j with h1 | h1 | h1
  · have := List.pairwise_iff_getElem.1 h i j hi hj h1; omega
  · exact h1
  · have := List.pairwise_iff_getElem.1 h j i hj hi h1; omega
theorem place_at {ps : List Per} (h : RiseP ps) {i : Nat} (hi : i < ps.length) : placeP ps[i].ret.per ps = (i : Int) := by
  unfold placeP
  rcases idxI_spec (fun p : Per => decide (p.ret.per = ps[i].ret.per)) ps 0 with ⟨_, h2⟩ | ⟨j, hj, h1, h2, _⟩
  · have := h2 ps[i] (List.getElem_mem hi); simp at this
  · rw [h1, h.inj hj hi (by simpa using h2)]; simp
theorem place_ret {ps qs : List Per} (n : Int) (e : qs.map Per.ret = ps.map Per.ret) : placeP n qs = placeP n ps := by
  unfold placeP
  have h : ∀ l : List Per, idxI (fun p : Per => decide (p.ret.per = n)) 0 l = idxI (fun r : Ret => decide (r.per = n)) 0 (l.map Per.ret) := fun l => idxI_map Per.ret (fun r : Ret => decide (r.per = n)) l 0
  rw [h, h, e]
theorem place_is {ps : List Per} {n : Int} {i : Nat} (h : placeP n ps = (i : Int)) : ∃ hi : i < ps.length, ps[i].ret.per = n := by
  unfold placeP at h
  rcases idxI_spec (fun p : Per => decide (p.ret.per = n)) ps 0 with ⟨h1, _⟩ | ⟨j, hj, h1, h2, _⟩
  · omega
  · have : i = j := by omega
    subst this
    exact ⟨hj, by simpa using h2⟩
theorem RiseP.mem {ps : List Per} (h : RiseP ps) {p : Per} (hp : p ∈ ps) {i : Nat} (hi : i < ps.length) (e : p.ret.per = ps[i].ret.per) : p = ps[i] := by
  obtain ⟨j, hj, rfl⟩ := List.mem_iff_getElem.1 hp
  have := h.inj hj hi e
  subst this; rfl
theorem set_map {ps : List Per} (h : RiseP ps) {i : Nat} (hi : i < ps.length) (x : Per) : ps.set i x = ps.map fun p => if p.ret.per = ps[i].ret.per then x else p := by
  apply List.ext_getElem (by simp)
  intro j h1 h2
  rw [List.getElem_set, List.getElem_map]
  have hj : j < ps.length := by simpa using h1
  by_cases e : i = j
  · subst e; simp
  · rw [if_neg e, if_neg (fun e2 => e (h.inj hi hj e2.symm))]
theorem items_opn {ps : List Per} {y : Dq} (hy : y ∈ itemsOf ps) : ∃ p ∈ ps, y.per = p.ret.per ∧ y.due = p.ret.due ∧ (y.kind = 0 ∨ y.kind = 1 ∨ y.kind = 2) ∧ y.opn = p.opn y.kind := by
  obtain ⟨p, hp, hy⟩ := List.mem_flatMap.1 hy
  refine ⟨p, hp, ?_⟩
  simp only [itemsP, List.mem_cons, List.not_mem_nil, or_false] at hy
  rcases hy with rfl | rfl | rfl <;> simp [Per.opn]
/-- What one part of a kind turns. -/
theorem itemsP_setO (day : Int) (p : Per) (kind v : Int) (hk : kind = 0 ∨ kind = 1 ∨ kind = 2) : itemsP (Per.setO day p kind v) = (itemsP p).map fun y => if y.kind = kind then { y with opn := v } else y := by
  rcases hk with rfl | rfl | rfl
  · simp [Per.setO, Per.putO, itemsP]
  · simp [Per.setO, Per.putO, itemsP]
  · unfold Per.setO
    split <;> simp [Per.putO, itemsP]
theorem setO_ret (day : Int) (p : Per) (kind v : Int) : (Per.setO day p kind v).ret = p.ret := by
  unfold Per.setO Per.putO
  split
  · rfl
  · split
    · rfl
    · split <;> rfl
def amtFor (parts : List Dq) (per kind : Int) : Int := opens (parts.filter fun x => decide (x.per = per ∧ x.kind = kind))
theorem amtFor_one (x : Dq) (per kind : Int) : amtFor [x] per kind = if x.per = per ∧ x.kind = kind then x.opn else 0 := by
  unfold amtFor
  by_cases h : x.per = per ∧ x.kind = kind
  · rw [if_pos h, List.filter_cons, if_pos (by simpa using h)]; simp [opens]
  · rw [if_neg h, List.filter_cons, if_neg (by simpa using h)]; simp [opens]
def bump (times : Int) (parts : List Dq) (y : Dq) : Dq := { y with opn := y.opn + times * amtFor parts y.per y.kind }
theorem items_set {ps : List Per} (h : RiseP ps) {i : Nat} (hi : i < ps.length) (day kind v : Int) (hk : kind = 0 ∨ kind = 1 ∨ kind = 2) :
    itemsOf (ps.set i (Per.setO day ps[i] kind v)) = (itemsOf ps).map fun y => if y.per = ps[i].ret.per ∧ y.kind = kind then { y with opn := v } else y := by
  rw [set_map h hi]
  unfold itemsOf
  rw [List.flatMap_map, List.map_flatMap]
  apply flat_congr
  intro p hp
  by_cases e : p.ret.per = ps[i].ret.per
  · rw [if_pos e, itemsP_setO day _ kind v hk, h.mem hp hi e]
    apply List.map_congr_left
    intro y hy
    have : y.per = ps[i].ret.per := by
      simp only [itemsP, List.mem_cons, List.not_mem_nil, or_false] at hy
      rcases hy with rfl | rfl | rfl <;> rfl
    simp [this]
  · rw [if_neg e]
    have : (itemsP p).map (fun y => if y.per = ps[i].ret.per ∧ y.kind = kind then { y with opn := v } else y) = (itemsP p).map id := by
      apply List.map_congr_left
      intro y hy
      have : y.per = p.ret.per := by
        simp only [itemsP, List.mem_cons, List.not_mem_nil, or_false] at hy
        rcases hy with rfl | rfl | rfl <;> rfl
      rw [if_neg (fun e2 => e (this.symm.trans e2.1))]; rfl
    rw [this, List.map_id]
theorem add_ok {a b : Int} (h : (addS a b).2 = 0) : (addS a b).1 = a + b ∧ -4611686018427387904 ≤ a + b ∧ a + b ≤ 4611686018427387904 := by
  unfold addS at h ⊢
  split
  · rename_i h1
    rw [if_pos h1] at h
    unfold told at h ⊢
    split
    · rename_i h2
      have := h2
      simp [amt] at this
      exact ⟨rfl, this⟩
    · rename_i h2; rw [if_neg h2] at h; simp at h
  · rename_i h1; rw [if_neg h1] at h; simp at h
/-- A part whose period is there. -/
def Placed (ps : List Per) (x : Dq) : Prop := (∃ i, i < ps.length ∧ placeP x.per ps = (i : Int)) ∧ (x.kind = 0 ∨ x.kind = 1 ∨ x.kind = 2)
theorem Placed.ret {ps qs : List Per} {x : Dq} (h : Placed ps x) (e : qs.map Per.ret = ps.map Per.ret) : Placed qs x := by
  obtain ⟨⟨i, hi, hp⟩, hk⟩ := h
  have hl : qs.length = ps.length := by have := congrArg List.length e; simpa using this
  exact ⟨⟨i, by omega, by rw [place_ret x.per e]; exact hp⟩, hk⟩
theorem give1_items {ps ps' : List Per} (h : RiseP ps) {day times : Int} {x : Dq} (hx : Placed ps x) (hg : give1 day times ps x = some ps') :
    itemsOf ps' = (itemsOf ps).map (bump times [x]) ∧ ps'.map Per.ret = ps.map Per.ret ∧ ∃ i, ∃ hi : i < ps.length, ps[i].ret.per = x.per ∧ ps' = ps.set i (Per.setO day ps[i] x.kind (ps[i].opn x.kind + times * x.opn)) ∧ -4611686018427387904 ≤ ps[i].opn x.kind + times * x.opn ∧ ps[i].opn x.kind + times * x.opn ≤ 4611686018427387904 := by
  obtain ⟨⟨i, hi, hp⟩, hk⟩ := hx
  obtain ⟨_, hper⟩ := place_is hp
  have hgd : ps.getD i Per.zero = ps[i] := by rw [List.getD_eq_getElem?_getD, List.getElem?_eq_getElem hi]; rfl
  rw [give1, hp, Int.toNat_natCast, hgd] at hg
  by_cases h0 : (addS (ps[i].opn x.kind) (times * x.opn)).2 = 0
  · obtain ⟨e1, e2, e3⟩ := add_ok h0
    rw [if_pos h0, e1] at hg
    injection hg with hg
    subst hg
    refine ⟨?_, ?_, i, hi, hper, rfl, e2, e3⟩
    · rw [items_set h hi day x.kind _ hk]
      apply List.map_congr_left
      intro y hy
      unfold bump
      rw [amtFor_one]
      by_cases e : y.per = ps[i].ret.per ∧ y.kind = x.kind
      · rw [if_pos e, if_pos ⟨by rw [e.1, hper], e.2.symm⟩]
        obtain ⟨p, hp, f1, f2, f3, f4⟩ := items_opn hy
        have := h.mem hp hi (f1.symm.trans e.1)
        subst this
        rw [f4, e.2]
      · rw [if_neg e, if_neg (fun e6 => e ⟨e6.1.symm.trans hper.symm, e6.2.symm⟩)]
        simp
    · rw [List.map_set, setO_ret]
      apply List.ext_getElem (by simp)
      intro j h1 h2
      rw [List.getElem_set]
      split
      · rename_i e; subst e; simp
      · rfl
  · rw [if_neg h0] at hg; cases hg
theorem amtFor_cons (x : Dq) (l : List Dq) (per kind : Int) : amtFor (x :: l) per kind = amtFor [x] per kind + amtFor l per kind := by
  unfold amtFor
  have : x :: l = [x] ++ l := rfl
  rw [this, List.filter_append, opens_app]
theorem giveS_items {day times : Int} : ∀ (l : List Dq) {ps ps' : List Per}, RiseP ps → (∀ x ∈ l, Placed ps x) → giveS day times ps l = some ps' → itemsOf ps' = (itemsOf ps).map (bump times l) ∧ ps'.map Per.ret = ps.map Per.ret
  | [], ps, ps', h, _, hg => by
    simp only [giveS] at hg; injection hg with hg; subst hg
    refine ⟨?_, rfl⟩
    have : (itemsOf ps).map (bump times []) = (itemsOf ps).map id := List.map_congr_left fun y _ => by simp [bump, amtFor, opens]
    rw [this, List.map_id]
  | x :: l, ps, ps', h, hl, hg => by
    simp only [giveS] at hg
    cases h1 : give1 day times ps x with
    | none => rw [h1] at hg; cases hg
    | some ps1 =>
      rw [h1] at hg
      obtain ⟨e1, e2, _⟩ := give1_items h (hl x (by simp)) h1
      obtain ⟨e3, e4⟩ := giveS_items l (riseP_ret h e2) (fun y hy => (hl y (by simp [hy])).ret e2) hg
      refine ⟨?_, e4.trans e2⟩
      rw [e3, e1, List.map_map]
      apply List.map_congr_left
      intro y _
      simp only [Function.comp, bump]
      rw [amtFor_cons x l, Int.mul_add]
      simp only [Dq.mk.injEq, true_and]
      omega
end Go.Proofs.YtbjjgnaojoaoiaaGreat
/- What paying leaves, in plain words. -/
namespace Go.Proofs.YtbjjgnaojoaoiaaGreat
set_option linter.unusedVariables false
set_option linter.unusedSimpArgs false

theorem opens_cons (x : Dq) (l : List Dq) : opens (x :: l) = x.opn + opens l := by simp [opens]
theorem opens_nn {l : List Dq} (h : ∀ x ∈ l, 0 ≤ x.opn) : 0 ≤ opens l := sum_nonneg fun x hx => by
  obtain ⟨y, hy, rfl⟩ := List.mem_map.1 hx; exact h y hy
theorem amtFor_nn {l : List Dq} (h : ∀ x ∈ l, 0 ≤ x.opn) (per kind : Int) : 0 ≤ amtFor l per kind := opens_nn fun x hx => h x (List.mem_filter.1 hx).1
theorem amtFor_app (a b : List Dq) (per kind : Int) : amtFor (a ++ b) per kind = amtFor a per kind + amtFor b per kind := by
  unfold amtFor; rw [List.filter_append, opens_app]
theorem amtFor_take {l : List Dq} (h : ∀ x ∈ l, 0 ≤ x.opn) (per kind : Int) (k : Nat) : amtFor (l.take k) per kind ≤ amtFor l per kind := by
  have e : amtFor l per kind = amtFor (l.take k) per kind + amtFor (l.drop k) per kind := by rw [← amtFor_app, List.take_append_drop]
  have := amtFor_nn (fun x hx => h x (List.mem_of_mem_drop hx)) per kind (l := l.drop k)
  omega
theorem opn_bd {day bp : Int} {p : Per} (h : PerOk day bp p) {k : Int} (hk : k = 0 ∨ k = 1 ∨ k = 2) : 0 ≤ p.opn k ∧ p.opn k ≤ 4611686018427387904 := by
  have := h.b0; have := h.b1; have := h.b2
  rcases hk with rfl | rfl | rfl <;> simp [Per.opn] <;> omega
/-- What giving may be: by 1, or by -1 no more than is open. -/
def Fits (ps : List Per) (times : Int) (l : List Dq) : Prop := times = 1 ∨ (times = -1 ∧ ∀ y ∈ itemsOf ps, amtFor l y.per y.kind ≤ y.opn)
theorem items_at {ps : List Per} {i : Nat} (hi : i < ps.length) {k : Int} (hk : k = 0 ∨ k = 1 ∨ k = 2) : (⟨ps[i].ret.due, k, ps[i].ret.per, ps[i].opn k⟩ : Dq) ∈ itemsOf ps := by
  refine List.mem_flatMap.2 ⟨ps[i], List.getElem_mem hi, ?_⟩
  rcases hk with rfl | rfl | rfl <;> simp [itemsP, Per.opn]
theorem give1_ok {day bp times : Int} {ps ps' : List Per} {x : Dq} {l : List Dq} (hd : 0 ≤ day ∧ day ≤ 3652058) (hb : 0 ≤ bp ∧ bp ≤ 100000) (hr : RiseP ps) (hp : ∀ p ∈ ps, PerOk day bp p) (hx : Placed ps x) (ho : ∀ y ∈ x :: l, 0 ≤ y.opn) (hf : Fits ps times (x :: l))
    (hg : give1 day times ps x = some ps') : (∀ p ∈ ps', PerOk day bp p) ∧ RiseP ps' ∧ Fits ps' times l := by
  obtain ⟨e1, e2, i, hi, hper, rfl, v1, v2⟩ := give1_items hr hx hg
  have hk := hx.2
  have hv : 0 ≤ ps[i].opn x.kind + times * x.opn := by
    have b := opn_bd (hp _ (List.getElem_mem hi)) hk
    have o := ho x (by simp)
    rcases hf with rfl | ⟨rfl, hf⟩
    · omega
    · have := hf _ (items_at hi hk)
      have h2 := amtFor_nn (fun y hy => ho y (by simp [hy])) x.per x.kind (l := l)
      have h3 := amtFor_cons x l x.per x.kind
      rw [amtFor_one, if_pos ⟨rfl, rfl⟩] at h3
      simp only [hper] at this
      omega
  refine ⟨fun p hpp => ?_, riseP_ret hr e2, ?_⟩
  · rcases List.mem_or_eq_of_mem_set hpp with h | rfl
    · exact hp p h
    · exact ((hp _ (List.getElem_mem hi)).setO hd hb hk ⟨hv, v2⟩).1
  · rcases hf with h | ⟨rfl, hf⟩
    · exact .inl h
    · refine .inr ⟨rfl, fun y hy => ?_⟩
      rw [e1] at hy
      obtain ⟨y0, hy0, rfl⟩ := List.mem_map.1 hy
      have := hf y0 hy0
      rw [amtFor_cons x l] at this
      simp only [bump]
      omega
theorem giveS_ok {day bp times : Int} (hd : 0 ≤ day ∧ day ≤ 3652058) (hb : 0 ≤ bp ∧ bp ≤ 100000) : ∀ (l : List Dq) {ps ps' : List Per}, RiseP ps → (∀ p ∈ ps, PerOk day bp p) → (∀ x ∈ l, Placed ps x) → (∀ y ∈ l, 0 ≤ y.opn) → Fits ps times l →
    giveS day times ps l = some ps' → (∀ p ∈ ps', PerOk day bp p) ∧ RiseP ps' ∧ ps'.map Per.ret = ps.map Per.ret
  | [], ps, ps', hr, hp, _, _, _, hg => by
    simp only [giveS] at hg; injection hg with hg; subst hg; exact ⟨hp, hr, rfl⟩
  | x :: l, ps, ps', hr, hp, hl, ho, hf, hg => by
    simp only [giveS] at hg
    cases h1 : give1 day times ps x with
    | none => rw [h1] at hg; cases hg
    | some ps1 =>
      rw [h1] at hg
      obtain ⟨q1, q2, q3⟩ := give1_ok hd hb hr hp (hl x (by simp)) ho hf h1
      have e2 := (give1_items hr (hl x (by simp)) h1).2.1
      obtain ⟨r1, r2, r3⟩ := giveS_ok hd hb l q2 q1 (fun y hy => (hl y (by simp [hy])).ret e2) (fun y hy => ho y (by simp [hy])) q3 hg
      exact ⟨r1, r2, r3.trans e2⟩
/-- By -1 it goes through. -/
theorem giveS_some {day bp : Int} (hd : 0 ≤ day ∧ day ≤ 3652058) (hb : 0 ≤ bp ∧ bp ≤ 100000) : ∀ (l : List Dq) {ps : List Per}, RiseP ps → (∀ p ∈ ps, PerOk day bp p) → (∀ x ∈ l, Placed ps x) → (∀ y ∈ l, 0 ≤ y.opn) → Fits ps (-1) l →
    ∃ ps', giveS day (-1) ps l = some ps'
  | [], ps, hr, hp, _, _, _ => ⟨ps, rfl⟩
  | x :: l, ps, hr, hp, hl, ho, hf => by
    obtain ⟨⟨i, hi, hpl⟩, hk⟩ := hl x (by simp)
    obtain ⟨_, hper⟩ := place_is hpl
    have hgd : ps.getD i Per.zero = ps[i] := by rw [List.getD_eq_getElem?_getD, List.getElem?_eq_getElem hi]; rfl
    have b := opn_bd (hp _ (List.getElem_mem hi)) hk
    have o := ho x (by simp)
    have hle : x.opn ≤ ps[i].opn x.kind := by
      rcases hf with h | ⟨_, hf⟩
      · omega
      · have := hf _ (items_at hi hk)
        have h2 := amtFor_nn (fun y hy => ho y (by simp [hy])) x.per x.kind (l := l)
        have h3 := amtFor_cons x l x.per x.kind
        rw [amtFor_one, if_pos ⟨rfl, rfl⟩] at h3
        simp only [hper] at this
        omega
    have ha : addS (ps[i].opn x.kind) (-1 * x.opn) = (ps[i].opn x.kind + -1 * x.opn, 0) := add_yes (by simp [amt]; omega) (by omega)
    have h1 : give1 day (-1) ps x = some (ps.set i (Per.setO day ps[i] x.kind (ps[i].opn x.kind + -1 * x.opn))) := by
      rw [give1, hpl, Int.toNat_natCast, hgd, ha]; rfl
    obtain ⟨q1, q2, q3⟩ := give1_ok hd hb hr hp (hl x (by simp)) ho hf h1
    have e2 := (give1_items hr (hl x (by simp)) h1).2.1
    obtain ⟨ps', e⟩ := giveS_some hd hb l q2 q1 (fun y hy => (hl y (by simp [hy])).ret e2) (fun y hy => ho y (by simp [hy])) q3
    exact ⟨ps', by simp only [giveS, h1]; exact e⟩
theorem Fits.take {ps : List Per} {times : Int} {l : List Dq} (h : Fits ps times l) (ho : ∀ y ∈ l, 0 ≤ y.opn) (k : Nat) : Fits ps times (l.take k) :=
  h.imp id fun ⟨e, h⟩ => ⟨e, fun y hy => Int.le_trans (amtFor_take ho _ _ k) (h y hy)⟩
/-- So each step of the walk may be. -/
theorem good_at {day bp times : Int} {ps : List Per} {l : List Dq} (hd : 0 ≤ day ∧ day ≤ 3652058) (hb : 0 ≤ bp ∧ bp ≤ 100000) (hr : RiseP ps) (hp : ∀ p ∈ ps, PerOk day bp p) (hl : ∀ x ∈ l, Placed ps x) (ho : ∀ y ∈ l, 0 ≤ y.opn ∧ y.opn ≤ 4611686018427387904) (hf : Fits ps times l)
    (k : Nat) (ps' : List Per) (hk : k < l.length) (hg : giveS day times ps (l.take k) = some ps') : GoodAt day bp times ps' l[k] := by
  obtain ⟨q1, q2, q3⟩ := giveS_ok hd hb (l.take k) hr hp (fun x hx => hl x (List.mem_of_mem_take hx)) (fun y hy => (ho y (List.mem_of_mem_take hy)).1) (hf.take (fun y hy => (ho y hy).1) k) hg
  have hx := (hl l[k] (List.getElem_mem hk)).ret q3
  have o := ho l[k] (List.getElem_mem hk)
  refine ⟨hx.1, hx.2, ?_, fun p hpp => (q1 p hpp).since0, fun p hpp => (q1 p hpp).int⟩
  rcases hf with rfl | ⟨rfl, _⟩ <;> omega

/-- Items of rising periods. -/
theorem items_ok {day bp : Int} {ps : List Per} (hr : RiseP ps) (hp : ∀ p ∈ ps, PerOk day bp p) (hn : ps.length ≤ 60) : placesE (itemsOf ps) = 0 := by
  have hok : ∀ y ∈ itemsOf ps, okI y = true := fun y hy => by
    obtain ⟨p, hpp, f1, f2, f3, f4⟩ := items_opn hy
    have h := hp p hpp
    have h1 := (retB_yes h.ret).1
    have h2 := h.due
    have h3 := opn_bd h f3
    simp only [okI, decide_eq_true_eq]
    omega
  have hu : (itemsOf ps).Pairwise fun a b => ¬ (a.per = b.per ∧ a.kind = b.kind) := by
    unfold itemsOf
    rw [List.pairwise_flatMap]
    refine ⟨fun p _ => by simp [itemsP], hr.imp fun {a b} h x hx y hy => ?_⟩
    have ex : x.per = a.ret.per := by
      simp only [itemsP, List.mem_cons, List.not_mem_nil, or_false] at hx
      rcases hx with rfl | rfl | rfl <;> rfl
    have ey : y.per = b.ret.per := by
      simp only [itemsP, List.mem_cons, List.not_mem_nil, or_false] at hy
      rcases hy with rfl | rfl | rfl <;> rfl
    omega
  unfold placesE
  rw [if_pos ⟨by rw [itemsOf_len]; omega, List.all_eq_true.2 hok⟩, if_pos]
  refine List.pairwise_map.2 (List.Pairwise.imp_of_mem (fun {a b} ha hb h e => h ?_) hu)
  have h1 := okI_yes (hok a ha); have h2 := okI_yes (hok b hb)
  unfold keyI at e
  omega
theorem items_uniq {ps : List Per} (hr : RiseP ps) : (itemsOf ps).Pairwise fun a b => ¬ (a.per = b.per ∧ a.kind = b.kind) := by
  unfold itemsOf
  rw [List.pairwise_flatMap]
  refine ⟨fun p _ => by simp [itemsP], hr.imp fun {a b} h x hx y hy => ?_⟩
  have ex : x.per = a.ret.per := by
    simp only [itemsP, List.mem_cons, List.not_mem_nil, or_false] at hx
    rcases hx with rfl | rfl | rfl <;> rfl
  have ey : y.per = b.ret.per := by
    simp only [itemsP, List.mem_cons, List.not_mem_nil, or_false] at hy
    rcases hy with rfl | rfl | rfl <;> rfl
  omega
theorem filter_uniq : ∀ {l : List Dq}, (l.Pairwise fun a b => ¬ (a.per = b.per ∧ a.kind = b.kind)) → ∀ {y : Dq}, y ∈ l → l.filter (fun x => decide (x.per = y.per ∧ x.kind = y.kind)) = [y]
  | [], _, y, hy => by simp at hy
  | x :: l, h, y, hy => by
    rw [List.pairwise_cons] at h
    rcases List.mem_cons.1 hy with rfl | hy
    · rw [List.filter_cons, if_pos (by simp)]
      have : l.filter (fun x => decide (x.per = y.per ∧ x.kind = y.kind)) = [] := by
        rw [List.filter_eq_nil_iff]
        intro z hz e
        have := h.1 z hz
        simp only [decide_eq_true_eq] at e
        exact this ⟨e.1.symm, e.2.symm⟩
      rw [this]
    · rw [List.filter_cons, if_neg (by simpa using h.1 y hy)]
      exact filter_uniq h.2 hy
theorem amtFor_live (l : List Dq) (per kind : Int) : amtFor (live l) per kind = amtFor l per kind := by
  induction l with
  | nil => rfl
  | cons x l ih =>
    rw [amtFor_cons x l]
    unfold live
    rw [List.filter_cons]
    split
    · rw [amtFor_cons x]; unfold live at ih; rw [ih]
    · rename_i h
      have h0 : x.opn = 0 := by simpa [nil0] using h
      unfold live at ih; rw [ih, amtFor_one]
      split <;> omega
theorem amtFor_row (s t : List Dq) (a : Int) (per kind : Int) : amtFor (t.map fun x => { x with opn := paidI s a x }) per kind = ((t.filter fun x => decide (x.per = per ∧ x.kind = kind)).map (paidI s a)).sum := by
  unfold amtFor opens
  rw [List.filter_map, List.map_map]
  rfl
/-- What is paid of an item. -/
theorem amtFor_parts {ps : List Per} (hr : RiseP ps) (hpl : placesE (itemsOf ps) = 0) (a : Int) {y : Dq} (hy : y ∈ itemsOf ps) : amtFor (partsOf (itemsOf ps) a) y.per y.kind = paidI (itemsOf ps) a y := by
  have ho := ordS_is hpl
  unfold partsOf
  rw [amtFor_live]
  unfold paidRow
  rw [amtFor_row, show paidI (ordS (itemsOf ps)) a = paidI (itemsOf ps) a from funext fun x => paidI_perm ho.1 a x]
  have hu : (ordS (itemsOf ps)).Pairwise fun a b => ¬ (a.per = b.per ∧ a.kind = b.kind) := ho.1.symm.pairwise (items_uniq hr) (fun {a b} h e => h ⟨e.1.symm, e.2.symm⟩)
  rw [filter_uniq hu (ho.1.mem_iff.2 hy)]
  simp
theorem parts_of {its : List Dq} (hpl : placesE its = 0) {a : Int} {x : Dq} (hx : x ∈ partsOf its a) : ∃ y ∈ its, x = { y with opn := paidI its a y } ∧ 1 ≤ x.opn ∧ x.opn ≤ y.opn := by
  have ho := ordS_is hpl
  unfold partsOf live at hx
  obtain ⟨hx, h1⟩ := List.mem_filter.1 hx
  obtain ⟨y, hy, rfl⟩ := List.mem_map.1 hx
  have hyi := ho.1.mem_iff.1 hy
  have e : paidI (ordS its) a y = paidI its a y := paidI_perm ho.1 a y
  have hb := paid_bd (placesE_ok hpl).2.1 hyi (amount := a)
  refine ⟨y, hyi, by rw [e], ?_, by rw [e]; exact hb.2⟩
  have h0 : ¬ paidI (ordS its) a y = 0 := by simpa [nil0] using h1
  rw [e] at h0 ⊢
  show 1 ≤ paidI its a y
  omega
/-- All of it: a payment of what is right. -/
theorem pay_facts {day bp : Int} {ps : List Per} (hd : 0 ≤ day ∧ day ≤ 3652058) (hb : 0 ≤ bp ∧ bp ≤ 100000) (hr : RiseP ps) (hp : ∀ p ∈ ps, PerOk day bp p) (hn : ps.length ≤ 60) {a : Int} (ha : 0 ≤ a) :
    (∀ k ps' (hk : k < (partsOf (itemsOf ps) a).length), giveS day (-1) ps ((partsOf (itemsOf ps) a).take k) = some ps' → GoodAt day bp (-1) ps' (partsOf (itemsOf ps) a)[k]) ∧
    ∃ ps', giveS day (-1) ps (partsOf (itemsOf ps) a) = some ps' ∧ itemsOf ps' = restI (itemsOf ps) a ∧ ps'.map Per.ret = ps.map Per.ret ∧ (∀ p ∈ ps', PerOk day bp p) ∧ RiseP ps' := by
  have hpl := items_ok hr hp hn
  have hok := (placesE_ok hpl).2.1
  have hl : ∀ x ∈ partsOf (itemsOf ps) a, Placed ps x ∧ 0 ≤ x.opn ∧ x.opn ≤ 4611686018427387904 := fun x hx => by
    obtain ⟨y, hy, e, h1, h2⟩ := parts_of hpl hx
    obtain ⟨p, hpp, f1, f2, f3, f4⟩ := items_opn hy
    obtain ⟨i, hi, rfl⟩ := List.mem_iff_getElem.1 hpp
    have hbd := okI_yes (List.all_eq_true.1 hok y hy)
    have e1 : x.per = y.per := by rw [e]
    have e2 : x.kind = y.kind := by rw [e]
    exact ⟨⟨⟨i, hi, by rw [e1, f1]; exact place_at hr hi⟩, by rw [e2]; exact f3⟩, by omega, by omega⟩
  have hf : Fits ps (-1) (partsOf (itemsOf ps) a) := .inr ⟨rfl, fun y hy => by rw [amtFor_parts hr hpl a hy]; exact (paid_bd hok hy).2⟩
  refine ⟨fun k ps' hk hg => good_at hd hb hr hp (fun x hx => (hl x hx).1) (fun x hx => (hl x hx).2) hf k ps' hk hg, ?_⟩
  obtain ⟨ps', e⟩ := giveS_some hd hb _ hr hp (fun x hx => (hl x hx).1) (fun x hx => (hl x hx).2.1) hf
  obtain ⟨i1, i2⟩ := giveS_items _ hr (fun x hx => (hl x hx).1) e
  obtain ⟨g1, g2, g3⟩ := giveS_ok hd hb _ hr hp (fun x hx => (hl x hx).1) (fun x hx => (hl x hx).2.1) hf e
  refine ⟨ps', e, ?_, i2, g1, g2⟩
  rw [i1]
  unfold restI
  apply List.map_congr_left
  intro y hy
  rw [bump, amtFor_parts hr hpl a hy]
  simp only [Dq.mk.injEq, true_and]
  omega
end Go.Proofs.YtbjjgnaojoaoiaaGreat
/- An account's cells are put; the ends of its steps. -/
namespace Go.Proofs.YtbjjgnaojoaoiaaGreat
open Go.RowKit Go
set_option linter.unusedVariables false
set_option linter.unusedSimpArgs false

theorem OwnV.put {w w' : World} {B g : Nat} {S : Ac} {vp vq : Value} {qs : List PmE} {us : List (Nat × Value)} (h : OwnV w B g S vp vq qs) (hp : Puts w g us w') :
    w'.heap[g]? = some (.cells (us.foldl (fun a u => a.setIfInBounds u.1 u.2) #[.int .i64 S.day, .int .i64 S.bp, .int .i64 S.cr, vp, vq]) 83 (0, 0)) ∧ w'.ownsRow B 92 11 vp S.ps.length (perCs S.ps) ∧ w'.ownsRow B 110 6 vq S.ms.length (pmCs qs) ∧ ∀ q ∈ qs, PartsAt w' q.v q.p.parts := by
  refine ⟨hp.near _ _ _ h.hg, own_apart h.hp hp (fun e => ?_), own_apart h.hq hp (fun e => ?_), fun q hq => (h.parts q hq).puts3 hp h.hg (by decide)⟩
  · obtain ⟨_, cs, hcs⟩ := own_block_type h.hp e; exact ne_of_type' h.hg hcs (by decide) rfl
  · obtain ⟨_, cs, hcs⟩ := own_block_type h.hq e; exact ne_of_type' h.hg hcs (by decide) rfl
theorem OwnV.setCr {w w' : World} {B g : Nat} {S : Ac} {vp vq : Value} {qs : List PmE} {cr : Int} (h : OwnV w B g S vp vq qs) (hp : Puts w g [(2, .int .i64 cr)] w') : OwnV w' B g { S with cr := cr } vp vq qs := by
  obtain ⟨h1, h2, h3, h4⟩ := h.put hp
  exact ⟨h1, h.hB, h2, h3, h.hm, h4⟩
theorem OwnV.setDay {w w' : World} {B g : Nat} {S : Ac} {vp vq : Value} {qs : List PmE} {d : Int} (h : OwnV w B g S vp vq qs) (hp : Puts w g [(0, .int .i64 d)] w') : OwnV w' B g { S with day := d } vp vq qs := by
  obtain ⟨h1, h2, h3, h4⟩ := h.put hp
  exact ⟨h1, h.hB, h2, h3, h.hm, h4⟩
/-- A block of another type is put: the account is as it was. -/
theorem OwnV.far {w w' : World} {B g gm : Nat} {S : Ac} {vp vq : Value} {qs : List PmE} {us : List (Nat × Value)} {cs : Array Value} {t : Nat} {fr : Nat × Nat} (h : OwnV w B g S vp vq qs) (hp : Puts w gm us w') (hm : w.heap[gm]? = some (.cells cs t fr))
    (h1 : t ≠ 83) (h2 : t ≠ 92) (h3 : t ≠ 110) (h4 : t ≠ 58) : OwnV w' B g S vp vq qs := by
  refine ⟨(hp.far g (blk_lt h.hg) (ne_of_type' h.hg hm (Ne.symm h1))).trans h.hg, h.hB, own_apart h.hp hp (fun e => ?_), own_apart h.hq hp (fun e => ?_), h.hm, fun q hq => (h.parts q hq).puts3 hp hm h4⟩
  · obtain ⟨_, cs, hcs⟩ := own_block_type h.hp e; exact ne_of_type' hm hcs h2 rfl
  · obtain ⟨_, cs, hcs⟩ := own_block_type h.hq e; exact ne_of_type' hm hcs h3 rfl
theorem puts6 (w : World) (g : Nat) (m : Mv) : Puts w g [(0, .int .i64 m.c0), (1, .int .i64 m.c1), (2, .int .i64 m.c2), (3, .int .i64 m.paid), (4, .int .i64 m.cr), (5, .int .i64 m.cash)] (put6 w g m) :=
  ((((((Puts.start (Below.refl _ _)).set 0 _).set 1 _).set 2 _).set 3 _).set 4 _).set 5 _
theorem OwnAt.moved {w : World} {B g gm : Nat} {S : Ac} {x0 x1 x2 x3 x4 x5 : Value} (h : OwnAt w B g S) (hm : w.heap[gm]? = some (.cells #[x0, x1, x2, x3, x4, x5] 33 (0, 0))) (m : Mv) : OwnAt (put6 w gm m) B g S := by
  obtain ⟨vp, vq, qs, h⟩ := h
  have e := puts6 w gm m
  generalize put6 w gm m = W at *
  exact ⟨vp, vq, qs, h.far e hm (by decide) (by decide) (by decide) (by decide)⟩
theorem DoesOf.form {w w' : World} {g : Nat} {S : Ac} {r : Ac × Mv × Int} {e : Ending} (h : DoesOf w g S r e w') : ∃ m er, e = .returned (mvR m er) := by
  rcases h.2 with ⟨_, e, _⟩ | ⟨_, e, _⟩
  · exact ⟨_, _, e⟩
  · exact ⟨_, _, e⟩
/-- The move is put into the caller's own cells. -/
theorem DoesOf.wrap {w w0 w1 : World} {g gm : Nat} {S : Ac} {r : Ac × Mv × Int} {m : Mv} {er : Int} {x0 x1 x2 x3 x4 x5 : Value} (hb : Below w.heap.size w w0) (h : DoesOf w0 g S r (.returned (mvR m er)) w1) (hm : w1.heap[gm]? = some (.cells #[x0, x1, x2, x3, x4, x5] 33 (0, 0)))
    (hgm : w.heap.size ≤ gm) : DoesOf w g S r (.returned (mvR m er)) (put6 w1 gm m) := by
  have P := puts6 w1 gm m
  have hfar : ∀ k, k ≠ gm → (put6 w1 gm m).heap[k]? = w1.heap[k]? := fun k hk => put6_far w1 gm m hk
  have hmv : ∀ {B : Nat} {S : Ac}, OwnAt w1 B g S → OwnAt (put6 w1 gm m) B g S := fun h => h.moved hm m
  generalize put6 w1 gm m = W at *
  refine ⟨⟨P.os.trans (h.1.os.trans hb.os), P.tape.trans (h.1.tape.trans hb.tape), P.output.trans (h.1.output.trans hb.output), Nat.le_trans hb.size (Nat.le_trans h.1.size P.size), fun k hk hne => ?_⟩, ?_⟩
  · have hkg : k ≠ gm := by omega
    exact (hfar k hkg).trans ((h.1.block k (Nat.lt_of_lt_of_le hk hb.size) hne).trans (hb.block k hk))
  · rcases h.2 with ⟨h0, e, ho⟩ | ⟨h0, e, ho⟩
    · exact .inl ⟨h0, e, hmv ho⟩
    · exact .inr ⟨h0, e, hmv ho⟩
theorem does_err {w w' : World} {g B : Nat} {S S' : Ac} {m : Mv} {er : Int} (hb : Below w.heap.size w w') (h : OwnAt w B g S) (he : er ≠ 0) : DoesOf w g S (S', m, er) (.returned (mvR Mv.zero er)) w' :=
  ⟨⟨hb.os, hb.tape, hb.output, hb.size, fun k hk _ => hb.block k hk⟩, .inr ⟨he, rfl, (h.below hb).mono (Nat.zero_le _)⟩⟩
theorem move_keeps {w0 w1 : World} {g gm : Nat} {S : Ac} {r : Ac × Mv × Int} {e : Ending} {o : Obj} (h : DoesOf w0 g S r e w1) (hm : w0.heap[gm]? = some o) (hne : gm ≠ g) : w1.heap[gm]? = some o :=
  (h.1.block gm (blk_lt hm) (fun e => hne (by have := Option.some.inj e; omega))).trans hm
/-- The world of a step's end: its move is put. -/
theorem step_end {w w1 : World} {B gb gm : Nat} {r : Ac × Mv × Int} {x0 x1 x2 x3 x4 x5 : Value} (hb : Below B w w1) (ho : OwnAt w1 B gb r.1) (hm : w1.heap[gm]? = some (.cells #[x0, x1, x2, x3, x4, x5] 33 (0, 0))) (hgm : B ≤ gm) (h0 : r.2.2 = 0) : StepOf w B gb r (.returned (mvR r.2.1 0)) (put6 w1 gm r.2.1) :=
  ⟨(((((hb.setCell hgm _).setCell hgm _).setCell hgm _).setCell hgm _).setCell hgm _).setCell hgm _, .inl ⟨h0, rfl, ho.moved hm _⟩⟩
theorem StepOf.drew {w w1 : World} {B gb : Nat} {r : Ac × Mv × Int} {e : Ending} (h : StepOf w B gb r e w1) : StepOf w B gb r e w1.drew :=
  ⟨h.1.drew, h.2.imp (fun ⟨a, b, c⟩ => ⟨a, b, c.below (Below.refl _ _).drew⟩) id⟩
theorem step_last {w X : World} {B gb gm : Nat} (S' : Ac) (m : Mv) {x0 x1 x2 x3 x4 x5 : Value} (hb : Below B w X) (ho : OwnAt X B gb S') (hm : X.heap[gm]? = some (.cells #[x0, x1, x2, x3, x4, x5] 33 (0, 0))) (hgm : B ≤ gm) :
    (put6 X gm m).drew.heap[gm]? = some (.cells #[.int .i64 m.c0, .int .i64 m.c1, .int .i64 m.c2, .int .i64 m.paid, .int .i64 m.cr, .int .i64 m.cash] 33 (0, 0)) ∧ StepOf w B gb (S', m, 0) (.returned (mvR m 0)) (put6 X gm m).drew :=
  by
    have e1 := put6_at hm m
    have e2 := step_end (r := (S', m, 0)) hb ho hm hgm rfl
    have e3 : StepOf w B gb (S', m, 0) (.returned (mvR m 0)) (put6 X gm m) := e2
    generalize put6 X gm m = W at *
    exact ⟨e1, e3.drew⟩
/-- A function ends that hands back a move of its own cells, and an error. -/
theorem mv_ret {fn : Func} {p q : Tmp} (m : Mv) (er : Int) (g : Nat) (h : fn.results = #[.cell p 33, .tmp q]) {tmps : Array Value} {w : World} {Q : Ending → World → Prop} (hp : tmps.getD p undef = .pointer (some ⟨g, 0, none⟩)) (hq : tmps.getD q undef = .int .i64 er)
    (hg : w.heap[g]? = some (.cells #[.int .i64 m.c0, .int .i64 m.c1, .int .i64 m.c2, .int .i64 m.paid, .int .i64 m.cr, .int .i64 m.cash] 33 (0, 0))) (hQ : Q (.returned (mvR m er)) w) : bodyPost Tryz.prog fn Q .ret { tmps := tmps, defers := [] } w := by
  refine bodyPost_ret (results_row_tmpB h tmps w g 33 _ (0, 0) _ hp hg Tryz.underlying33 rfl (by kernel_rfl)) rfl ?_
  rw [hq]; exact hQ
/-- A step of its own that a call's own cells stand ahead of. -/
theorem DoesOf.ahead {w w0 w1 : World} {g : Nat} {S : Ac} {r : Ac × Mv × Int} {e : Ending} (hb : Below w.heap.size w w0) (h : DoesOf w0 g S r e w1) : DoesOf w g S r e w1 :=
  ⟨⟨h.1.os.trans hb.os, h.1.tape.trans hb.tape, h.1.output.trans hb.output, Nat.le_trans hb.size h.1.size, fun k hk hne => (h.1.block k (Nat.lt_of_lt_of_le hk hb.size) hne).trans (hb.block k hk)⟩, h.2⟩
theorem DoesOf.drew {w w1 : World} {g : Nat} {S : Ac} {r : Ac × Mv × Int} {e : Ending} (h : DoesOf w g S r e w1) : DoesOf w g S r e w1.drew :=
  ⟨⟨h.1.os, h.1.tape, h.1.output, h.1.size, h.1.block⟩, h.2.imp (fun ⟨a, b, c⟩ => ⟨a, b, c.below (Below.refl _ _).drew⟩) (fun ⟨a, b, c⟩ => ⟨a, b, c.below (Below.refl _ _).drew⟩)⟩

/-- What the steps do. -/
def refundS (S : Ac) (a : Int) : Ac × Mv × Int := if ¬ (1 ≤ a ∧ a ≤ 1125899906842624) then (S, Mv.zero, 1) else if S.cr < a then (S, Mv.zero, 2) else ({ S with cr := S.cr - a }, ⟨0, 0, 0, 0, -a, -a⟩, 0)
def offset1 (S : Ac) (a : Int) : Ac × Mv × Int := match giveS S.day (-1) S.ps (partsOf (itemsOf S.ps) a) with
  | some ps => ({ S with ps := ps, cr := S.cr - (a - leftI (itemsOf S.ps) a) }, ⟨0, 0, 0, a - leftI (itemsOf S.ps) a, leftI (itemsOf S.ps) a - a, 0⟩, 0)
  | none => (S, Mv.zero, 2)
def offsetS (S : Ac) (a : Int) : Ac × Mv × Int := if ¬ (1 ≤ a ∧ a ≤ 1125899906842624) then (S, Mv.zero, 1) else if S.cr < a then (S, Mv.zero, 2) else offset1 S a
def pay1 (S : Ac) (id a : Int) : Ac × Mv × Int := match giveS S.day (-1) S.ps (partsOf (itemsOf S.ps) a) with
  | some ps => if (addS S.cr (leftI (itemsOf S.ps) a)).2 = 0 then ({ S with ps := ps, cr := (addS S.cr (leftI (itemsOf S.ps) a)).1, ms := S.ms ++ [⟨id, S.day, a, partsOf (itemsOf S.ps) a, leftI (itemsOf S.ps) a, false⟩] }, ⟨0, 0, 0, a - leftI (itemsOf S.ps) a, leftI (itemsOf S.ps) a, a⟩, 0) else (S, Mv.zero, 2)
  | none => (S, Mv.zero, 2)
def payS (S : Ac) (id a : Int) : Ac × Mv × Int := if ¬ ((1 ≤ id ∧ id ≤ 1099511627776) ∧ 1 ≤ a ∧ a ≤ 1125899906842624) then (S, Mv.zero, 1) else if 0 ≤ S.pay id then (S, Mv.zero, 5) else if 50 ≤ S.ms.length then (S, Mv.zero, 2) else pay1 S id a

/-- An account that is right. -/
structure PmOk (ps : List Per) (m : Pm) : Prop where
  id : 1 ≤ m.id ∧ m.id ≤ 1099511627776
  day : 0 ≤ m.day ∧ m.day ≤ 3652058
  amt : 1 ≤ m.amt ∧ m.amt ≤ 1125899906842624
  placed : ∀ x ∈ m.parts, Placed ps x ∧ (∃ p ∈ ps, p.ret.per = x.per ∧ p.ret.due = x.due) ∧ 1 ≤ x.opn ∧ x.opn ≤ 4611686018427387904
  len : m.parts.length ≤ 60
  rest : 0 ≤ m.rest
  sum : opens m.parts + m.rest = m.amt
structure Good (S : Ac) : Prop where
  day : 0 ≤ S.day ∧ S.day ≤ 3652058
  bp : 0 ≤ S.bp ∧ S.bp ≤ 100000
  cr : 0 ≤ S.cr ∧ S.cr ≤ 4611686018427387904
  np : S.ps.length ≤ 20
  nm : S.ms.length ≤ 50
  rise : RiseP S.ps
  per : ∀ p ∈ S.ps, PerOk S.day S.bp p
  pm : ∀ m ∈ S.ms, PmOk S.ps m
  ids : (S.ms.map Pm.id).Nodup
theorem Good.small {S : Ac} (h : Good S) : S.small := ⟨by have := h.nm; omega, by have := h.np; omega, fun p hp => by have := (h.pm p hp).len; omega⟩
theorem Good.places {S : Ac} (h : Good S) : placesE (itemsOf S.ps) = 0 := items_ok h.rise h.per (by have := h.np; omega)
end Go.Proofs.YtbjjgnaojoaoiaaGreat
/- Refund, spends. -/
namespace Go.Proofs.YtbjjgnaojoaoiaaGreat
open Go.RowKit Go
set_option linter.unusedVariables false
set_option linter.unusedSimpArgs false

theorem box_cell {w w' : World} {g : Nat} {v : Value} (h : w.cell? ⟨g, 0, none⟩ = some v) (hl : g < w.heap.size) (hb : Below w.heap.size w w') : w'.cell? ⟨g, 0, none⟩ = some v := (hb.cell (p := ⟨g, 0, none⟩) hl).trans h
set_option maxHeartbeats 3200000 in
set_option maxRecDepth 100000 in
theorem refund1_any (gb B ga : Nat) (S : Ac) (a : Int) (w : World) (h : OwnAt w B gb S) (hB : B ≤ w.heap.size) (ha : w.cell? ⟨ga, 0, none⟩ = some (.int .i64 a)) (hga : ga < w.heap.size) (hne : ga ≠ gb)
    (h1 : 0 ≤ S.cr - a ∧ S.cr - a ≤ 4611686018427387904) (h2 : 1 ≤ a ∧ a ≤ 1125899906842624) :
    Calls Tryz.prog 59 #[.pointer (some ⟨gb, 0, none⟩), .pointer (some ⟨ga, 0, none⟩)] w (StepOf w B gb ({ S with cr := S.cr - a }, ⟨0, 0, 0, 0, -a, -a⟩, 0)) := by
  obtain ⟨vp, vq, qs, h⟩ := h
  obtain ⟨a0, a1, a2, a3, a4, a5⟩ := cells5U h.hg
  have hgl := blk_lt h.hg
  have hw1 : IntKind.i64.wrap (S.cr - a) = S.cr - a := IntWalk.i64_in _ (by omega)
  have hw2 : IntKind.i64.wrap (-a) = -a := IntWalk.i64_in _ (by omega)
  have HV := Lib.hid h
  have hBg := h.hB
  have n1 : gb ≠ w.heap.size := by omega
  have n2 : ga ≠ w.heap.size := by omega
  have n3 : w.heap.size ≠ gb := by omega
  have n4 : gb ≠ ga := by omega
  clear h a0 a1 a3 a4
  go_enter Tryz.func59, Tryz.ntmps59
  go_wp2_with fail
  go_region_with (fail)
  all_goals go_wp2_with fail
  all_goals
    refine bodyPost_ret (results_row_tmpB rfl _ _ w.heap.size 33 #[.int .i64 0, .int .i64 0, .int .i64 0, .int .i64 0, .int .i64 (-a), .int .i64 (-a)] (0, 0) _ (by rfl) (blk_new (w.setCell ⟨gb, 2, none⟩ (.int .i64 (S.cr - a))) (.cells #[.int .i64 0, .int .i64 0, .int .i64 0, .int .i64 0, .int .i64 (-a), .int .i64 (-a)] 33) (by simp)) Tryz.underlying33 rfl (by kernel_rfl)) rfl ?_
    refine ⟨(by repeat' (first | (with_reducible exact Below.refl _ _) | (with_reducible refine Below.alloc ?_ ?_ _) | (with_reducible refine below_drewN ?_ _) | (with_reducible refine Below.drew ?_) | (with_reducible refine Below.setCell ?_ ?_ _) | (with_reducible refine Below.trans ?_ (Below.mono HW0.out ?_)) | (with_reducible refine Below.trans ?_ (Below.mono HW1.out ?_)) | (with_reducible refine Below.trans ?_ (Below.mono HW2.out ?_)) | (with_reducible refine Below.trans ?_ (Below.mono HW3.out ?_)) | (with_reducible refine Below.trans ?_ (Below.mono HW4.out ?_)) | (with_reducible refine Below.trans ?_ (Below.mono HW5.out ?_)) | (with_reducible refine Below.trans ?_ (Below.mono HW6.out ?_)) | (with_reducible refine Below.trans ?_ (Below.mono HW7.out ?_)) | (with_reducible exact Nat.le_refl _) | omega | (simp only [World.size_alloc, World.size_setCell, World.size_drew, size_drewN]; omega) | (simp; done) | (simp; omega))), .inl ⟨rfl, rfl, vp, vq, qs, ?_⟩⟩
    have p := (Puts.start (b := gb) (Below.refl w.heap.size w)).set 2 (.int .i64 (S.cr - a))
    exact (HV.out.setCr p).below ((Below.refl _ _).alloc (Nat.le_refl _) _).drew
/-- An account, and a box of a call. -/
theorem OwnAt.lt {w : World} {B g : Nat} {S : Ac} (h : OwnAt w B g S) : g < w.heap.size := by obtain ⟨_, _, _, h⟩ := h; exact blk_lt h.hg
theorem OwnAt.cell {w : World} {B g : Nat} {S : Ac} (h : OwnAt w B g S) : ∃ vp vq, w.heap[g]? = some (.cells #[.int .i64 S.day, .int .i64 S.bp, .int .i64 S.cr, vp, vq] 83 (0, 0)) := by obtain ⟨vp, vq, _, h⟩ := h; exact ⟨vp, vq, h.hg⟩
set_option maxHeartbeats 3200000 in
set_option maxRecDepth 100000 in
/-- spends: a step with a part of the credit, or an error. -/
theorem spends_any (K : Nat) (c1 : Value) (g B : Nat) (S : Ac) (a : Int) (r : Ac × Mv × Int) (w : World) (h : OwnAt w B g S) (hS : S.small)
    (hcf : ∀ (u : Value) (wx : World), (callFunc K #[u, c1]).run Tryz.prog wx = .ok (.enter K #[u, c1]) wx)
    (hK : (1 ≤ a ∧ a ≤ 1125899906842624) → a ≤ S.cr → ∀ (gb B : Nat) (wx : World), w.heap.size ≤ B → Below w.heap.size w wx → B ≤ wx.heap.size → OwnAt wx B gb S → Calls Tryz.prog K #[.pointer (some ⟨gb, 0, none⟩), c1] wx (StepOf wx B gb r)) :
    Calls Tryz.prog 58 #[.pointer (some ⟨g, 0, none⟩), .int .i64 a, .func (.func K) #[] #[c1]] w (DoesOf w g S (if ¬ (1 ≤ a ∧ a ≤ 1125899906842624) then (S, Mv.zero, 1) else if S.cr < a then (S, Mv.zero, 2) else r)) := by
  have HV := Lib.hid h
  obtain ⟨vp, vq, hg⟩ := h.cell
  obtain ⟨a0, a1, a2, a3, a4, a5⟩ := cells5U hg
  have hgl := blk_lt hg
  have n1 : g ≠ w.heap.size := by omega
  have n2 : w.heap.size ≠ g := by omega
  clear h hg a0 a1 a3 a4
  by_cases ha : 1 ≤ a ∧ a ≤ 1125899906842624
  · rw [if_neg (by simpa using ha)]
    have HA := Lib.hid ha
    have hy := fun wx => uwithin64_yes a 1 1125899906842624 wx ha
    have HY := Lib.hid hy
    by_cases hc : S.cr < a
    · rw [if_pos hc]
      clear ha hy hK
      have hdc : decide (a > S.cr) = true := by simpa using hc
      go_enter Tryz.func58, Tryz.ntmps58
      go_wp2_with fail
      refine (HY.out _).mono ?_; rintro e w1 ⟨rfl, rfl⟩
      go_wp2_with fail
      refine mv_ret Mv.zero 2 w.heap.size rfl rfl rfl (blk_new _ _ rfl) (does_err (by repeat' (first | (with_reducible exact Below.refl _ _) | (with_reducible refine Below.alloc ?_ ?_ _) | (with_reducible refine below_drewN ?_ _) | (with_reducible refine Below.drew ?_) | (with_reducible refine Below.setCell ?_ ?_ _) | (with_reducible refine Below.trans ?_ (Below.mono HW0.out ?_)) | (with_reducible refine Below.trans ?_ (Below.mono HW1.out ?_)) | (with_reducible refine Below.trans ?_ (Below.mono HW2.out ?_)) | (with_reducible refine Below.trans ?_ (Below.mono HW3.out ?_)) | (with_reducible refine Below.trans ?_ (Below.mono HW4.out ?_)) | (with_reducible refine Below.trans ?_ (Below.mono HW5.out ?_)) | (with_reducible refine Below.trans ?_ (Below.mono HW6.out ?_)) | (with_reducible refine Below.trans ?_ (Below.mono HW7.out ?_)) | (with_reducible exact Nat.le_refl _) | omega | (simp only [World.size_alloc, World.size_setCell, World.size_drew, size_drewN]; omega) | (simp; done) | (simp; omega))) HV.out (by decide))
    · rw [if_neg hc]
      have hcc : a ≤ S.cr := by omega
      have hdc : decide (a > S.cr) = false := by simpa using hcc
      have hb0 : Below w.heap.size w (w.alloc (.cells #[.int .i64 0, .int .i64 0, .int .i64 0, .int .i64 0, .int .i64 0, .int .i64 0] 33)) := (Below.refl _ _).alloc (Nat.le_refl _) _
      have HD := Lib.hid (does1_any K c1 g B S r (w.alloc (.cells #[.int .i64 0, .int .i64 0, .int .i64 0, .int .i64 0, .int .i64 0, .int .i64 0] 33)) (HV.out.below hb0) hS hcf (fun gb wx h1 h2 h3 => hK ha hcc gb _ wx (by have := hb0.size; omega) (hb0.trans (h1.mono hb0.size)) h2 h3))
      have HB0 := Lib.hid hb0
      clear ha hy hK hc hb0 hcf hS
      go_enter Tryz.func58, Tryz.ntmps58
      go_wp2_with fail
      refine (HY.out _).mono ?_; rintro e w1 ⟨rfl, rfl⟩
      go_wp2_with fail
      refine HD.out.mono ?_; intro e w1 hd
      obtain ⟨m, er, rfl⟩ := hd.form
      have hm := move_keeps hd (blk_new w (.cells #[.int .i64 0, .int .i64 0, .int .i64 0, .int .i64 0, .int .i64 0, .int .i64 0] 33) rfl) n2
      obtain ⟨m0, m1, m2, m3, m4, m5, m6⟩ := cells6U hm
      have HE := Lib.hid (DoesOf.wrap HB0.out hd hm (Nat.le_refl _)); have HM := Lib.hid (put6_at hm m)
      clear hd hm
      go_wp2_with fail
      exact mv_ret m er w.heap.size rfl rfl rfl HM.out HE.out
  · rw [if_pos ha]
    have hy := fun wx => uwithin64_no a 1 1125899906842624 wx ha
    have HY := Lib.hid hy
    clear ha hK
    go_enter Tryz.func58, Tryz.ntmps58
    go_wp2_with fail
    refine (HY.out _).mono ?_; rintro e w1 ⟨rfl, rfl⟩
    go_wp2_with fail
    refine mv_ret Mv.zero 1 w.heap.size rfl rfl rfl (blk_new _ _ rfl) (does_err (by repeat' (first | (with_reducible exact Below.refl _ _) | (with_reducible refine Below.alloc ?_ ?_ _) | (with_reducible refine below_drewN ?_ _) | (with_reducible refine Below.drew ?_) | (with_reducible refine Below.setCell ?_ ?_ _) | (with_reducible refine Below.trans ?_ (Below.mono HW0.out ?_)) | (with_reducible refine Below.trans ?_ (Below.mono HW1.out ?_)) | (with_reducible refine Below.trans ?_ (Below.mono HW2.out ?_)) | (with_reducible refine Below.trans ?_ (Below.mono HW3.out ?_)) | (with_reducible refine Below.trans ?_ (Below.mono HW4.out ?_)) | (with_reducible refine Below.trans ?_ (Below.mono HW5.out ?_)) | (with_reducible refine Below.trans ?_ (Below.mono HW6.out ?_)) | (with_reducible refine Below.trans ?_ (Below.mono HW7.out ?_)) | (with_reducible exact Nat.le_refl _) | omega | (simp only [World.size_alloc, World.size_setCell, World.size_drew, size_drewN]; omega) | (simp; done) | (simp; omega))) HV.out (by decide))
set_option maxHeartbeats 3200000 in
set_option maxRecDepth 100000 in
theorem refund_any (g B : Nat) (S : Ac) (a : Int) (w : World) (h : OwnAt w B g S) (hS : S.small) (hc : S.cr ≤ 4611686018427387904) :
    Calls Tryz.prog 24 #[.pointer (some ⟨g, 0, none⟩), .int .i64 a] w (DoesOf w g S (refundS S a)) := by
  have hgl := h.lt
  have hb0 : Below w.heap.size w ((w.alloc (.cells #[.int .i64 a] 2)).alloc (.cells #[.int .i64 0, .int .i64 0, .int .i64 0, .int .i64 0, .int .i64 0, .int .i64 0] 33)) := ((Below.refl _ _).alloc (Nat.le_refl _) _).alloc (by simp) _
  have hbx : ((w.alloc (.cells #[.int .i64 a] 2)).alloc (.cells #[.int .i64 0, .int .i64 0, .int .i64 0, .int .i64 0, .int .i64 0, .int .i64 0] 33)).cell? ⟨w.heap.size, 0, none⟩ = some (.int .i64 a) := (blk_cell (blk_alloc (blk_new w (.cells #[.int .i64 a] 2) rfl) _) 0).trans rfl
  have hz0 : ((w.alloc (.cells #[.int .i64 a] 2)).alloc (.cells #[.int .i64 0, .int .i64 0, .int .i64 0, .int .i64 0, .int .i64 0, .int .i64 0] 33)).heap.size = w.heap.size + 2 := by simp
  have HD := Lib.hid (spends_any 59 (.pointer (some ⟨w.heap.size, 0, none⟩)) g B S a ({ S with cr := S.cr - a }, ⟨0, 0, 0, 0, -a, -a⟩, 0) _ (h.below hb0) hS (fun u wx => by kernel_rfl)
    (fun h1 h2 gb B' wx hB hb hBx ho => by
      have hx := box_cell hbx (by rw [hz0]; omega) hb
      obtain ⟨_, _, _, hov⟩ := ho
      have := hov.hB
      exact refund1_any gb B' w.heap.size S a wx ⟨_, _, _, hov⟩ hBx hx (by omega) (by omega) (by omega) h1))
  have HB0 := Lib.hid hb0
  have hm0 := blk_new (w.alloc (.cells #[.int .i64 a] 2)) (.cells #[.int .i64 0, .int .i64 0, .int .i64 0, .int .i64 0, .int .i64 0, .int .i64 0] 33) rfl
  have HM0 := Lib.hid hm0
  have n1 : w.heap.size + 1 ≠ g := by omega
  have hmf : ∀ (fn : Fn) (first cap : Array Value) (w : World), (Instr.makeFunc fn first cap).run Tryz.prog w = .ok (.func fn first cap) w := fun _ _ _ _ => rfl
  clear h hb0 hbx hm0
  go_enter Tryz.func24, Tryz.ntmps24
  go_wp2_with fail
  refine HD.out.mono ?_; intro e w1 hd
  obtain ⟨m, er, rfl⟩ := hd.form
  have hm := move_keeps hd HM0.out (by simp; omega)
  simp only [World.size_alloc] at hm
  obtain ⟨m0, m1, m2, m3, m4, m5, m6⟩ := cells6U hm
  have HE := Lib.hid (DoesOf.wrap HB0.out hd hm (by omega)); have HM := Lib.hid (put6_at hm m)
  clear hd hm HD
  go_wp2_with fail
  exact mv_ret m er (w.heap.size + 1) rfl rfl rfl HM.out HE.out
end Go.Proofs.YtbjjgnaojoaoiaaGreat
