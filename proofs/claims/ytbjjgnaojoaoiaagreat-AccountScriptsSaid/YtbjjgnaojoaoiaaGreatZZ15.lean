/- Laws. -/
import Derived.Test.YtbjjgnaojoaoiaaGreatZZ14
namespace Go.Proofs.YtbjjgnaojoaoiaaGreat
set_option linter.unusedVariables false
set_option linter.unusedSimpArgs false
set_option maxHeartbeats 3200000
set_option maxRecDepth 100000
def ordS (its : List Dq) : List Dq := its.mergeSort fun a b => decide (keyI a ≤ keyI b)
theorem ordS_is {its : List Dq} (h : placesE its = 0) : IsOrd its (ordS its) := by
 have hn := (placesE_ok h).2.2
 have hp : (ordS its).Perm its := List.mergeSort_perm _ _
 refine ⟨hp, ?_⟩
 have hs := List.pairwise_mergeSort (le := fun a b : Dq => decide (keyI a ≤ keyI b)) (fun a b c h1 h2 => by simp only [decide_eq_true_eq] at *; omega) (fun a b => by simp only [Bool.or_eq_true, decide_eq_true_eq]; omega) its
 have hnd : ((ordS its).map keyI).Nodup := (hp.map keyI).nodup_iff.2 hn
 have h1 : (ordS its).Pairwise fun a b => keyI a ≠ keyI b := (List.pairwise_map.1 hnd)
 have h2 : (ordS its).Pairwise fun a b => decide (keyI a ≤ keyI b) = true := hs
 exact (List.pairwise_and_iff.2 ⟨h1, h2⟩).imp fun ⟨h1, h2⟩ => by simp only [decide_eq_true_eq] at h2; omega
theorem IsOrd.eq {its s : List Dq} (h : placesE its = 0) (k : IsOrd its s) : s = ordS its := k.same (ordS_is h)
theorem IsOrd.places {its s : List Dq} (k : IsOrd its s) (h : placesE its = 0) : placesE s = 0 := by
 obtain ⟨h1, h2, h3⟩ := placesE_ok h
 have e1 : s.length ≤ 200 := by rw [k.len]; exact h1
 have e2 : s.all okI = true := List.all_eq_true.2 fun x hx => List.all_eq_true.1 h2 x (k.1.mem_iff.1 hx)
 have e3 : (s.map keyI).Nodup := (k.1.map keyI).nodup_iff.2 h3
 unfold placesE
 rw [if_pos ⟨e1, e2⟩, if_pos e3]
def paidRow (s : List Dq) (a : Int) : List Dq := s.map fun x => { x with opn := paidI s a x }
theorem paidRow_len (s : List Dq) (a : Int) : (paidRow s a).length = s.length := by simp [paidRow]
def partsOf (its : List Dq) (a : Int) : List Dq := live (paidRow (ordS its) a)
theorem paidI_perm {s t : List Dq} (h : s.Perm t) (a : Int) (x : Dq) : paidI s a x = paidI t a x := by unfold paidI; rw [ahd_perm h]
theorem leftI_perm {s t : List Dq} (h : s.Perm t) (a : Int) : leftI s a = leftI t a := by unfold leftI; rw [opens_perm h]
structure PerOk (day bp : Int) (p : Per) : Prop where
 ret : retB p.ret = true
 b0 : 0 ≤ p.o0 ∧ p.o0 ≤ 4611686018427387904
 b1 : 0 ≤ p.o1 ∧ p.o1 ≤ 4611686018427387904
 b2 : 0 ≤ p.o2 ∧ p.o2 ≤ 4611686018427387904
 since : p.ret.due ≤ p.since ∧ p.since ≤ 3652058
 at_ : p.since = p.ret.due ∨ p.since ≤ day
 done : 0 ≤ p.done ∧ p.done ≤ 4611686018427387904
 acc : 0 ≤ p.acc ∧ p.acc ≤ 4611686018427387904
 int : p.since ≤ day → interestS day bp p = (p.acc, 0)
 none_ : day < p.since → p.done = 0 ∧ p.acc = 0
theorem PerOk.due {day bp : Int} {p : Per} (h : PerOk day bp p) : 0 ≤ p.ret.due ∧ p.ret.due ≤ 3652058 := dayB_yes (retB_yes h.ret).2.1
theorem PerOk.since0 {day bp : Int} {p : Per} (h : PerOk day bp p) : 0 ≤ p.since ∧ p.since ≤ 3652058 := by have := h.due; have := h.since; omega
theorem simple_zero {p bp : Int} (hp : 0 ≤ p ∧ p ≤ 4611686018427387904) (hb : 0 ≤ bp ∧ bp ≤ 100000) : simpleS p bp 0 = (0, 0) := by
 have h1 : okP p = true := by simpa [okP] using hp
 have h2 : okR bp = true := by simpa [okR] using hb
 have h3 : okD 0 = true := by decide
 rw [simpleS, h1, h2, h3, Int.mul_zero, Int.mul_zero]; rfl
theorem add_zero_amt {a : Int} (h : 0 ≤ a ∧ a ≤ 4611686018427387904) : addS a 0 = (a, 0) := by
 have h1 : (amt a && amt 0) = true := by simp [amt]; omega
 rw [add_yes h1 (by omega), Int.add_zero]
theorem PerOk.setO {day bp : Int} {p : Per} (h : PerOk day bp p) (hd : 0 ≤ day ∧ day ≤ 3652058) (hb : 0 ≤ bp ∧ bp ≤ 100000) {kind v : Int} (hk : kind = 0 ∨ kind = 1 ∨ kind = 2) (hv : 0 ≤ v ∧ v ≤ 4611686018427387904) : PerOk day bp (Per.setO day p kind v) ∧ (Per.setO day p kind v).ret = p.ret := by
 unfold Per.setO
 by_cases hc : kind = 2 ∧ v ≠ p.o2 ∧ p.since ≤ day
 · rw [if_pos hc]
   refine ⟨⟨h.ret, h.b0, h.b1, hv, ⟨by have := h.since; show p.ret.due ≤ day; omega, hd.2⟩, .inr (Int.le_refl _), h.acc, h.acc, fun _ => ?_, fun hlt => absurd hlt (by show ¬ day < day; omega)⟩, rfl⟩
   show interestS day bp { p with o2 := v, done := p.acc, since := day } = (p.acc, 0)
   unfold interestS
   simp only [Int.sub_self, simple_zero hv hb]
   rw [if_neg (by omega)]
   exact add_zero_amt h.acc
 · rw [if_neg hc]
   unfold Per.putO
   by_cases h0 : kind = 0
   · rw [if_pos h0]
     exact ⟨⟨h.ret, hv, h.b1, h.b2, h.since, h.at_, h.done, h.acc, h.int, h.none_⟩, rfl⟩
   · rw [if_neg h0]
     by_cases h1 : kind = 1
     · rw [if_pos h1]
       exact ⟨⟨h.ret, h.b0, hv, h.b2, h.since, h.at_, h.done, h.acc, h.int, h.none_⟩, rfl⟩
     · rw [if_neg h1]
       refine ⟨⟨h.ret, h.b0, h.b1, hv, h.since, h.at_, h.done, h.acc, fun hs => ?_, h.none_⟩, rfl⟩
       have h2 : kind = 2 := by omega
       have he : v = p.o2 := by
        rcases Classical.em (v = p.o2) with e | e
        · exact e
        · exact absurd ⟨h2, e, hs⟩ hc
       subst he
       exact h.int hs
theorem flat_congr {α β : Type} {f g : α → List β} : ∀ {l : List α}, (∀ a ∈ l, f a = g a) → l.flatMap f = l.flatMap g
 | [], _ => rfl
 | a :: l, h => by rw [List.flatMap_cons, List.flatMap_cons, h a (by simp), flat_congr fun b hb => h b (by simp [hb])]
def RiseP (ps : List Per) : Prop := ps.Pairwise fun a b => a.ret.per < b.ret.per
theorem riseP_ret {ps qs : List Per} (h : RiseP ps) (e : qs.map Per.ret = ps.map Per.ret) : RiseP qs := by
 have h1 : (ps.map Per.ret).Pairwise fun a b => a.per < b.per := List.pairwise_map.2 h
 rw [← e] at h1
 exact (List.pairwise_map (R := fun a b : Ret => a.per < b.per)).1 h1
theorem RiseP.inj {ps : List Per} (h : RiseP ps) {i j : Nat} (hi : i < ps.length) (hj : j < ps.length) (e : ps[i].ret.per = ps[j].ret.per) : i = j := by
 rcases Nat.lt_trichotomy i j with h1 | h1 | h1
 · have := List.pairwise_iff_getElem.1 h i j hi hj h1; omega
 · exact h1
 · have := List.pairwise_iff_getElem.1 h j i hj hi h1; omega
theorem place_at {ps : List Per} (h : RiseP ps) {i : Nat} (hi : i < ps.length) : placeP ps[i].ret.per ps = (i : Int) := by
 unfold placeP
 rcases idxI_spec (fun p : Per => decide (p.ret.per = ps[i].ret.per)) ps 0 with ⟨_, h2⟩ | ⟨j, hj, h1, h2, _⟩
 · have := h2 ps[i] (List.getElem_mem hi); simp at this
 · rw [h1, h.inj hj hi (by simpa using h2)]; simp
theorem place_ret {ps qs : List Per} (n : Int) (e : qs.map Per.ret = ps.map Per.ret) : placeP n qs = placeP n ps := by
 unfold placeP
 have h : ∀ l : List Per, idxI (fun p : Per => decide (p.ret.per = n)) 0 l = idxI (fun r : Ret => decide (r.per = n)) 0 (l.map Per.ret) := fun l => idxI_map Per.ret (fun r : Ret => decide (r.per = n)) l 0
 rw [h, h, e]
theorem place_is {ps : List Per} {n : Int} {i : Nat} (h : placeP n ps = (i : Int)) : ∃ hi : i < ps.length, ps[i].ret.per = n := by
 unfold placeP at h
 rcases idxI_spec (fun p : Per => decide (p.ret.per = n)) ps 0 with ⟨h1, _⟩ | ⟨j, hj, h1, h2, _⟩
 · omega
 · have : i = j := by omega
   subst this
   exact ⟨hj, by simpa using h2⟩
theorem RiseP.mem {ps : List Per} (h : RiseP ps) {p : Per} (hp : p ∈ ps) {i : Nat} (hi : i < ps.length) (e : p.ret.per = ps[i].ret.per) : p = ps[i] := by
 obtain ⟨j, hj, rfl⟩ := List.mem_iff_getElem.1 hp
 have := h.inj hj hi e
 subst this; rfl
theorem set_map {ps : List Per} (h : RiseP ps) {i : Nat} (hi : i < ps.length) (x : Per) : ps.set i x = ps.map fun p => if p.ret.per = ps[i].ret.per then x else p := by
 apply List.ext_getElem (by simp)
 intro j h1 h2
 rw [List.getElem_set, List.getElem_map]
 have hj : j < ps.length := by simpa using h1
 by_cases e : i = j
 · subst e; simp
 · rw [if_neg e, if_neg (fun e2 => e (h.inj hi hj e2.symm))]
theorem items_opn {ps : List Per} {y : Dq} (hy : y ∈ itemsOf ps) : ∃ p ∈ ps, y.per = p.ret.per ∧ y.due = p.ret.due ∧ (y.kind = 0 ∨ y.kind = 1 ∨ y.kind = 2) ∧ y.opn = p.opn y.kind := by
 obtain ⟨p, hp, hy⟩ := List.mem_flatMap.1 hy
 refine ⟨p, hp, ?_⟩
 simp only [itemsP, List.mem_cons, List.not_mem_nil, or_false] at hy
 rcases hy with rfl | rfl | rfl <;> simp [Per.opn]
theorem itemsP_setO (day : Int) (p : Per) (kind v : Int) (hk : kind = 0 ∨ kind = 1 ∨ kind = 2) : itemsP (Per.setO day p kind v) = (itemsP p).map fun y => if y.kind = kind then { y with opn := v } else y := by
 rcases hk with rfl | rfl | rfl
 · simp [Per.setO, Per.putO, itemsP]
 · simp [Per.setO, Per.putO, itemsP]
 · unfold Per.setO
   split <;> simp [Per.putO, itemsP]
theorem setO_ret (day : Int) (p : Per) (kind v : Int) : (Per.setO day p kind v).ret = p.ret := by
 unfold Per.setO Per.putO
 split
 · rfl
 · split
   · rfl
   · split <;> rfl
def amtFor (parts : List Dq) (per kind : Int) : Int := opens (parts.filter fun x => decide (x.per = per ∧ x.kind = kind))
theorem amtFor_one (x : Dq) (per kind : Int) : amtFor [x] per kind = if x.per = per ∧ x.kind = kind then x.opn else 0 := by
 unfold amtFor
 by_cases h : x.per = per ∧ x.kind = kind
 · rw [if_pos h, List.filter_cons, if_pos (by simpa using h)]; simp [opens]
 · rw [if_neg h, List.filter_cons, if_neg (by simpa using h)]; simp [opens]
def bump (times : Int) (parts : List Dq) (y : Dq) : Dq := { y with opn := y.opn + times * amtFor parts y.per y.kind }
theorem items_set {ps : List Per} (h : RiseP ps) {i : Nat} (hi : i < ps.length) (day kind v : Int) (hk : kind = 0 ∨ kind = 1 ∨ kind = 2) :
  itemsOf (ps.set i (Per.setO day ps[i] kind v)) = (itemsOf ps).map fun y => if y.per = ps[i].ret.per ∧ y.kind = kind then { y with opn := v } else y := by
 rw [set_map h hi]
 unfold itemsOf
 rw [List.flatMap_map, List.map_flatMap]
 apply flat_congr
 intro p hp
 by_cases e : p.ret.per = ps[i].ret.per
 · rw [if_pos e, itemsP_setO day _ kind v hk, h.mem hp hi e]
   apply List.map_congr_left
   intro y hy
   have : y.per = ps[i].ret.per := by
    simp only [itemsP, List.mem_cons, List.not_mem_nil, or_false] at hy
    rcases hy with rfl | rfl | rfl <;> rfl
   simp [this]
 · rw [if_neg e]
   have : (itemsP p).map (fun y => if y.per = ps[i].ret.per ∧ y.kind = kind then { y with opn := v } else y) = (itemsP p).map id := by
    apply List.map_congr_left
    intro y hy
    have : y.per = p.ret.per := by
     simp only [itemsP, List.mem_cons, List.not_mem_nil, or_false] at hy
     rcases hy with rfl | rfl | rfl <;> rfl
    rw [if_neg (fun e2 => e (this.symm.trans e2.1))]; rfl
   rw [this, List.map_id]
theorem add_ok {a b : Int} (h : (addS a b).2 = 0) : (addS a b).1 = a + b ∧ -4611686018427387904 ≤ a + b ∧ a + b ≤ 4611686018427387904 := by
 unfold addS at h ⊢
 split
 · rename_i h1
   rw [if_pos h1] at h
   unfold told at h ⊢
   split
   · rename_i h2
     have := h2
     simp [amt] at this
     exact ⟨rfl, this⟩
   · rename_i h2; rw [if_neg h2] at h; simp at h
 · rename_i h1; rw [if_neg h1] at h; simp at h
def Placed (ps : List Per) (x : Dq) : Prop := (∃ i, i < ps.length ∧ placeP x.per ps = (i : Int)) ∧ (x.kind = 0 ∨ x.kind = 1 ∨ x.kind = 2)
theorem Placed.ret {ps qs : List Per} {x : Dq} (h : Placed ps x) (e : qs.map Per.ret = ps.map Per.ret) : Placed qs x := by
 obtain ⟨⟨i, hi, hp⟩, hk⟩ := h
 have hl : qs.length = ps.length := by have := congrArg List.length e; simpa using this
 exact ⟨⟨i, by omega, by rw [place_ret x.per e]; exact hp⟩, hk⟩
theorem give1_items {ps ps' : List Per} (h : RiseP ps) {day times : Int} {x : Dq} (hx : Placed ps x) (hg : give1 day times ps x = some ps') :
  itemsOf ps' = (itemsOf ps).map (bump times [x]) ∧ ps'.map Per.ret = ps.map Per.ret ∧ ∃ i, ∃ hi : i < ps.length, ps[i].ret.per = x.per ∧ ps' = ps.set i (Per.setO day ps[i] x.kind (ps[i].opn x.kind + times * x.opn)) ∧ -4611686018427387904 ≤ ps[i].opn x.kind + times * x.opn ∧ ps[i].opn x.kind + times * x.opn ≤ 4611686018427387904 := by
 obtain ⟨⟨i, hi, hp⟩, hk⟩ := hx
 obtain ⟨_, hper⟩ := place_is hp
 have hgd : ps.getD i Per.zero = ps[i] := by rw [List.getD_eq_getElem?_getD, List.getElem?_eq_getElem hi]; rfl
 rw [give1, hp, Int.toNat_natCast, hgd] at hg
 by_cases h0 : (addS (ps[i].opn x.kind) (times * x.opn)).2 = 0
 · obtain ⟨e1, e2, e3⟩ := add_ok h0
   rw [if_pos h0, e1] at hg
   injection hg with hg
   subst hg
   refine ⟨?_, ?_, i, hi, hper, rfl, e2, e3⟩
   · rw [items_set h hi day x.kind _ hk]
     apply List.map_congr_left
     intro y hy
     unfold bump
     rw [amtFor_one]
     by_cases e : y.per = ps[i].ret.per ∧ y.kind = x.kind
     · rw [if_pos e, if_pos ⟨by rw [e.1, hper], e.2.symm⟩]
       obtain ⟨p, hp, f1, f2, f3, f4⟩ := items_opn hy
       have := h.mem hp hi (f1.symm.trans e.1)
       subst this
       rw [f4, e.2]
     · rw [if_neg e, if_neg (fun e6 => e ⟨e6.1.symm.trans hper.symm, e6.2.symm⟩)]
       simp
   · rw [List.map_set, setO_ret]
     apply List.ext_getElem (by simp)
     intro j h1 h2
     rw [List.getElem_set]
     split
     · rename_i e; subst e; simp
     · rfl
 · rw [if_neg h0] at hg; cases hg
theorem amtFor_cons (x : Dq) (l : List Dq) (per kind : Int) : amtFor (x :: l) per kind = amtFor [x] per kind + amtFor l per kind := by
 unfold amtFor
 have : x :: l = [x] ++ l := rfl
 rw [this, List.filter_append, opens_app]
theorem giveS_items {day times : Int} : ∀ (l : List Dq) {ps ps' : List Per}, RiseP ps → (∀ x ∈ l, Placed ps x) → giveS day times ps l = some ps' → itemsOf ps' = (itemsOf ps).map (bump times l) ∧ ps'.map Per.ret = ps.map Per.ret
 | [], ps, ps', h, _, hg => by
   simp only [giveS] at hg; injection hg with hg; subst hg
   refine ⟨?_, rfl⟩
   have : (itemsOf ps).map (bump times []) = (itemsOf ps).map id := List.map_congr_left fun y _ => by simp [bump, amtFor, opens]
   rw [this, List.map_id]
 | x :: l, ps, ps', h, hl, hg => by
   simp only [giveS] at hg
   cases h1 : give1 day times ps x with
   | none => rw [h1] at hg; cases hg
   | some ps1 =>
     rw [h1] at hg
     obtain ⟨e1, e2, _⟩ := give1_items h (hl x (by simp)) h1
     obtain ⟨e3, e4⟩ := giveS_items l (riseP_ret h e2) (fun y hy => (hl y (by simp [hy])).ret e2) hg
     refine ⟨?_, e4.trans e2⟩
     rw [e3, e1, List.map_map]
     apply List.map_congr_left
     intro y _
     simp only [Function.comp, bump]
     rw [amtFor_cons x l, Int.mul_add]
     simp only [Dq.mk.injEq, true_and]
     omega
theorem opens_cons (x : Dq) (l : List Dq) : opens (x :: l) = x.opn + opens l := by simp [opens]
theorem opens_nn {l : List Dq} (h : ∀ x ∈ l, 0 ≤ x.opn) : 0 ≤ opens l := sum_nonneg fun x hx => by
 obtain ⟨y, hy, rfl⟩ := List.mem_map.1 hx; exact h y hy
theorem amtFor_nn {l : List Dq} (h : ∀ x ∈ l, 0 ≤ x.opn) (per kind : Int) : 0 ≤ amtFor l per kind := opens_nn fun x hx => h x (List.mem_filter.1 hx).1
theorem amtFor_app (a b : List Dq) (per kind : Int) : amtFor (a ++ b) per kind = amtFor a per kind + amtFor b per kind := by
 unfold amtFor; rw [List.filter_append, opens_app]
theorem amtFor_take {l : List Dq} (h : ∀ x ∈ l, 0 ≤ x.opn) (per kind : Int) (k : Nat) : amtFor (l.take k) per kind ≤ amtFor l per kind := by
 have e : amtFor l per kind = amtFor (l.take k) per kind + amtFor (l.drop k) per kind := by rw [← amtFor_app, List.take_append_drop]
 have := amtFor_nn (fun x hx => h x (List.mem_of_mem_drop hx)) per kind (l := l.drop k)
 omega
theorem opn_bd {day bp : Int} {p : Per} (h : PerOk day bp p) {k : Int} (hk : k = 0 ∨ k = 1 ∨ k = 2) : 0 ≤ p.opn k ∧ p.opn k ≤ 4611686018427387904 := by
 have := h.b0; have := h.b1; have := h.b2
 rcases hk with rfl | rfl | rfl <;> simp [Per.opn] <;> omega
def Fits (ps : List Per) (times : Int) (l : List Dq) : Prop := times = 1 ∨ (times = -1 ∧ ∀ y ∈ itemsOf ps, amtFor l y.per y.kind ≤ y.opn)
theorem items_at {ps : List Per} {i : Nat} (hi : i < ps.length) {k : Int} (hk : k = 0 ∨ k = 1 ∨ k = 2) : (⟨ps[i].ret.due, k, ps[i].ret.per, ps[i].opn k⟩ : Dq) ∈ itemsOf ps := by
 refine List.mem_flatMap.2 ⟨ps[i], List.getElem_mem hi, ?_⟩
 rcases hk with rfl | rfl | rfl <;> simp [itemsP, Per.opn]
theorem give1_ok {day bp times : Int} {ps ps' : List Per} {x : Dq} {l : List Dq} (hd : 0 ≤ day ∧ day ≤ 3652058) (hb : 0 ≤ bp ∧ bp ≤ 100000) (hr : RiseP ps) (hp : ∀ p ∈ ps, PerOk day bp p) (hx : Placed ps x) (ho : ∀ y ∈ x :: l, 0 ≤ y.opn) (hf : Fits ps times (x :: l))
  (hg : give1 day times ps x = some ps') : (∀ p ∈ ps', PerOk day bp p) ∧ RiseP ps' ∧ Fits ps' times l := by
 obtain ⟨e1, e2, i, hi, hper, rfl, v1, v2⟩ := give1_items hr hx hg
 have hk := hx.2
 have hv : 0 ≤ ps[i].opn x.kind + times * x.opn := by
  have b := opn_bd (hp _ (List.getElem_mem hi)) hk
  have o := ho x (by simp)
  rcases hf with rfl | ⟨rfl, hf⟩
  · omega
  · have := hf _ (items_at hi hk)
    have h2 := amtFor_nn (fun y hy => ho y (by simp [hy])) x.per x.kind (l := l)
    have h3 := amtFor_cons x l x.per x.kind
    rw [amtFor_one, if_pos ⟨rfl, rfl⟩] at h3
    simp only [hper] at this
    omega
 refine ⟨fun p hpp => ?_, riseP_ret hr e2, ?_⟩
 · rcases List.mem_or_eq_of_mem_set hpp with h | rfl
   · exact hp p h
   · exact ((hp _ (List.getElem_mem hi)).setO hd hb hk ⟨hv, v2⟩).1
 · rcases hf with h | ⟨rfl, hf⟩
   · exact .inl h
   · refine .inr ⟨rfl, fun y hy => ?_⟩
     rw [e1] at hy
     obtain ⟨y0, hy0, rfl⟩ := List.mem_map.1 hy
     have := hf y0 hy0
     rw [amtFor_cons x l] at this
     simp only [bump]
     omega
theorem giveS_ok {day bp times : Int} (hd : 0 ≤ day ∧ day ≤ 3652058) (hb : 0 ≤ bp ∧ bp ≤ 100000) : ∀ (l : List Dq) {ps ps' : List Per}, RiseP ps → (∀ p ∈ ps, PerOk day bp p) → (∀ x ∈ l, Placed ps x) → (∀ y ∈ l, 0 ≤ y.opn) → Fits ps times l →
  giveS day times ps l = some ps' → (∀ p ∈ ps', PerOk day bp p) ∧ RiseP ps' ∧ ps'.map Per.ret = ps.map Per.ret
 | [], ps, ps', hr, hp, _, _, _, hg => by
   simp only [giveS] at hg; injection hg with hg; subst hg; exact ⟨hp, hr, rfl⟩
 | x :: l, ps, ps', hr, hp, hl, ho, hf, hg => by
   simp only [giveS] at hg
   cases h1 : give1 day times ps x with
   | none => rw [h1] at hg; cases hg
   | some ps1 =>
     rw [h1] at hg
     obtain ⟨q1, q2, q3⟩ := give1_ok hd hb hr hp (hl x (by simp)) ho hf h1
     have e2 := (give1_items hr (hl x (by simp)) h1).2.1
     obtain ⟨r1, r2, r3⟩ := giveS_ok hd hb l q2 q1 (fun y hy => (hl y (by simp [hy])).ret e2) (fun y hy => ho y (by simp [hy])) q3 hg
     exact ⟨r1, r2, r3.trans e2⟩
theorem giveS_some {day bp : Int} (hd : 0 ≤ day ∧ day ≤ 3652058) (hb : 0 ≤ bp ∧ bp ≤ 100000) : ∀ (l : List Dq) {ps : List Per}, RiseP ps → (∀ p ∈ ps, PerOk day bp p) → (∀ x ∈ l, Placed ps x) → (∀ y ∈ l, 0 ≤ y.opn) → Fits ps (-1) l →
  ∃ ps', giveS day (-1) ps l = some ps'
 | [], ps, hr, hp, _, _, _ => ⟨ps, rfl⟩
 | x :: l, ps, hr, hp, hl, ho, hf => by
   obtain ⟨⟨i, hi, hpl⟩, hk⟩ := hl x (by simp)
   obtain ⟨_, hper⟩ := place_is hpl
   have hgd : ps.getD i Per.zero = ps[i] := by rw [List.getD_eq_getElem?_getD, List.getElem?_eq_getElem hi]; rfl
   have b := opn_bd (hp _ (List.getElem_mem hi)) hk
   have o := ho x (by simp)
   have hle : x.opn ≤ ps[i].opn x.kind := by
    rcases hf with h | ⟨_, hf⟩
    · omega
    · have := hf _ (items_at hi hk)
      have h2 := amtFor_nn (fun y hy => ho y (by simp [hy])) x.per x.kind (l := l)
      have h3 := amtFor_cons x l x.per x.kind
      rw [amtFor_one, if_pos ⟨rfl, rfl⟩] at h3
      simp only [hper] at this
      omega
   have ha : addS (ps[i].opn x.kind) (-1 * x.opn) = (ps[i].opn x.kind + -1 * x.opn, 0) := add_yes (by simp [amt]; omega) (by omega)
   have h1 : give1 day (-1) ps x = some (ps.set i (Per.setO day ps[i] x.kind (ps[i].opn x.kind + -1 * x.opn))) := by
    rw [give1, hpl, Int.toNat_natCast, hgd, ha]; rfl
   obtain ⟨q1, q2, q3⟩ := give1_ok hd hb hr hp (hl x (by simp)) ho hf h1
   have e2 := (give1_items hr (hl x (by simp)) h1).2.1
   obtain ⟨ps', e⟩ := giveS_some hd hb l q2 q1 (fun y hy => (hl y (by simp [hy])).ret e2) (fun y hy => ho y (by simp [hy])) q3
   exact ⟨ps', by simp only [giveS, h1]; exact e⟩
theorem Fits.take {ps : List Per} {times : Int} {l : List Dq} (h : Fits ps times l) (ho : ∀ y ∈ l, 0 ≤ y.opn) (k : Nat) : Fits ps times (l.take k) :=
 h.imp id fun ⟨e, h⟩ => ⟨e, fun y hy => Int.le_trans (amtFor_take ho _ _ k) (h y hy)⟩
theorem good_at {day bp times : Int} {ps : List Per} {l : List Dq} (hd : 0 ≤ day ∧ day ≤ 3652058) (hb : 0 ≤ bp ∧ bp ≤ 100000) (hr : RiseP ps) (hp : ∀ p ∈ ps, PerOk day bp p) (hl : ∀ x ∈ l, Placed ps x) (ho : ∀ y ∈ l, 0 ≤ y.opn ∧ y.opn ≤ 4611686018427387904) (hf : Fits ps times l)
  (k : Nat) (ps' : List Per) (hk : k < l.length) (hg : giveS day times ps (l.take k) = some ps') : GoodAt day bp times ps' l[k] := by
 obtain ⟨q1, q2, q3⟩ := giveS_ok hd hb (l.take k) hr hp (fun x hx => hl x (List.mem_of_mem_take hx)) (fun y hy => (ho y (List.mem_of_mem_take hy)).1) (hf.take (fun y hy => (ho y hy).1) k) hg
 have hx := (hl l[k] (List.getElem_mem hk)).ret q3
 have o := ho l[k] (List.getElem_mem hk)
 refine ⟨hx.1, hx.2, ?_, fun p hpp => (q1 p hpp).since0, fun p hpp => (q1 p hpp).int⟩
 rcases hf with rfl | ⟨rfl, _⟩ <;> omega
theorem items_ok {day bp : Int} {ps : List Per} (hr : RiseP ps) (hp : ∀ p ∈ ps, PerOk day bp p) (hn : ps.length ≤ 60) : placesE (itemsOf ps) = 0 := by
 have hok : ∀ y ∈ itemsOf ps, okI y = true := fun y hy => by
  obtain ⟨p, hpp, f1, f2, f3, f4⟩ := items_opn hy
  have h := hp p hpp
  have h1 := (retB_yes h.ret).1
  have h2 := h.due
  have h3 := opn_bd h f3
  simp only [okI, decide_eq_true_eq]
  omega
 have hu : (itemsOf ps).Pairwise fun a b => ¬ (a.per = b.per ∧ a.kind = b.kind) := by
  unfold itemsOf
  rw [List.pairwise_flatMap]
  refine ⟨fun p _ => by simp [itemsP], hr.imp fun {a b} h x hx y hy => ?_⟩
  have ex : x.per = a.ret.per := by
   simp only [itemsP, List.mem_cons, List.not_mem_nil, or_false] at hx
   rcases hx with rfl | rfl | rfl <;> rfl
  have ey : y.per = b.ret.per := by
   simp only [itemsP, List.mem_cons, List.not_mem_nil, or_false] at hy
   rcases hy with rfl | rfl | rfl <;> rfl
  omega
 unfold placesE
 rw [if_pos ⟨by rw [itemsOf_len]; omega, List.all_eq_true.2 hok⟩, if_pos]
 refine List.pairwise_map.2 (List.Pairwise.imp_of_mem (fun {a b} ha hb h e => h ?_) hu)
 have h1 := okI_yes (hok a ha); have h2 := okI_yes (hok b hb)
 unfold keyI at e
 omega
theorem items_uniq {ps : List Per} (hr : RiseP ps) : (itemsOf ps).Pairwise fun a b => ¬ (a.per = b.per ∧ a.kind = b.kind) := by
 unfold itemsOf
 rw [List.pairwise_flatMap]
 refine ⟨fun p _ => by simp [itemsP], hr.imp fun {a b} h x hx y hy => ?_⟩
 have ex : x.per = a.ret.per := by
  simp only [itemsP, List.mem_cons, List.not_mem_nil, or_false] at hx
  rcases hx with rfl | rfl | rfl <;> rfl
 have ey : y.per = b.ret.per := by
  simp only [itemsP, List.mem_cons, List.not_mem_nil, or_false] at hy
  rcases hy with rfl | rfl | rfl <;> rfl
 omega
theorem filter_uniq : ∀ {l : List Dq}, (l.Pairwise fun a b => ¬ (a.per = b.per ∧ a.kind = b.kind)) → ∀ {y : Dq}, y ∈ l → l.filter (fun x => decide (x.per = y.per ∧ x.kind = y.kind)) = [y]
 | [], _, y, hy => by simp at hy
 | x :: l, h, y, hy => by
   rw [List.pairwise_cons] at h
   rcases List.mem_cons.1 hy with rfl | hy
   · rw [List.filter_cons, if_pos (by simp)]
     have : l.filter (fun x => decide (x.per = y.per ∧ x.kind = y.kind)) = [] := by
      rw [List.filter_eq_nil_iff]
      intro z hz e
      have := h.1 z hz
      simp only [decide_eq_true_eq] at e
      exact this ⟨e.1.symm, e.2.symm⟩
     rw [this]
   · rw [List.filter_cons, if_neg (by simpa using h.1 y hy)]
     exact filter_uniq h.2 hy
theorem amtFor_live (l : List Dq) (per kind : Int) : amtFor (live l) per kind = amtFor l per kind := by
 induction l with
 | nil => rfl
 | cons x l ih =>
   rw [amtFor_cons x l]
   unfold live
   rw [List.filter_cons]
   split
   · rw [amtFor_cons x]; unfold live at ih; rw [ih]
   · rename_i h
     have h0 : x.opn = 0 := by simpa [nil0] using h
     unfold live at ih; rw [ih, amtFor_one]
     split <;> omega
theorem amtFor_row (s t : List Dq) (a : Int) (per kind : Int) : amtFor (t.map fun x => { x with opn := paidI s a x }) per kind = ((t.filter fun x => decide (x.per = per ∧ x.kind = kind)).map (paidI s a)).sum := by
 unfold amtFor opens
 rw [List.filter_map, List.map_map]
 rfl
theorem amtFor_parts {ps : List Per} (hr : RiseP ps) (hpl : placesE (itemsOf ps) = 0) (a : Int) {y : Dq} (hy : y ∈ itemsOf ps) : amtFor (partsOf (itemsOf ps) a) y.per y.kind = paidI (itemsOf ps) a y := by
 have ho := ordS_is hpl
 unfold partsOf
 rw [amtFor_live]
 unfold paidRow
 rw [amtFor_row, show paidI (ordS (itemsOf ps)) a = paidI (itemsOf ps) a from funext fun x => paidI_perm ho.1 a x]
 have hu : (ordS (itemsOf ps)).Pairwise fun a b => ¬ (a.per = b.per ∧ a.kind = b.kind) := ho.1.symm.pairwise (items_uniq hr) (fun {a b} h e => h ⟨e.1.symm, e.2.symm⟩)
 rw [filter_uniq hu (ho.1.mem_iff.2 hy)]
 simp
theorem parts_of {its : List Dq} (hpl : placesE its = 0) {a : Int} {x : Dq} (hx : x ∈ partsOf its a) : ∃ y ∈ its, x = { y with opn := paidI its a y } ∧ 1 ≤ x.opn ∧ x.opn ≤ y.opn := by
 have ho := ordS_is hpl
 unfold partsOf live at hx
 obtain ⟨hx, h1⟩ := List.mem_filter.1 hx
 obtain ⟨y, hy, rfl⟩ := List.mem_map.1 hx
 have hyi := ho.1.mem_iff.1 hy
 have e : paidI (ordS its) a y = paidI its a y := paidI_perm ho.1 a y
 have hb := paid_bd (placesE_ok hpl).2.1 hyi (amount := a)
 refine ⟨y, hyi, by rw [e], ?_, by rw [e]; exact hb.2⟩
 have h0 : ¬ paidI (ordS its) a y = 0 := by simpa [nil0] using h1
 rw [e] at h0 ⊢
 show 1 ≤ paidI its a y
 omega
theorem pay_facts {day bp : Int} {ps : List Per} (hd : 0 ≤ day ∧ day ≤ 3652058) (hb : 0 ≤ bp ∧ bp ≤ 100000) (hr : RiseP ps) (hp : ∀ p ∈ ps, PerOk day bp p) (hn : ps.length ≤ 60) {a : Int} (ha : 0 ≤ a) :
  (∀ k ps' (hk : k < (partsOf (itemsOf ps) a).length), giveS day (-1) ps ((partsOf (itemsOf ps) a).take k) = some ps' → GoodAt day bp (-1) ps' (partsOf (itemsOf ps) a)[k]) ∧
  ∃ ps', giveS day (-1) ps (partsOf (itemsOf ps) a) = some ps' ∧ itemsOf ps' = restI (itemsOf ps) a ∧ ps'.map Per.ret = ps.map Per.ret ∧ (∀ p ∈ ps', PerOk day bp p) ∧ RiseP ps' := by
 have hpl := items_ok hr hp hn
 have hok := (placesE_ok hpl).2.1
 have hl : ∀ x ∈ partsOf (itemsOf ps) a, Placed ps x ∧ 0 ≤ x.opn ∧ x.opn ≤ 4611686018427387904 := fun x hx => by
  obtain ⟨y, hy, e, h1, h2⟩ := parts_of hpl hx
  obtain ⟨p, hpp, f1, f2, f3, f4⟩ := items_opn hy
  obtain ⟨i, hi, rfl⟩ := List.mem_iff_getElem.1 hpp
  have hbd := okI_yes (List.all_eq_true.1 hok y hy)
  have e1 : x.per = y.per := by rw [e]
  have e2 : x.kind = y.kind := by rw [e]
  exact ⟨⟨⟨i, hi, by rw [e1, f1]; exact place_at hr hi⟩, by rw [e2]; exact f3⟩, by omega, by omega⟩
 have hf : Fits ps (-1) (partsOf (itemsOf ps) a) := .inr ⟨rfl, fun y hy => by rw [amtFor_parts hr hpl a hy]; exact (paid_bd hok hy).2⟩
 refine ⟨fun k ps' hk hg => good_at hd hb hr hp (fun x hx => (hl x hx).1) (fun x hx => (hl x hx).2) hf k ps' hk hg, ?_⟩
 obtain ⟨ps', e⟩ := giveS_some hd hb _ hr hp (fun x hx => (hl x hx).1) (fun x hx => (hl x hx).2.1) hf
 obtain ⟨i1, i2⟩ := giveS_items _ hr (fun x hx => (hl x hx).1) e
 obtain ⟨g1, g2, g3⟩ := giveS_ok hd hb _ hr hp (fun x hx => (hl x hx).1) (fun x hx => (hl x hx).2.1) hf e
 refine ⟨ps', e, ?_, i2, g1, g2⟩
 rw [i1]
 unfold restI
 apply List.map_congr_left
 intro y hy
 rw [bump, amtFor_parts hr hpl a hy]
 simp only [Dq.mk.injEq, true_and]
 omega
section
open Go.RowKit Go
theorem info_per : (Tryz.prog.info? 92).map (fun i => (i.zero, i.size, i.bytes)) = some (some (.agg #[.int .i64 0, .int .i64 0, .int .i64 0, .int .i64 0, .int .i64 0, .int .i64 0, .int .i64 0, .int .i64 0, .int .i64 0, .int .i64 0, .int .i64 0]), 11, 88) := by kernel_rfl
theorem info_pm : (Tryz.prog.info? 110).map (fun i => (i.zero, i.size, i.bytes)) = some (some (.agg #[.int .i64 0, .int .i64 0, .int .i64 0, .slice none 0 0, .int .i64 0, .bool false]), 6, 64) := by kernel_rfl
theorem perCs_one (ps : List Per) : ∀ u ∈ perCs ps, u.oneCell' = true := by
 intro u hu
 obtain ⟨q, _, hq⟩ := List.mem_flatMap.1 hu
 simp [perC] at hq
 rcases hq with rfl | rfl | rfl | rfl | rfl | rfl | rfl | rfl | rfl | rfl | rfl <;> rfl
theorem pmCs_one {w : World} {qs : List PmE} (h : ∀ q ∈ qs, PartsAt w q.v q.p.parts) : ∀ u ∈ pmCs qs, u.oneCell' = true := by
 intro u hu
 obtain ⟨q, hq, hu⟩ := List.mem_flatMap.1 hu
 obtain ⟨A, c, e⟩ := (h q hq).form
 simp [pmC, e] at hu
 rcases hu with rfl | rfl | rfl | rfl | rfl | rfl <;> rfl
theorem rd_nil_of {w : World} {B s n : Nat} {xs : List Value} (h : Rd w B s none n xs) : n = 0 := by
 rcases Nat.eq_zero_or_pos n with h0 | h0
 · exact h0
 · obtain ⟨b, off, e, _⟩ := h.2 h0; cases e
theorem clonePer_any (A : Option Addr) (n c : Nat) (ps : List Per) (w : World) (hl : ps.length = n) (hr : Rd w w.heap.size 11 A n (perCs ps)) (hn : n ≤ 1000000) :
  Calls Tryz.prog 142 #[.slice A n c] w fun e w' => ∃ v, e = .returned v ∧ w'.ownsRow w.heap.size 92 11 v n (perCs ps) ∧ Below w.heap.size w w' := by
 obtain ⟨i0, hi, hz0, hz1, hz2⟩ := info_parts info_per
 have hm := maxLen_le
 rcases A with _ | a
 · have h0 := rd_nil_of hr
   subst h0
   have hl0 : ps = [] := List.eq_nil_of_length_eq_zero hl
   subst hl0
   have e := Lib.run_eql_slice_nil (P := Tryz.prog) w 80 92 none 0 c 0 0 Tryz.underlying80
   go_enter Tryz.func142, Tryz.ntmps142
   go_wp2_with fail
   go_ret
   exact ⟨_, rfl, World.ownsRow_nil _ _ _ _, Below.refl _ _⟩
 · have e := Lib.run_eql_slice_nil (P := Tryz.prog) w 80 92 (some a) n c 0 0 Tryz.underlying80
   have hB : Below w.heap.size w (w.alloc (.cells #[] 92)) := (Below.refl _ _).alloc (Nat.le_refl _) _
   have hrr := hyd (hr.below hB)
   go_enter Tryz.func142, Tryz.ntmps142
   go_wp2_with (at_builtin; refine wpList_app rfl (.tmp 5) (.tmp 6) _ rfl w.heap.size 92 i0 _ 11 88 Tryz.underlying80 hi hz0 hz1 hz2 rfl (by omega) (.slice (some ⟨w.heap.size, 0, none⟩) 0 0) 0 [] rfl (World.ownsRow_made w #[] 0 (Nat.le_refl _) (by omega) rfl) w.heap.size (some a) n c (perCs ps) rfl hrr.out (perCs_one ps) (by unfold maxLen; omega) (by omega) (by simp) ?_; intro v1 w1 hO hg hat)
   have HO := hyd (show w1.ownsRow w.heap.size 92 11 v1 n (perCs ps) by simpa using hO)
   have HB : Hid (Below w.heap.size w w1) := hB.grown hg (by simp) (fun k hk => by simp [Value.ownBlock] at hk; omega)
   clear hO hg hat
   go_wp2_with fail
   go_ret
   exact ⟨_, rfl, HO.out, HB.out⟩
theorem clonePm_any (A : Option Addr) (n c : Nat) (qs : List PmE) (w : World) (hl : qs.length = n) (hr : Rd w w.heap.size 6 A n (pmCs qs)) (hp : ∀ q ∈ qs, PartsAt w q.v q.p.parts) (hn : n ≤ 1000000) :
  Calls Tryz.prog 132 #[.slice A n c] w fun e w' => ∃ A' c', e = .returned (.slice A' n c') ∧ n ≤ c' ∧ w'.ownsRow w.heap.size 110 6 (.slice A' n c') n (pmCs qs) ∧ Below w.heap.size w w' := by
 obtain ⟨i0, hi, hz0, hz1, hz2⟩ := info_parts info_pm
 have hm := maxLen_le
 have hone := hyd (pmCs_one hp)
 clear hp
 rcases A with _ | a
 · have h0 := rd_nil_of hr
   subst h0
   have hl0 : qs = [] := List.eq_nil_of_length_eq_zero hl
   subst hl0
   have e := Lib.run_eql_slice_nil (P := Tryz.prog) w 81 110 none 0 c 0 0 Tryz.underlying81
   go_enter Tryz.func132, Tryz.ntmps132
   go_wp2_with fail
   go_ret
   exact ⟨none, 0, rfl, Nat.le_refl _, World.ownsRow_nil _ _ _ _, Below.refl _ _⟩
 · have e := Lib.run_eql_slice_nil (P := Tryz.prog) w 81 110 (some a) n c 0 0 Tryz.underlying81
   have hB : Below w.heap.size w (w.alloc (.cells #[] 110)) := (Below.refl _ _).alloc (Nat.le_refl _) _
   have hrr := hyd (hr.below hB)
   go_enter Tryz.func132, Tryz.ntmps132
   go_wp2_with (at_builtin; refine wpList_app rfl (.tmp 5) (.tmp 6) _ rfl w.heap.size 110 i0 _ 6 64 Tryz.underlying81 hi hz0 hz1 hz2 rfl (by omega) (.slice (some ⟨w.heap.size, 0, none⟩) 0 0) 0 [] rfl (World.ownsRow_made w #[] 0 (Nat.le_refl _) (by omega) rfl) w.heap.size (some a) n c (pmCs qs) rfl hrr.out hone.out (by unfold maxLen; omega) (by omega) (by simp) ?_; intro v1 w1 hO hg hat)
   have HO := hyd (show w1.ownsRow w.heap.size 110 6 v1 n (pmCs qs) by simpa using hO)
   have HB : Hid (Below w.heap.size w w1) := hB.grown hg (by simp) (fun k hk => by simp [Value.ownBlock] at hk; omega)
   clear hO hg hat
   go_wp2_with fail
   go_ret
   obtain ⟨A', c', rfl, _⟩ := own_form HO.out
   refine ⟨A', c', rfl, ?_, HO.out, HB.out⟩
   rcases HO.out.2 with ⟨h1, h2⟩ | ⟨g, cap, cur, h1, _, _, h4, _⟩
   · omega
   · injection h1 with _ _ h1; omega
theorem cloneIt_any (A : Option Addr) (n c : Nat) (l : List Dq) (w : World) (hp : PartsAt w (.slice A n c) l) (hn : n ≤ 1000000) :
  Calls Tryz.prog 133 #[.slice A n c] w fun e w' => ∃ v, e = .returned v ∧ PartsAt w' v l ∧ Below w.heap.size w w' := by
 obtain ⟨i0, hi, hz0, hz1, hz2⟩ := info_parts info_it
 obtain ⟨hl, hnc, hcm, hr⟩ := hp.rd
 have hm := maxLen_le
 clear hp hcm
 rcases A with _ | a
 · have h0 := rd_nil_of hr
   subst h0
   have hl0 : l = [] := List.eq_nil_of_length_eq_zero hl.symm
   subst hl0
   clear hl hr hnc
   have e := Lib.run_eql_slice_nil (P := Tryz.prog) w 41 58 none 0 c 0 0 Tryz.underlying41
   go_enter Tryz.func133, Tryz.ntmps133
   go_wp2_with fail
   go_ret
   exact ⟨_, rfl, ⟨none, 0, rfl, Nat.le_refl _, by simp, fun h => absurd h (by simp)⟩, Below.refl _ _⟩
 · have e := Lib.run_eql_slice_nil (P := Tryz.prog) w 41 58 (some a) n c 0 0 Tryz.underlying41
   have hB : Below w.heap.size w (w.alloc (.cells #[] 58)) := (Below.refl _ _).alloc (Nat.le_refl _) _
   have hrr := hyd (hr.below hB)
   have HL := hyd hl
   clear hl hr hnc
   go_enter Tryz.func133, Tryz.ntmps133
   go_wp2_with (at_builtin; refine wpList_app rfl (.tmp 5) (.tmp 6) _ rfl w.heap.size 58 i0 _ 4 32 Tryz.underlying41 hi hz0 hz1 hz2 rfl (by omega) (.slice (some ⟨w.heap.size, 0, none⟩) 0 0) 0 [] rfl (World.ownsRow_made w #[] 0 (Nat.le_refl _) (by omega) rfl) w.heap.size (some a) n c (itCs l) rfl hrr.out (itCs_one l) (by unfold maxLen; omega) (by omega) (by simp) ?_; intro v1 w1 hO hg hat)
   have HO := hyd (show w1.ownsRow w.heap.size 58 4 v1 l.length (itCs l) by rw [← HL.out]; simpa using hO)
   have HB : Hid (Below w.heap.size w w1) := hB.grown hg (by simp) (fun k hk => by simp [Value.ownBlock] at hk; omega)
   clear hO hg hat
   go_wp2_with fail
   go_ret
   exact ⟨_, rfl, PartsAt.of_own HO.out, HB.out⟩
theorem bnewU (w : World) (o : Obj) : Below w.heap.size w (w.alloc o) := (Below.refl _ _).alloc (Nat.le_refl _) _
theorem PartsAt.puts {w w' : World} {v : Value} {l : List Dq} {b : Nat} {us : List (Nat × Value)} {cs : Array Value} {t : Nat} {fr : Nat × Nat} (h : PartsAt w v l) (hp : Puts w b us w') (hb : w.heap[b]? = some (.cells cs t fr)) (ht : t ≠ 58) : PartsAt w' v l :=
 h.keep fun b' cs' hb' => hp.far b' (blk_lt hb') (ne_of_type' hb' hb (fun e => ht e.symm))
theorem pm_put {qs : List PmE} {i j : Nat} (h : i < qs.length) (hj : j < 6) {u : Value} {y : PmE} (hy : (pmC qs[i]).set j u = pmC y) : (pmCs qs).set (i * 6 + j) u = pmCs (qs.set i y) := flat_set pmC_len h hj hy
def PaymentsOf (w : World) (ms : List Pm) (e : Ending) (w' : World) : Prop := ∃ v qs, e = .returned v ∧ w'.ownsRow w.heap.size 110 6 v ms.length (pmCs qs) ∧ qs.map PmE.p = ms ∧ (∀ q ∈ qs, PartsAt w' q.v q.p.parts) ∧ Below w.heap.size w w'
structure PayInv (w wr : World) (A : Option Addr) (c : Nat) (ms : List Pm) (qs rs : List PmE) (k : Nat) : Prop where
 own : wr.ownsRow w.heap.size 110 6 (.slice A ms.length c) ms.length (pmCs rs)
 hm : rs.map PmE.p = ms
 parts : ∀ q ∈ rs, PartsAt wr q.v q.p.parts
 bel : Below w.heap.size w wr
theorem PayInv.step {w wr w1 : World} {g c : Nat} {ms : List Pm} {qs rs : List PmE} {k : Nat} (h : PayInv w wr (some ⟨g, 0, none⟩) c ms qs rs k) (hk : k < rs.length) {v : Value} (hv : PartsAt w1 v (rs[k]).p.parts) (hb : Below wr.heap.size wr w1) :
  PayInv w (w1.setCell ⟨g, k * 6 + 3, none⟩ v) (some ⟨g, 0, none⟩) c ms qs (rs.set k ⟨(rs[k]).p, v⟩) (k + 1) := by
 have hl : rs.length = ms.length := by rw [← h.hm, List.length_map]
 have ho := own_below h.own hb
 obtain ⟨hgb, cs, hcs⟩ := own_block_type ho (b := g) rfl
 have hp : Puts w1 g [(k * 6 + 3, v)] (w1.setCell ⟨g, k * 6 + 3, none⟩ v) := (Puts.start (Below.refl _ _)).set _ _
 refine ⟨?_, ?_, fun q hq => ?_, (h.bel.trans (hb.mono h.bel.size)).setCell hgb _⟩
 · have := own_puts ho hp
   simp only [List.foldl_cons, List.foldl_nil] at this
   rwa [pm_put hk (by omega) (y := ⟨(rs[k]).p, v⟩) rfl] at this
 · rw [List.map_set]
   have : rs.map PmE.p = (rs.map PmE.p).set k (rs[k]).p := by
    apply List.ext_getElem (by simp)
    intro i h1 h2
    rw [List.getElem_set]
    split
    · rename_i e; subst e; simp
    · rfl
   rw [← this]; exact h.hm
 · rcases List.mem_or_eq_of_mem_set hq with hq | rfl
   · exact ((h.parts q hq).below hb).puts hp hcs (by decide)
   · exact hv.puts hp hcs (by decide)
theorem payments_any (g B : Nat) (S : Ac) (vp vq : Value) (qs : List PmE) (w : World) (h : OwnV w B g S vp vq qs) (hN : S.ms.length ≤ 1000) (hQ : ∀ p ∈ S.ms, p.parts.length ≤ 1000) :
  Calls Tryz.prog 76 #[.pointer (some ⟨g, 0, none⟩)] w (PaymentsOf w S.ms) := by
 obtain ⟨A, c, rfl, hc, hr⟩ := h.rdq
 obtain ⟨a0, a1, a2, a3, a4, a5⟩ := cells5U h.hg
 have hgl := blk_lt h.hg
 have HI := hyd (clonePm_any A S.ms.length c qs w h.len hr h.parts (by omega))
 have HM := hyd h.hm
 have HPT := hyd h.parts
 have HQ := hyd hQ
 clear h hr hQ
 obtain ⟨n, hn⟩ : ∃ n, S.ms.length = n := ⟨_, rfl⟩
 have HNN := hyd hn
 rw [hn] at HI hN hc a4
 go_enter Tryz.func76, Tryz.ntmps76
 go_wp2_with fail
 refine HI.out.mono ?_; rintro e w1 ⟨A1, c1, rfl, hc1, ho1, hb1⟩
 have HI1 : Hid (PayInv w w1 A1 c1 S.ms qs qs 0) := hyd ⟨by rw [HNN.out]; exact ho1, HM.out, fun q hq => (HPT.out q hq).below hb1, hb1⟩
 clear ho1 hb1
 go_wp2_with fail
 go_loopg [4, 12] n (fun g' v4 v12 wr => ∃ k : Nat, ∃ rs, g' = n - k ∧ k ≤ n ∧ v12 = .int .i64 k ∧ PayInv w wr A1 c1 S.ms qs rs k)
 case atStart => exact ⟨0, _, rfl, by omega, rfl, HI1.out⟩
 case round =>
  obtain ⟨k, rs, hgk, hk, rfl, hinv⟩ := hrel
  have HG := hyd hgk; have HV := hyd hinv
  have hlr : rs.length = n := by rw [← HNN.out, ← hinv.hm, List.length_map]
  clear hgk
  by_cases hlt : k < n
  · have hl1 : k < rs.length := by omega
    obtain ⟨b, off, e1, hb, c0, c1', c2, c3, c4, c5⟩ := (Rd.of_own hinv.own).pm hl1
    have hof : A1 = some ⟨b, 0, none⟩ ∧ off = 0 := by
     rcases hinv.own.2 with ⟨h1, h2⟩ | ⟨g', cap, cur, h1, _⟩
     · have := HNN.out; omega
     · injection h1 with h1; rw [e1] at h1; injection h1 with h1; injection h1 with h1 h2; subst h1 h2; exact ⟨e1, rfl⟩
    obtain ⟨rfl, rfl⟩ := hof
    simp only [Nat.zero_add] at c0 c1' c2 c3 c4 c5
    obtain ⟨Av, cv, ev⟩ := (hinv.parts _ (List.getElem_mem hl1)).form
    have hpa := hinv.parts _ (List.getElem_mem hl1)
    rw [ev] at c3 hpa
    have hpl : (rs[k]).p.parts.length ≤ 1000 := HQ.out _ (by rw [← hinv.hm]; exact List.mem_map.2 ⟨_, List.getElem_mem hl1, rfl⟩)
    have HC := hyd (cloneIt_any Av _ cv _ wr hpa (by omega))
    have HL1 := hyd hl1
    have hfz : wr.frozen? ⟨b, k * 6 + 3, none⟩ = false := by
     have e := pmCs_at (qs := rs) (i := k) (j := 3) hl1 (by omega)
     exact (own_cell hinv.own (e.trans rfl)).2
    have i1 : (0 : Int) ≤ (k : Int) := by omega
    have i2 : (k : Int) < (n : Int) := by omega
    have hbl : b < wr.heap.size := by
     obtain ⟨_, cs, hcs⟩ := own_block_type hinv.own (b := b) rfl; exact blk_lt hcs
    clear hinv hpa hpl c0 c1' c2 c4 c5 ev e1 hlr
    go_wp2_with fail
    refine HC.out.mono ?_; rintro e w2 ⟨v2, rfl, hv2, hb2⟩
    have hx3 := (hb2.cell (p := ⟨b, k * 6 + 3, none⟩) hbl).trans c3
    have hy3 := (hb2.frozen (p := ⟨b, k * 6 + 3, none⟩) hbl).trans hfz
    have HV2 := hyd (HV.out.step HL1.out hv2 hb2)
    obtain ⟨A2, cc2, rfl⟩ := hv2.form
    clear hv2 hb2
    go_wp2_with fail
    go_roundg (n - (k + 1))
    case measure => have := HG.out; omega
    case rel => exact ⟨k + 1, _, rfl, by omega, by go_num, HV2.out⟩
  · have hkN : k = n := by omega
    subst hkN
    clear hinv
    go_wp2_with fail
    go_ret
    exact ⟨_, rs, rfl, by have := HV.out.own; rw [HNN.out] at this ⊢; exact this, HV.out.hm, HV.out.parts, HV.out.bel⟩
end
section
open Go.RowKit Go
theorem copied_end {w w1 w2 : World} {B g : Nat} {S : Ac} {vp vq v1 v2 : Value} {qs qs2 : List PmE} (h : OwnV w B g S vp vq qs)
  (ho1 : w1.ownsRow (w.alloc (.cells #[.int .i64 S.day, .int .i64 S.bp, .int .i64 S.cr, vp, vq] 83)).heap.size 92 11 v1 S.ps.length (perCs S.ps))
  (hb1 : Below (w.alloc (.cells #[.int .i64 S.day, .int .i64 S.bp, .int .i64 S.cr, vp, vq] 83)).heap.size (w.alloc (.cells #[.int .i64 S.day, .int .i64 S.bp, .int .i64 S.cr, vp, vq] 83)) w1)
  (ho2 : w2.ownsRow w1.heap.size 110 6 v2 S.ms.length (pmCs qs2)) (hm2 : qs2.map PmE.p = S.ms) (hp2 : ∀ q ∈ qs2, PartsAt w2 q.v q.p.parts) (hb2 : Below w1.heap.size w1 w2) :
  OwnAt ((w2.setCell ⟨w.heap.size, 3, none⟩ v1).setCell ⟨w.heap.size, 4, none⟩ v2) w.heap.size w.heap.size S ∧ Below w.heap.size w ((w2.setCell ⟨w.heap.size, 3, none⟩ v1).setCell ⟨w.heap.size, 4, none⟩ v2) := by
 have z0 : (w.alloc (.cells #[.int .i64 S.day, .int .i64 S.bp, .int .i64 S.cr, vp, vq] 83)).heap.size = w.heap.size + 1 := by simp
 have z1 := hb1.size
 have z2 := hb2.size
 have hbox := blk_below (blk_below (blk_new w (.cells #[.int .i64 S.day, .int .i64 S.bp, .int .i64 S.cr, vp, vq] 83) rfl) hb1 (by omega)) hb2 (by omega)
 refine ⟨⟨v1, v2, qs2, ?_, Nat.le_refl _, ?_, ?_, hm2, fun q hq => ?_⟩, ?_⟩
 · exact (blk_set (blk_set hbox 3 v1) 4 v2).trans rfl
 · have := own_below ho1 hb2
   refine own_mono (own_far (own_far this ?_ _) ?_ _) (by omega) <;> · intro e; have t : _ ≤ w.heap.size := (own_block_type ho1 e).1; omega
 · refine own_mono (own_far (own_far ho2 ?_ _) ?_ _) (by omega) <;> · intro e; have t : _ ≤ w.heap.size := (own_block_type ho2 e).1; omega
 · have hp : Puts w2 w.heap.size [(3, v1), (4, v2)] ((w2.setCell ⟨w.heap.size, 3, none⟩ v1).setCell ⟨w.heap.size, 4, none⟩ v2) := ((Puts.start (Below.refl _ _)).set 3 v1).set 4 v2
   exact (hp2 q hq).puts hp hbox (by decide)
 · exact ((((bnewU w _).trans (hb1.mono (by omega))).trans (hb2.mono (by omega))).setCell (Nat.le_refl _) _).setCell (Nat.le_refl _) _
theorem copied_any (g B : Nat) (S : Ac) (w : World) (h : OwnAt w B g S) (hN : S.ms.length ≤ 1000) (hM : S.ps.length ≤ 1000) (hQ : ∀ p ∈ S.ms, p.parts.length ≤ 1000) :
  Calls Tryz.prog 94 #[.pointer (some ⟨g, 0, none⟩)] w fun e w' => e = .returned (.pointer (some ⟨w.heap.size, 0, none⟩)) ∧ OwnAt w' w.heap.size w.heap.size S ∧ Below w.heap.size w w' := by
 obtain ⟨vp, vq, qs, h⟩ := h
 have HV := hyd h
 obtain ⟨A, c, rfl, hc, hr⟩ := h.rdp
 obtain ⟨a0, a1, a2, a3, a4, a5⟩ := cells5U h.hg
 obtain ⟨A', c', rfl, _⟩ := h.rdq
 have hgl := blk_lt h.hg
 have hne : g ≠ w.heap.size := by omega
 have hba := bnewU w (.cells #[.int .i64 S.day, .int .i64 S.bp, .int .i64 S.cr, .slice A S.ps.length c, .slice A' S.ms.length c'] 83)
 have HC := hyd (clonePer_any A S.ps.length c S.ps (w.alloc (.cells #[.int .i64 S.day, .int .i64 S.bp, .int .i64 S.cr, .slice A S.ps.length c, .slice A' S.ms.length c'] 83)) rfl ((hr.below hba).wider hba.size) (by omega))
 have HVA := hyd (h.below hba)
 have HP := hyd (fun wx hv => payments_any g B S (.slice A S.ps.length c) (.slice A' S.ms.length c') qs wx hv hN hQ)
 clear h hr hba
 go_enter Tryz.func94, Tryz.ntmps94
 go_wp2_with fail
 refine HC.out.mono ?_; rintro e w1 ⟨v1, rfl, ho1, hb1⟩
 have HO1 := hyd ho1; have HB1 := hyd hb1
 clear ho1 hb1
 go_wp2_with fail
 refine (HP.out w1 (HVA.out.below HB1.out)).mono ?_; rintro e w2 ⟨v2, qs2, rfl, ho2, hm2, hp2, hb2⟩
 have hbox := blk_below (blk_below (blk_new w (.cells #[.int .i64 S.day, .int .i64 S.bp, .int .i64 S.cr, .slice A S.ps.length c, .slice A' S.ms.length c'] 83) rfl) HB1.out (by simp)) hb2 (by have := HB1.out.size; simp at this; omega)
 obtain ⟨b0, b1, b2, b3, b4, b5⟩ := cells5U hbox
 have HE := hyd (copied_end HV.out HO1.out HB1.out ho2 hm2 hp2 hb2)
 obtain ⟨A1, k1, rfl, _⟩ := own_form HO1.out
 obtain ⟨A2, k2, rfl, _⟩ := own_form ho2
 have z1 := HB1.out.size
 have z2 := hb2.size
 simp at z1
 have hbl : w.heap.size < w2.heap.size := by omega
 clear ho2 hm2 hp2 hb2 hbox z1 z2
 go_wp2_with fail
 go_ret
 exact ⟨rfl, HE.out⟩
structure Caught (w : World) (gm ge : Nat) (c : Int) (w' : World) : Prop where
 os : w'.os = w.os
 tape : w'.tape = w.tape
 output : w'.output = w.output
 size : w'.heap.size = w.heap.size
 m : w'.heap[gm]? = some (.cells #[.int .i64 0, .int .i64 0, .int .i64 0, .int .i64 0, .int .i64 0, .int .i64 0] 33 (0, 0))
 e : w'.heap[ge]? = some (.cells #[.int .i64 c] 28 (0, 0))
 far : ∀ k, k ≠ gm → k ≠ ge → w'.heap[k]? = w.heap[k]?
theorem Caught.drew {w w' : World} {gm ge : Nat} {c : Int} (h : Caught w gm ge c w') : Caught w gm ge c w'.drew := ⟨h.os, h.tape, h.output, h.size, h.m, h.e, h.far⟩
theorem sc_os (w : World) (p : Addr) (u : Value) : (w.setCell p u).os = w.os := rfl
theorem sc_tape (w : World) (p : Addr) (u : Value) : (w.setCell p u).tape = w.tape := rfl
theorem sc_output (w : World) (p : Addr) (u : Value) : (w.setCell p u).output = w.output := rfl
theorem caught_of {w : World} {gm ge : Nat} {c e0 : Int} {v0 v1 v2 v3 v4 v5 : Value} (hm : w.heap[gm]? = some (.cells #[v0, v1, v2, v3, v4, v5] 33 (0, 0))) (he : w.heap[ge]? = some (.cells #[.int .i64 e0] 28 (0, 0))) (hne : gm ≠ ge) :
  Caught w gm ge c (((((((w.setCell ⟨gm, 0, none⟩ (.int .i64 0)).setCell ⟨gm, 1, none⟩ (.int .i64 0)).setCell ⟨gm, 2, none⟩ (.int .i64 0)).setCell ⟨gm, 3, none⟩ (.int .i64 0)).setCell ⟨gm, 4, none⟩ (.int .i64 0)).setCell ⟨gm, 5, none⟩ (.int .i64 0)).setCell ⟨ge, 0, none⟩ (.int .i64 c))  := by
 refine ⟨by simp only [sc_os], by simp only [sc_tape], by simp only [sc_output], by simp only [World.size_setCell], ?_, ?_, fun k h1 h2 => ?_⟩
 · have a0 := blk_set hm 0 (.int .i64 0)
   have a1 := blk_set a0 1 (.int .i64 0)
   have a2 := blk_set a1 2 (.int .i64 0)
   have a3 := blk_set a2 3 (.int .i64 0)
   have a4 := blk_set a3 4 (.int .i64 0)
   have a5 := blk_set a4 5 (.int .i64 0)
   have a6 := blk_far a5 (p := ⟨ge, 0, none⟩) hne (.int .i64 c)
   exact a6
 · have a0 := blk_far he (p := ⟨gm, 0, none⟩) (Ne.symm hne) (.int .i64 0)
   have a1 := blk_far a0 (p := ⟨gm, 1, none⟩) (Ne.symm hne) (.int .i64 0)
   have a2 := blk_far a1 (p := ⟨gm, 2, none⟩) (Ne.symm hne) (.int .i64 0)
   have a3 := blk_far a2 (p := ⟨gm, 3, none⟩) (Ne.symm hne) (.int .i64 0)
   have a4 := blk_far a3 (p := ⟨gm, 4, none⟩) (Ne.symm hne) (.int .i64 0)
   have a5 := blk_far a4 (p := ⟨gm, 5, none⟩) (Ne.symm hne) (.int .i64 0)
   have a6 := blk_set a5 0 (.int .i64 c)
   exact a6
 · rw [Below.heap_setCell _ ⟨ge, 0, none⟩ _ k h2, Below.heap_setCell _ ⟨gm, 5, none⟩ _ k h1, Below.heap_setCell _ ⟨gm, 4, none⟩ _ k h1, Below.heap_setCell _ ⟨gm, 3, none⟩ _ k h1, Below.heap_setCell _ ⟨gm, 2, none⟩ _ k h1, Below.heap_setCell _ ⟨gm, 1, none⟩ _ k h1, Below.heap_setCell _ ⟨gm, 0, none⟩ _ k h1]
theorem errno_assert (v : Value) (w : World) : (Instr.typeAssert (.iface 28 v) 20 28 false).run Tryz.prog w = .ok v w := by kernel_rfl
theorem cells6U {w : World} {v0 v1 v2 v3 v4 v5 : Value} {t g : Nat} (h : w.heap[g]? = some (.cells #[v0, v1, v2, v3, v4, v5] t (0, 0))) :
  w.cell? ⟨g, 0, none⟩ = some v0 ∧ w.cell? ⟨g, 1, none⟩ = some v1 ∧ w.cell? ⟨g, 2, none⟩ = some v2 ∧ w.cell? ⟨g, 3, none⟩ = some v3 ∧ w.cell? ⟨g, 4, none⟩ = some v4 ∧ w.cell? ⟨g, 5, none⟩ = some v5 ∧ ∀ i, w.frozen? ⟨g, i, none⟩ = false := by
 simp [World.cell?, World.frozen?, h]
theorem catch_pan (gm ge : Nat) (c : Int) (m : Mv) (e0 : Int) (older : List PanicEntry) (w : World) (hm : w.heap[gm]? = some (.cells #[.int .i64 m.c0, .int .i64 m.c1, .int .i64 m.c2, .int .i64 m.paid, .int .i64 m.cr, .int .i64 m.cash] 33 (0, 0))) (he : w.heap[ge]? = some (.cells #[.int .i64 e0] 28 (0, 0))) (hne : gm ≠ ge) :
  CallsD Tryz.prog 95 #[.pointer (some ⟨gm, 0, none⟩), .pointer (some ⟨ge, 0, none⟩)] (.panicking ({ v := .iface 28 (.int .i64 c), recovered := false } :: older)) w fun e u' w' =>
   e = .returned (.tuple #[]) ∧ u' = .panicking ({ v := .iface 28 (.int .i64 c), recovered := true } :: older) ∧ Caught w gm ge c w' := by
 have hta := errno_assert (.int .i64 c)
 refine callsD_of_wpS Tryz.func95 rfl fun c₀ cs hu => ?_
 apply wpS_seq
 apply wpS_region
 simp [wpOpsS, go_sem, recoverD, hu, Tryz.ntmps95, Exit.thenS]
 rw [show (#[Value.pointer (some { block := gm, off := 0 }), Value.pointer (some { block := ge, off := 0 })] ++ ((Array.replicate 7 undef).setIfInBounds 1 (Value.iface 28 (Value.int IntKind.i64 c))).setIfInBounds 0 (Value.iface 28 (Value.int IntKind.i64 c)) : Array Value) = #[Value.pointer (some { block := gm, off := 0 }), Value.pointer (some { block := ge, off := 0 }), .iface 28 (.int .i64 c), .iface 28 (.int .i64 c), undef, undef, undef, undef, undef] from rfl]
 refine wpS_of_wp ?_
 have hnn : ∀ wx : World, (binOp BinOp.neq 20 (.iface 28 (.int .i64 c)) .nilIface).run Tryz.prog wx = .ok (.bool true) wx := fun _ => by kernel_rfl
 have mc := cells6U hm
 obtain ⟨m0, m1, m2, m3, m4, m5, m6⟩ := mc
 have e1 : w.cell? ⟨ge, 0, none⟩ = some (.int .i64 e0) := (blk_cell he 0).trans rfl
 have e2 : w.frozen? ⟨ge, 0, none⟩ = false := blk_free he 0
 have hgm := blk_lt hm; have hge := blk_lt he
 have hne' : ge ≠ gm := Ne.symm hne
 have HM := hyd hm; have HE := hyd he
 clear hm he
 go_wp2_with fail
 go_region_with (fail)
 all_goals exact ⟨rfl, _, rfl, .tuple #[], results_none rfl _ _ _, rfl, rfl, (caught_of HM.out HE.out hne).drew⟩
theorem catch_idle (gm ge : Nat) (w : World) :
  CallsD Tryz.prog 95 #[.pointer (some ⟨gm, 0, none⟩), .pointer (some ⟨ge, 0, none⟩)] .returning w fun e u' w' => e = .returned (.tuple #[]) ∧ u' = .returning ∧ w' = w := by
 refine callsD_of_wpS Tryz.func95 rfl fun c₀ cs hu => ?_
 apply wpS_seq
 apply wpS_region
 simp [wpOpsS, go_sem, recoverD, hu, Tryz.ntmps95, Exit.thenS]
 rw [show (#[Value.pointer (some { block := gm, off := 0 }), Value.pointer (some { block := ge, off := 0 })] ++ ((Array.replicate 7 undef).setIfInBounds 1 Value.nilIface).setIfInBounds 0 Value.nilIface : Array Value) = #[Value.pointer (some { block := gm, off := 0 }), Value.pointer (some { block := ge, off := 0 }), .nilIface, .nilIface, undef, undef, undef, undef, undef] from rfl]
 refine wpS_of_wp ?_
 go_wp2_with fail
 cases c₀
 simp_all [bodyPostS, results, Tryz.results95]
end
end Go.Proofs.YtbjjgnaojoaoiaaGreat
