/- Laws. -/
import Derived.Test.YtbjjgnaojoaoiaaGreatZZ13
import Derived.WalkLawsBesides
import Derived.Test.YtbjjgnaojoaoiaaGreatZZ3
import Derived.Test.YtbjjgnaojoaoiaaGreatZZ4
namespace Go.Proofs.YtbjjgnaojoaoiaaGreat
open Go.RowKit Go
set_option linter.unusedVariables false
set_option linter.unusedSimpArgs false
set_option maxHeartbeats 3200000
set_option maxRecDepth 100000
@[reducible] def pmV (q : PmE) : Value := .agg #[.int .i64 q.p.id, .int .i64 q.p.day, .int .i64 q.p.amt, q.v, .int .i64 q.p.rest, .bool q.p.rev]
theorem payment1_any (q : PmE) (n : Int) (gn : Nat) (w : World) (hn : w.cell? ⟨gn, 0, none⟩ = some (.int .i64 n)) (hl : gn < w.heap.size) :
  Calls Tryz.prog 110 #[pmV q, .pointer (some ⟨gn, 0, none⟩)] w fun e w' => e = .returned (.bool (decide (q.p.id = n))) ∧ Below w.heap.size w w' := by
 have hne : gn ≠ w.heap.size := by omega
 go_enter Tryz.func110, Tryz.ntmps110
 go_wp2_with fail
 go_ret
 exact ⟨by first | rfl | (congr 2; exact beq_eq_decide _ _), (Below.refl _ _).alloc (Nat.le_refl _) _⟩
theorem indexPm_any (A : Option Addr) (N c : Nat) (ps : List PmE) (n : Int) (gn : Nat) (w : World) (hl : ps.length = N) (hr : Rd w w.heap.size 6 A N (pmCs ps)) (hN : N ≤ 1099511627776) (hn : w.cell? ⟨gn, 0, none⟩ = some (.int .i64 n)) (hg : gn < w.heap.size) :
  Calls Tryz.prog 109 #[.slice A N c, .func (.func 110) #[] #[.pointer (some ⟨gn, 0, none⟩)]] w fun e w' => e = .returned (.int .i64 (idxI (fun q : PmE => decide (q.p.id = n)) 0 ps)) ∧ Below w.heap.size w w' := by
 have HW := hyd (fun q (wx : World) (hb : Below w.heap.size w wx) => payment1_any q n gn wx ((hb.cell (p := ⟨gn, 0, none⟩) hg).trans hn) (Nat.lt_of_lt_of_le hg hb.size))
 have HL := hyd hl; have HR := hyd hr
 clear hl hr hn hg
 go_enter Tryz.func109, Tryz.ntmps109
 go_wp2_with fail
 go_loopg [5, 8] N (fun g' v5 v8 wr => ∃ k : Nat, g' = N - k ∧ k ≤ N ∧ v8 = .int .i64 k ∧ idxI (fun q : PmE => decide (q.p.id = n)) 0 ps = idxI (fun q : PmE => decide (q.p.id = n)) k (ps.drop k) ∧ Below w.heap.size w wr)
 case atStart => exact ⟨0, rfl, by omega, rfl, rfl, Below.refl _ _⟩
 case round =>
  obtain ⟨k, hgk, hk, rfl, hf, hbr⟩ := hrel
  have HG := hyd hgk; have HF := hyd hf; have HB := hyd hbr
  clear hgk hf
  by_cases hlt : k < N
  · have hl1 : k < ps.length := by rw [HL.out]; exact hlt
    obtain ⟨b, off, rfl, hb, c0, c1, c2, c3, c4, c5⟩ := (HR.out.below hbr).pm hl1
    have hd : ps.drop k = ps[k] :: ps.drop (k + 1) := List.drop_eq_getElem_cons hl1
    rw [hd] at HF
    clear hd hbr
    generalize ps[k] = q at *
    have i1 : (0 : Int) ≤ (k : Int) := by omega
    have i2 : (k : Int) < (N : Int) := by omega
    have HWM := hyd (HW.out q wr HB.out)
    by_cases hx : q.p.id = n
    · rw [decide_eq_true hx] at HWM
      have HF2 : Hid (idxI (fun q : PmE => decide (q.p.id = n)) 0 ps = k) := hyd (by rw [HF.out, idxI, if_pos (by simpa using hx)])
      clear hx HF
      go_wp2_with fail
      refine HWM.out.mono ?_; rintro e w1 ⟨rfl, hw1⟩
      have HW1 := hyd hw1; clear hw1
      go_wp2_with fail
      go_ret
      exact ⟨by rw [HF2.out]; first | done | rfl, HB.out.trans (HW1.out.mono HB.out.size)⟩
    · rw [decide_eq_false hx] at HWM
      have HF2 : Hid (idxI (fun q : PmE => decide (q.p.id = n)) 0 ps = idxI (fun q : PmE => decide (q.p.id = n)) (k + 1) (ps.drop (k + 1))) := hyd (by rw [HF.out, idxI, if_neg (by simpa using hx)])
      clear hx HF
      go_wp2_with fail
      refine HWM.out.mono ?_; rintro e w1 ⟨rfl, hw1⟩
      have HW1 := hyd hw1; clear hw1
      go_wp2_with fail
      go_roundg (N - (k + 1))
      case measure => have := HG.out; omega
      case rel => exact ⟨k + 1, rfl, by omega, by go_num, HF2.out, HB.out.trans (HW1.out.mono HB.out.size)⟩
  · have hkN : k = N := by omega
    subst hkN
    have HF2 : Hid (idxI (fun q : PmE => decide (q.p.id = n)) 0 ps = -1) := hyd (by
     rw [HF.out, List.drop_of_length_le (by rw [HL.out]; exact Nat.le_refl _)]; rfl)
    clear HF hbr
    go_wp2_with fail
    go_ret
    exact ⟨by rw [HF2.out]; first | done | rfl, HB.out⟩
def Ac.pay (S : Ac) (n : Int) : Int := idxI (fun p : Pm => decide (p.id = n)) 0 S.ms
theorem idxI_map {α β : Type} (g : α → β) (f : β → Bool) : ∀ (l : List α) (k : Nat), idxI (fun x => f (g x)) k l = idxI f k (l.map g)
 | [], _ => rfl
 | x :: l, k => by simp only [idxI, List.map_cons, idxI_map g f l (k + 1)]
theorem payment_any (g B : Nat) (S : Ac) (vp vq : Value) (qs : List PmE) (n : Int) (w : World) (h : OwnV w B g S vp vq qs) (hN : S.ms.length ≤ 1000) :
  Calls Tryz.prog 50 #[.pointer (some ⟨g, 0, none⟩), .int .i64 n] w fun e w' => e = .returned (.int .i64 (S.pay n)) ∧ Below w.heap.size w w' := by
 obtain ⟨A, c, rfl, hc, hr⟩ := h.rdq
 obtain ⟨a0, a1, a2, a3, a4, a5⟩ := cells5U h.hg
 have hgl := blk_lt h.hg
 have hne : g ≠ w.heap.size := by omega
 have HI := hyd (fun (wx : World) h1 h2 h3 => indexPm_any A S.ms.length c qs n w.heap.size wx h.len h1 (by omega) h2 h3)
 have HP : Hid (idxI (fun q : PmE => decide (q.p.id = n)) 0 qs = S.pay n) := hyd (by rw [idxI_map PmE.p (fun p : Pm => decide (p.id = n)) qs 0, h.hm]; rfl)
 have HR := hyd (hr.below ((Below.refl _ _).alloc (Nat.le_refl _) (.cells #[.int .i64 n] 3)))
 clear h hr
 go_enter Tryz.func50, Tryz.ntmps50
 go_wp2_with fail
 refine (HI.out _ (HR.out.wider (by simp)) (by simp [go_sem]) (by simp)).mono ?_; rintro e w1 ⟨rfl, hw1⟩
 rw [HP.out]
 have HW1 := hyd hw1; clear hw1
 go_wp2_with fail
 go_ret
 exact ⟨rfl, ((Below.refl _ _).alloc (Nat.le_refl _) _).trans (HW1.out.mono (by simp))⟩
@[reducible] def pan (c : Int) : Ending := .panicked [{ v := .iface 28 (.int .i64 c), recovered := false }]
theorem uadd_yes (a b : Int) (w : World) (h : (addS a b).2 = 0) : Calls Tryz.prog 43 #[.int .i64 a, .int .i64 b] w fun e w' => e = .returned (.int .i64 (addS a b).1) ∧ Below w.heap.size w w' := by
 obtain ⟨s, e, hs⟩ : ∃ s e, addS a b = (s, e) := ⟨_, _, rfl⟩
 rw [hs] at h
 simp only at h
 subst h
 have HA := hyd (add_any a b w)
 rw [hs] at HA ⊢
 clear hs
 go_enter Tryz.func43, Tryz.ntmps43
 go_wp2_with fail
 refine HA.out.mono ?_; rintro e w1 ⟨rfl, hw1⟩
 have HW1 := hyd hw1; clear hw1
 go_wp2_with fail
 go_ret
 exact ⟨rfl, HW1.out⟩
theorem uadd_no (a b : Int) (w : World) (h : (addS a b).2 ≠ 0) : Calls Tryz.prog 43 #[.int .i64 a, .int .i64 b] w fun e w' => e = pan 2 ∧ Below w.heap.size w w' := by
 obtain ⟨s, e, hs⟩ : ∃ s e, addS a b = (s, e) := ⟨_, _, rfl⟩
 rw [hs] at h
 have he : (e != 0) = true := by simpa using h
 have HA := hyd (add_any a b w)
 rw [hs] at HA
 clear hs h
 go_enter Tryz.func43, Tryz.ntmps43
 go_wp2_with fail
 refine HA.out.mono ?_; rintro e w1 ⟨rfl, hw1⟩
 have HW1 := hyd hw1; clear hw1
 go_wp2_with fail
 exact ⟨rfl, rfl, HW1.out⟩
def interestS (day bp : Int) (p : Per) : Int × Int := if day < p.since then (0, 0) else if (simpleS p.o2 bp (day - p.since)).2 = 0 then addS p.done (simpleS p.o2 bp (day - p.since)).1 else (0, (simpleS p.o2 bp (day - p.since)).2)
theorem PerAt.open_ {w : World} {b off : Nat} {p : Per} (h : PerAt w b off p) : w.cell? ⟨b, off + 5, none⟩ = some (.int .i64 p.o0) ∧ w.cell? ⟨b, off + 6, none⟩ = some (.int .i64 p.o1) ∧ w.cell? ⟨b, off + 7, none⟩ = some (.int .i64 p.o2) ∧ w.cell? ⟨b, off + 8, none⟩ = some (.int .i64 p.since) ∧ w.cell? ⟨b, off + 9, none⟩ = some (.int .i64 p.done) ∧ w.cell? ⟨b, off + 10, none⟩ = some (.int .i64 p.acc) :=
 ⟨h.c 5 (by omega), h.c 6 (by omega), h.c 7 (by omega), h.c 8 (by omega), h.c 9 (by omega), h.c 10 (by omega)⟩
theorem PerAt.free {w : World} {b off : Nat} {p : Per} (h : PerAt w b off p) : w.frozen? ⟨b, off + 5, none⟩ = false ∧ w.frozen? ⟨b, off + 6, none⟩ = false ∧ w.frozen? ⟨b, off + 7, none⟩ = false ∧ w.frozen? ⟨b, off + 8, none⟩ = false ∧ w.frozen? ⟨b, off + 9, none⟩ = false ∧ w.frozen? ⟨b, off + 10, none⟩ = false :=
 ⟨h.f 5 (by omega), h.f 6 (by omega), h.f 7 (by omega), h.f 8 (by omega), h.f 9 (by omega), h.f 10 (by omega)⟩
theorem PerAt.lt {w : World} {b off : Nat} {p : Per} (h : PerAt w b off p) : b < w.heap.size := by
 have := h.c 0 (by omega)
 rcases Nat.lt_or_ge b w.heap.size with h' | h'
 · exact h'
 · simp [World.cell?, Array.getElem?_eq_none h', perC] at this
theorem PerAt.below {w w' : World} {b off : Nat} {p : Per} (h : PerAt w b off p) (hb : Below w.heap.size w w') : PerAt w' b off p :=
 ⟨fun j hj => (hb.cell (p := ⟨b, off + j, none⟩) h.lt).trans (h.c j hj), fun j hj => (hb.frozen (p := ⟨b, off + j, none⟩) h.lt).trans (h.f j hj)⟩
theorem interest_any (g b off : Nat) (day bp : Int) (cr vp vq : Value) (T : Nat) (p : Per) (w : World) (hg : w.heap[g]? = some (.cells #[.int .i64 day, .int .i64 bp, cr, vp, vq] T (0, 0))) (hp : PerAt w b off p)
  (h1 : 0 ≤ day ∧ day ≤ 3652058) (h2 : 0 ≤ p.since ∧ p.since ≤ 3652058) :
  Calls Tryz.prog 84 #[.pointer (some ⟨g, 0, none⟩), .pointer (some ⟨b, off, none⟩)] w fun e w' => e = .returned (pr (interestS day bp p)) ∧ Below w.heap.size w w' := by
 obtain ⟨a0, a1, a2, a3, a4, a5⟩ := cells5U hg
 obtain ⟨c5, c6, c7, c8, c9, c10⟩ := hp.open_
 have hgl := blk_lt hg
 have hbl := hp.lt
 by_cases hd : day < p.since
 · have H : Hid (interestS day bp p = (0, 0)) := hyd (by rw [interestS, if_pos hd])
   clear hg hp a1 a2 a3 a4 c5 c6 c7 c9 c10
   go_enter Tryz.func84, Tryz.ntmps84
   go_wp2_with fail
   go_quiet (fail)
   go_wp2_with fail
   go_ret2
   exact ⟨by rw [H.out]; rfl, bly⟩
 · have hd' : p.since ≤ day := by omega
   have HS := hyd (fun wx => simple_any p.o2 bp (day - p.since) wx)
   obtain ⟨s, e0, hs⟩ : ∃ s e0, simpleS p.o2 bp (day - p.since) = (s, e0) := ⟨_, _, rfl⟩
   rw [hs] at HS
   have hsb : IntKind.i64.wrap (day - p.since) = day - p.since := IntWalk.i64_in _ (by omega)
   by_cases he : e0 = 0
   · subst he
     have H : Hid (interestS day bp p = addS p.done s) := hyd (by rw [interestS, if_neg hd, hs]; rfl)
     have HA := hyd (fun wx => add_any p.done s wx)
     clear hg hp hd a2 a3 a4 c5 c6 c10 hs
     go_enter Tryz.func84, Tryz.ntmps84
     go_wp2_with fail
     go_quiet (fail)
     go_wp2_with fail
     go_region_held3 (fun w' => w'.cell? ⟨b, off + 7, none⟩ = some (.int .i64 p.o2) ∧ w'.cell? ⟨g, 1, none⟩ = some (.int .i64 bp) ∧ w'.cell? ⟨g, 0, none⟩ = some (.int .i64 day) ∧ w'.cell? ⟨b, off + 8, none⟩ = some (.int .i64 p.since) ∧ w'.cell? ⟨b, off + 9, none⟩ = some (.int .i64 p.done))
      ((first | (with_reducible exact ⟨c7, a1, a0, c8, c9⟩) | exact ⟨c7, a1, a0, c8, c9⟩ | exact ⟨(hc1 _ _ hbl).trans c7, (hc1 _ _ hgl).trans a1, (hc1 _ _ hgl).trans a0, (hc1 _ _ hbl).trans c8, (hc1 _ _ hbl).trans c9⟩))
      ((go_at_call 137; refine (HS.out _).mono ?_; rintro e w1 ⟨rfl, hw1⟩; obtain ⟨hc1, hf1⟩ := bcell hw1; have hz1 := hw1.size; (try simp only [szA, szS, szD, size_drewN, Nat.add_one_le_iff] at hz1); (try have hy1 : w.heap.size < w1.heap.size := by omega); (try have hx1 : w.heap.size + 1 < w1.heap.size := by omega); have HW1 := hyd hw1; clear hw1))
     all_goals go_wp2_with fail
     all_goals (refine (HA.out _).mono ?_; rintro e w2 ⟨rfl, hw2⟩; obtain ⟨hc2, hf2⟩ := bcell hw2; have hz2 := hw2.size; (try simp only [szA, szS, szD, size_drewN, Nat.add_one_le_iff] at hz2); (try have hy2 : w.heap.size < w2.heap.size := by omega); (try have hx2 : w.heap.size + 1 < w2.heap.size := by omega); have HW2 := hyd hw2; clear hw2)
     all_goals go_wp2_with fail
     all_goals go_ret2
     all_goals exact ⟨by rw [H.out]; first | done | rfl, bly⟩
   · have H : Hid (interestS day bp p = (0, e0)) := hyd (by rw [interestS, if_neg hd, hs]; simp [he])
     have he' : (e0 != 0) = true := by simpa using he
     clear hg hp hd a2 a3 a4 c5 c6 c10 hs he
     go_enter Tryz.func84, Tryz.ntmps84
     go_wp2_with fail
     go_quiet (fail)
     go_wp2_with fail
     go_region_held3 (fun w' => w'.cell? ⟨b, off + 7, none⟩ = some (.int .i64 p.o2) ∧ w'.cell? ⟨g, 1, none⟩ = some (.int .i64 bp) ∧ w'.cell? ⟨g, 0, none⟩ = some (.int .i64 day) ∧ w'.cell? ⟨b, off + 8, none⟩ = some (.int .i64 p.since) ∧ w'.cell? ⟨b, off + 9, none⟩ = some (.int .i64 p.done))
      ((first | (with_reducible exact ⟨c7, a1, a0, c8, c9⟩) | exact ⟨c7, a1, a0, c8, c9⟩ | exact ⟨(hc1 _ _ hbl).trans c7, (hc1 _ _ hgl).trans a1, (hc1 _ _ hgl).trans a0, (hc1 _ _ hbl).trans c8, (hc1 _ _ hbl).trans c9⟩))
      ((go_at_call 137; refine (HS.out _).mono ?_; rintro e w1 ⟨rfl, hw1⟩; obtain ⟨hc1, hf1⟩ := bcell hw1; have hz1 := hw1.size; (try simp only [szA, szS, szD, size_drewN, Nat.add_one_le_iff] at hz1); (try have hy1 : w.heap.size < w1.heap.size := by omega); (try have hx1 : w.heap.size + 1 < w1.heap.size := by omega); have HW1 := hyd hw1; clear hw1))
     all_goals go_wp2_with fail
     go_ret2
     exact ⟨by rw [H.out]; rfl, bly⟩
structure Puts (w : World) (b : Nat) (us : List (Nat × Value)) (w' : World) : Prop where
 os : w'.os = w.os
 tape : w'.tape = w.tape
 output : w'.output = w.output
 size : w.heap.size ≤ w'.heap.size
 far : ∀ k, k < w.heap.size → k ≠ b → w'.heap[k]? = w.heap[k]?
 near : ∀ cs t fr, w.heap[b]? = some (.cells cs t fr) → w'.heap[b]? = some (.cells (us.foldl (fun a u => a.setIfInBounds u.1 u.2) cs) t fr)
theorem Puts.start {w w' : World} {b : Nat} (hb : Below w.heap.size w w') : Puts w b [] w' :=
 ⟨hb.os, hb.tape, hb.output, hb.size, fun k hk _ => hb.block k hk, fun cs t fr h => (hb.block b (blk_lt h)).trans h⟩
theorem Puts.set {w w' : World} {b : Nat} {us : List (Nat × Value)} (h : Puts w b us w') (i : Nat) (u : Value) : Puts w b (us ++ [(i, u)]) (w'.setCell ⟨b, i, none⟩ u) :=
 ⟨h.os, h.tape, h.output, by simpa [World.setCell] using h.size, fun k hk hne => (Below.heap_setCell w' ⟨b, i, none⟩ u k hne).trans (h.far k hk hne), fun cs t fr hc => by rw [List.foldl_append]; exact blk_set (h.near cs t fr hc) i u⟩
theorem Puts.drew {w w' : World} {b : Nat} {us : List (Nat × Value)} (h : Puts w b us w') : Puts w b us w'.drew := ⟨h.os, h.tape, h.output, h.size, h.far, h.near⟩
theorem Puts.below {w w' w'' : World} {b : Nat} {us : List (Nat × Value)} (h : Puts w b us w') (hb : Below w'.heap.size w' w'') : Puts w b us w'' :=
 ⟨hb.os.trans h.os, hb.tape.trans h.tape, hb.output.trans h.output, Nat.le_trans h.size hb.size, fun k hk hne => (hb.block k (Nat.lt_of_lt_of_le hk h.size)).trans (h.far k hk hne), fun cs t fr hc => (hb.block b (blk_lt (h.near cs t fr hc))).trans (h.near cs t fr hc)⟩
theorem Puts.after {w w1 w' : World} {b : Nat} {us : List (Nat × Value)} (hb : Below w.heap.size w w1) (h : Puts w1 b us w') : Puts w b us w' :=
 ⟨h.os.trans hb.os, h.tape.trans hb.tape, h.output.trans hb.output, Nat.le_trans hb.size h.size, fun k hk hne => (h.far k (Nat.lt_of_lt_of_le hk hb.size) hne).trans (hb.block k hk), fun cs t fr hc => h.near cs t fr ((hb.block b (blk_lt hc)).trans hc)⟩
theorem Puts.toBelow {w w' : World} {b B : Nat} {us : List (Nat × Value)} (h : Puts w b us w') (hB : B ≤ b) (hw : B ≤ w.heap.size) : Below B w w' :=
 ⟨h.os, h.tape, h.output, h.size, fun k hk => h.far k (by omega) (by omega)⟩
theorem setIB_list (l : List Value) : ∀ (us : List (Nat × Value)) (cs : Array Value), cs.toList.take l.length = l → ((us.foldl (fun a u => a.setIfInBounds u.1 u.2) cs)).toList.take l.length = us.foldl (fun a u => a.set u.1 u.2) l := by
 intro us
 induction us generalizing l with
 | nil => intro cs h; exact h
 | cons u us ih =>
   intro cs h
   rw [List.foldl_cons, List.foldl_cons]
   have := ih (l.set u.1 u.2) (cs.setIfInBounds u.1 u.2) (by rw [Array.toList_setIfInBounds, List.length_set, List.take_set, h])
   rw [List.length_set] at this
   exact this
theorem foldl_size (us : List (Nat × Value)) (cs : Array Value) : (us.foldl (fun a u => a.setIfInBounds u.1 u.2) cs).size = cs.size := by
 induction us generalizing cs with
 | nil => rfl
 | cons u us ih => rw [List.foldl_cons, ih]; simp
theorem foldl_len (us : List (Nat × Value)) (l : List Value) : (us.foldl (fun a u => a.set u.1 u.2) l).length = l.length := by
 induction us generalizing l with
 | nil => rfl
 | cons u us ih => rw [List.foldl_cons, ih]; simp
theorem own_puts {w w' : World} {base g cap n s : Nat} {e : TypeId} {xs : List Value} {us : List (Nat × Value)} (h : w.ownsRow base e s (.slice (some ⟨g, 0, none⟩) n cap) n xs) (hp : Puts w g us w') :
  w'.ownsRow base e s (.slice (some ⟨g, 0, none⟩) n cap) n (us.foldl (fun a u => a.set u.1 u.2) xs) := by
 refine ⟨by rw [foldl_len]; exact h.1, ?_⟩
 rcases h.2 with ⟨h1, _⟩ | ⟨g', cap', cur, h1, h2, h3, h4, h5, h6, h7⟩
 · cases h1
 · injection h1 with h1 _ h8; injection h1 with h1; injection h1 with h1 _ _; subst h1; subst h8
   refine .inr ⟨g, cap, _, rfl, h2, hp.near _ _ _ h3, h4, h5, by rw [foldl_size]; exact h6, ?_⟩
   have := setIB_list xs us cur (by rw [h.1]; exact h7)
   rwa [h.1] at this
theorem own_apart {w w' : World} {base n s b : Nat} {e : TypeId} {v : Value} {xs : List Value} {us : List (Nat × Value)} (h : w.ownsRow base e s v n xs) (hp : Puts w b us w') (hb : v.ownBlock ≠ some b) : w'.ownsRow base e s v n xs := by
 refine ⟨h.1, ?_⟩
 rcases h.2 with h2 | ⟨g, cap, cur, rfl, hb2, hg, r⟩
 · exact .inl h2
 · exact .inr ⟨g, cap, cur, rfl, hb2, (hp.far g (blk_lt hg) (fun e => hb (by rw [← e]; rfl))).trans hg, r⟩
theorem OwnV.puts {w w' : World} {B g gp cap : Nat} {S : Ac} {vq : Value} {qs : List PmE} {us : List (Nat × Value)} {ps : List Per} (h : OwnV w B g S (.slice (some ⟨gp, 0, none⟩) S.ps.length cap) vq qs) (hn : 0 < S.ps.length) (hp : Puts w gp us w')
  (hl : ps.length = S.ps.length) (hu : us.foldl (fun a u => a.set u.1 u.2) (perCs S.ps) = perCs ps) : OwnV w' B g { S with ps := ps } (.slice (some ⟨gp, 0, none⟩) S.ps.length cap) vq qs := by
 obtain ⟨b1, cs, hcs⟩ := own_block_type h.hp (b := gp) rfl
 refine ⟨(hp.far g (blk_lt h.hg) (ne_of_type' h.hg hcs (by decide))).trans h.hg, h.hB, by rw [hl, ← hu]; exact own_puts h.hp hp, own_apart h.hq hp (fun e => ?_), h.hm, fun q hq => (h.parts q hq).keep fun b cs' hb => hp.far b (blk_lt hb) (ne_of_type' hb hcs (by decide))⟩
 obtain ⟨_, cs', hcs'⟩ := own_block_type h.hq e
 exact ne_of_type' hcs' hcs (by decide) rfl
theorem PartsAt.puts3 {w w' : World} {v : Value} {l : List Dq} {b : Nat} {us : List (Nat × Value)} {cs : Array Value} {t : Nat} {fr : Nat × Nat} (h : PartsAt w v l) (hp : Puts w b us w') (hb : w.heap[b]? = some (.cells cs t fr)) (ht : t ≠ 58) : PartsAt w' v l :=
 h.keep fun b' cs' hb' => hp.far b' (blk_lt hb') (ne_of_type' hb' hb (fun e => ht e.symm))
theorem cells4G {w : World} {v0 v1 v2 v3 : Value} {t g : Nat} (h : w.heap[g]? = some (.cells #[v0, v1, v2, v3] t (0, 0))) : w.cell? ⟨g, 0, none⟩ = some v0 ∧ w.cell? ⟨g, 1, none⟩ = some v1 ∧ w.cell? ⟨g, 2, none⟩ = some v2 ∧ w.cell? ⟨g, 3, none⟩ = some v3 ∧ ∀ i, w.frozen? ⟨g, i, none⟩ = false := by
 simp [World.cell?, World.frozen?, h]
theorem per_put {ps : List Per} {i j : Nat} (h : i < ps.length) (hj : j < 11) {u : Value} {y : Per} (hy : (perC ps[i]).set j u = perC y) : (perCs ps).set (i * 11 + j) u = perCs (ps.set i y) := flat_set perC_len h hj hy
def settleS (day bp : Int) (p : Per) : Int × Int × Per :=
 if (interestS day bp p).2 ≠ 0 then ((interestS day bp p).2, 0, p) else
 if (addS p.o1 ((interestS day bp p).1 - p.acc)).2 ≠ 0 then (2, 0, p) else
 (0, (interestS day bp p).1 - p.acc, { p with o1 := (addS p.o1 ((interestS day bp p).1 - p.acc)).1, acc := (interestS day bp p).1 })
def SettleOf (w : World) (b off : Nat) (r : Int × Int × Per) (e : Ending) (w' : World) : Prop :=
 (r.1 ≠ 0 ∧ e = pan r.1 ∧ Below w.heap.size w w') ∨ (r.1 = 0 ∧ e = .returned (.int .i64 r.2.1) ∧ Puts w b [(off + 6, .int .i64 r.2.2.o1), (off + 10, .int .i64 r.2.2.acc)] w')
theorem add_enter (a b : Int) (w : World) : (callFunc 43 #[.int .i64 a, .int .i64 b]).run Tryz.prog w = .ok (.enter 43 #[.int .i64 a, .int .i64 b]) w := by kernel_rfl
theorem settle_any (g b off : Nat) (day bp : Int) (cr vp vq : Value) (T : Nat) (p : Per) (w : World) (hg : w.heap[g]? = some (.cells #[.int .i64 day, .int .i64 bp, cr, vp, vq] T (0, 0))) (hp : PerAt w b off p)
  (h1 : 0 ≤ day ∧ day ≤ 3652058) (h2 : 0 ≤ p.since ∧ p.since ≤ 3652058) (h3 : -9223372036854775808 ≤ (interestS day bp p).1 - p.acc ∧ (interestS day bp p).1 - p.acc ≤ 9223372036854775807) :
  Calls Tryz.prog 39 #[.pointer (some ⟨g, 0, none⟩), .pointer (some ⟨b, off, none⟩)] w (SettleOf w b off (settleS day bp p)) := by
 have HI := hyd (interest_any g b off day bp cr vp vq T p w hg hp h1 h2)
 have hbl := hp.lt
 have hsb := IntWalk.i64_in _ h3
 clear hg h1 h2 h3
 obtain ⟨n, e0, hi⟩ : ∃ n e0, interestS day bp p = (n, e0) := ⟨_, _, rfl⟩
 rw [hi] at HI hsb
 by_cases he : e0 = 0
 · subst he
   obtain ⟨o, e1, ha⟩ : ∃ o e1, addS p.o1 (n - p.acc) = (o, e1) := ⟨_, _, rfl⟩
   obtain ⟨c5, c6, c7, c8, c9, c10⟩ := hp.open_
   obtain ⟨f5, f6, f7, f8, f9, f10⟩ := hp.free
   simp only at hsb
   by_cases he1 : e1 = 0
   · subst he1
     have H : Hid (settleS day bp p = (0, n - p.acc, { p with o1 := o, acc := n })) := hyd (by simp [settleS, hi, ha])
     have HA := hyd (fun wx => uadd_yes p.o1 (n - p.acc) wx (by rw [ha]))
     rw [ha] at HA
     have HPA := hyd hp
     clear hi ha hp c5 c7 c8 c9 f5 f7 f8 f9
     go_enter Tryz.func39, Tryz.ntmps39
     go_wp2_with fail
     refine HI.out.mono ?_; rintro e w1 ⟨rfl, hw1⟩; have HP1 : Hid (PerAt w1.drew b off p) := hyd ((HPA.out.below hw1).below (Below.refl _ _).drew); obtain ⟨hc1, hf1⟩ := bcell hw1; have hz1 := hw1.size; (try simp only [szA, szS, szD, size_drewN, Nat.add_one_le_iff] at hz1); (try have hy1 : w.heap.size < w1.heap.size := by omega); (try have hx1 : w.heap.size + 1 < w1.heap.size := by omega); have HW1 := hyd hw1; clear hw1
     go_wp2_with fail
     go_region_law (refine step_call2R rfl 43 (.tmp 30) (.tmp 31) 2 2 rfl (.int .i64 p.o1) (.int .i64 (n - p.acc)) rfl rfl (add_enter _ _) ?_
                    refine (HA.out _).mono ?_; rintro e w2 ⟨rfl, hw2⟩; refine ⟨_, rfl, ?_⟩
                    have hp2 := HP1.out.below hw2
                    have k6 : w2.cell? ⟨b, off + 5 + 1, none⟩ = some (.int .i64 p.o1) := hp2.c 6 (by omega)
                    have k10 : w2.cell? ⟨b, off + 10, none⟩ = some (.int .i64 p.acc) := hp2.c 10 (by omega)
                    have g6 : w2.frozen? ⟨b, off + 5 + 1, none⟩ = false := hp2.f 6 (by omega)
                    have g10 : w2.frozen? ⟨b, off + 10, none⟩ = false := hp2.f 10 (by omega)
                    have HW2 := hyd hw2; clear hw2 hp2)
     all_goals go_wp2_with fail
     all_goals go_ret
     all_goals exact .inr ⟨by rw [H.out], by rw [H.out]; rfl, by rw [H.out]; exact ((Puts.start (HW1.out.drew.trans (HW2.out.mono HW1.out.size))).set (off + 6) _).set (off + 10) _⟩
   · have H : Hid (settleS day bp p = (2, 0, p)) := hyd (by simp [settleS, hi, ha, he1])
     have HA := hyd (fun wx => uadd_no p.o1 (n - p.acc) wx (by rw [ha]; exact he1))
     clear hi ha hp c5 c7 c8 c9 f5 f7 f8 f9
     go_enter Tryz.func39, Tryz.ntmps39
     go_wp2_with fail
     refine HI.out.mono ?_; rintro e w1 ⟨rfl, hw1⟩; obtain ⟨hc1, hf1⟩ := bcell hw1; have hz1 := hw1.size; (try simp only [szA, szS, szD, size_drewN, Nat.add_one_le_iff] at hz1); (try have hy1 : w.heap.size < w1.heap.size := by omega); (try have hx1 : w.heap.size + 1 < w1.heap.size := by omega); have HW1 := hyd hw1; clear hw1
     go_wp2_with fail
     have HB1 := hyd (fun (w2 : World) (h : Below w1.drew.heap.size w1.drew w2) => ((HW1.out.drew.trans (h.mono HW1.out.size)) : Below w.heap.size w w2))
     go_region_law (refine step_call2P rfl 43 (.tmp 30) (.tmp 31) 2 2 rfl (.int .i64 p.o1) (.int .i64 (n - p.acc)) rfl rfl (add_enter _ _) ((HA.out _).mono ?_) ?_
                    · rintro e w2 ⟨rfl, hw2⟩; exact ⟨_, rfl, rfl, .inl ⟨by rw [H.out]; exact (by decide : (2 : Int) ≠ 0), by rw [H.out], HB1.out w2 hw2⟩⟩)
     all_goals trivial
 · have H : Hid (settleS day bp p = (e0, 0, p)) := hyd (by simp [settleS, hi, he])
   have he' : (e0 != 0) = true := by simpa using he
   have HE := hyd he
   clear hi hp he
   go_enter Tryz.func39, Tryz.ntmps39
   go_wp2_with fail
   refine HI.out.mono ?_; rintro e w1 ⟨rfl, hw1⟩; obtain ⟨hc1, hf1⟩ := bcell hw1; have hz1 := hw1.size; (try simp only [szA, szS, szD, size_drewN, Nat.add_one_le_iff] at hz1); (try have hy1 : w.heap.size < w1.heap.size := by omega); (try have hx1 : w.heap.size + 1 < w1.heap.size := by omega); have HW1 := hyd hw1; clear hw1
   go_wp2_with fail
   exact ⟨rfl, .inl ⟨by rw [H.out]; exact HE.out, by rw [H.out], HW1.out⟩⟩
def setU (day : Int) (p : Per) (off : Nat) (kind open_ : Int) : List (Nat × Value) :=
 if kind = 2 ∧ open_ ≠ p.o2 ∧ p.since ≤ day then [(off + 9, .int .i64 p.acc), (off + 8, .int .i64 day), (off + 7, .int .i64 open_)] else [(off + 5 + kind.toNat, .int .i64 open_)]
def Per.putO (p : Per) (kind v : Int) : Per := if kind = 0 then { p with o0 := v } else if kind = 1 then { p with o1 := v } else { p with o2 := v }
def Per.opn (p : Per) (kind : Int) : Int := if kind = 0 then p.o0 else if kind = 1 then p.o1 else p.o2
def Per.setO (day : Int) (p : Per) (kind v : Int) : Per := if kind = 2 ∧ v ≠ p.o2 ∧ p.since ≤ day then { p with o2 := v, done := p.acc, since := day } else p.putO kind v
theorem setU_puts {ps : List Per} {i : Nat} (h : i < ps.length) (day kind v : Int) (hk : kind = 0 ∨ kind = 1 ∨ kind = 2) :
  (setU day ps[i] (i * 11) kind v).foldl (fun a u => a.set u.1 u.2) (perCs ps) = perCs (ps.set i (Per.setO day ps[i] kind v)) := by
 unfold setU Per.setO
 by_cases hc : kind = 2 ∧ v ≠ (ps[i]).o2 ∧ (ps[i]).since ≤ day
 · rw [if_pos hc, if_pos hc]
   simp only [List.foldl_cons, List.foldl_nil]
   rw [per_put h (by omega) (y := { ps[i] with done := (ps[i]).acc }) rfl]
   rw [per_put (by simpa using h) (by omega) (y := { ps[i] with done := (ps[i]).acc, since := day }) (by simp [perC]), List.set_set]
   rw [per_put (by simpa using h) (by omega) (y := { ps[i] with done := (ps[i]).acc, since := day, o2 := v }) (by simp [perC]), List.set_set]
 · rw [if_neg hc, if_neg hc]
   simp only [List.foldl_cons, List.foldl_nil]
   rcases hk with rfl | rfl | rfl
   · exact per_put (j := 5) h (by omega) (u := .int .i64 v) (y := { ps[i] with o0 := v }) rfl
   · exact per_put (j := 6) h (by omega) (u := .int .i64 v) (y := { ps[i] with o1 := v }) rfl
   · exact per_put (j := 7) h (by omega) (u := .int .i64 v) (y := { ps[i] with o2 := v }) rfl
theorem set_any (g b off : Nat) (day bp kind open_ : Int) (cr vp vq : Value) (T : Nat) (p : Per) (w : World) (hg : w.heap[g]? = some (.cells #[.int .i64 day, .int .i64 bp, cr, vp, vq] T (0, 0))) (hp : PerAt w b off p) (hgb : g ≠ b)
  (h1 : 0 ≤ day ∧ day ≤ 3652058) (h2 : 0 ≤ p.since ∧ p.since ≤ 3652058) (hk : kind = 0 ∨ kind = 1 ∨ kind = 2) (hi : kind = 2 → p.since ≤ day → interestS day bp p = (p.acc, 0)) :
  Calls Tryz.prog 116 #[.pointer (some ⟨g, 0, none⟩), .pointer (some ⟨b, off, none⟩), .int .i64 kind, .int .i64 open_] w fun e w' => (∃ x, e = .returned x) ∧ Puts w b (setU day p off kind open_) w' := by
 obtain ⟨a0, a1, a2, a3, a4, a5⟩ := cells5U hg
 obtain ⟨c5, c6, c7, c8, c9, c10⟩ := hp.open_
 obtain ⟨f5, f6, f7, f8, f9, f10⟩ := hp.free
 have hgl := blk_lt hg
 have hbl := hp.lt
 rcases hk with rfl | rfl | rfl
 · have H : Hid (setU day p off 0 open_ = [(off + 5, .int .i64 open_)]) := hyd rfl
   clear hg hp hi a1 a2 a3 a4
   go_enter Tryz.func116, Tryz.ntmps116
   go_wp2_with fail
   go_quiet (fail)
   go_wp2_with fail
   all_goals go_end0
   all_goals exact ⟨⟨_, rfl⟩, by rw [H.out]; exact (Puts.start (below_drewN (Below.refl _ _) _)).set (off + 5) _⟩
 · have H : Hid (setU day p off 1 open_ = [(off + 6, .int .i64 open_)]) := hyd rfl
   clear hg hp hi a1 a2 a3 a4
   go_enter Tryz.func116, Tryz.ntmps116
   go_wp2_with fail
   go_quiet (fail)
   go_wp2_with fail
   all_goals go_end0
   all_goals exact ⟨⟨_, rfl⟩, by rw [H.out]; exact (Puts.start (below_drewN (Below.refl _ _) _)).set (off + 6) _⟩
 · by_cases ho : open_ = p.o2
   · subst ho
     have H : Hid (setU day p off 2 p.o2 = [(off + 7, .int .i64 p.o2)]) := hyd (by simp [setU])
     clear hg hp hi a1 a2 a3 a4
     go_enter Tryz.func116, Tryz.ntmps116
     go_wp2_with fail
     go_quiet (fail)
     go_wp2_with fail
     all_goals go_end0
     all_goals exact ⟨⟨_, rfl⟩, by rw [H.out]; exact (Puts.start (below_drewN (Below.refl _ _) _)).set (off + 7) _⟩
   · have hne : (open_ != p.o2) = true := by simpa using ho
     by_cases hd : p.since ≤ day
     · have H : Hid (setU day p off 2 open_ = [(off + 9, .int .i64 p.acc), (off + 8, .int .i64 day), (off + 7, .int .i64 open_)]) := hyd (by simp [setU, ho, hd])
       have HI := hyd (fun wx (hb : Below w.heap.size w wx) => interest_any g b off day bp cr vp vq T p wx (blk_below hg hb hgl) (hp.below hb) h1 h2)
       rw [hi rfl hd] at HI
       have HPA := hyd hp
       have HGG := hyd hg
       clear hg hp hi a1 a2 a3 a4 ho
       go_enter Tryz.func116, Tryz.ntmps116
       go_wp2_with fail
       go_quiet (fail)
       go_wp2_with fail
       refine (HI.out _ (below_drewN (Below.refl _ _) _)).mono ?_; rintro e w1 ⟨rfl, hw1⟩
       have hb1 : Below w.heap.size w w1 := (below_drewN (Below.refl _ _) _ : Below w.heap.size w _).trans hw1
       have hp1 := HPA.out.below hb1
       obtain ⟨-, -, x7, x8, x9, -⟩ := hp1.open_
       obtain ⟨-, -, y7, y8, y9, -⟩ := hp1.free
       have z0 := (cells5U (blk_below HGG.out hb1 hgl)).1
       have zg := blk_lt (blk_below HGG.out hb1 hgl)
       have zb := hp1.lt
       have HB1 := hyd hb1
       clear hb1 hw1 hp1
       go_wp2_with fail
       all_goals go_end0
       all_goals exact ⟨⟨_, rfl⟩, by rw [H.out]; first | exact (((Puts.start HB1.out).set (off + 9) _).set (off + 8) _).set (off + 7) _ | exact (((Puts.start HB1.out).set (off + 9) _).set (off + 8) _).set (off + 7) _⟩
     · have hd' : day < p.since := by omega
       have hdd : decide (day ≥ p.since) = false := by simp; omega
       have H : Hid (setU day p off 2 open_ = [(off + 7, .int .i64 open_)]) := hyd (by simp [setU, hd])
       clear hg hp hi a1 a2 a3 a4 ho hd
       go_enter Tryz.func116, Tryz.ntmps116
       go_wp2_with fail
       go_quiet (fail)
       go_wp2_with fail
       all_goals go_end0
       all_goals exact ⟨⟨_, rfl⟩, by rw [H.out]; exact (Puts.start (below_drewN (Below.refl _ _) _)).set (off + 7) _⟩
structure PutV (w : World) (B gb : Nat) (l : List Nat) (v : Value) : Prop where
 hg : w.heap[gb]? = some (.cells #[v] 66 (0, 0))
 hB : B ≤ gb
 row : w.ownsRow B 5 1 v l.length (bys l)
def PutAt (w : World) (B gb : Nat) (l : List Nat) : Prop := ∃ v, PutV w B gb l v
structure Kept (w : World) (B : Nat) (w' : World) : Prop where
 bel : Below B w w'
 keep : ∀ (k : Nat) (cs : Array Value) (t : TypeId) (fr : Nat × Nat), w.heap[k]? = some (.cells cs t fr) → t ≠ 66 → t ≠ 5 → w'.heap[k]? = some (.cells cs t fr)
theorem Kept.refl (w : World) (B : Nat) : Kept w B w := ⟨Below.refl _ _, fun _ _ _ _ h _ _ => h⟩
theorem Kept.trans {w w1 w2 : World} {B : Nat} (h : Kept w B w1) (k : Kept w1 B w2) : Kept w B w2 :=
 ⟨h.bel.trans k.bel, fun i cs t fr hi h1 h2 => k.keep i cs t fr (h.keep i cs t fr hi h1 h2) h1 h2⟩
theorem Kept.below {w w1 : World} {B : Nat} (h : Below w.heap.size w w1) (hB : B ≤ w.heap.size) : Kept w B w1 :=
 ⟨h.mono hB, fun i cs t fr hi _ _ => blk_below hi h (blk_lt hi)⟩
theorem Kept.drew {w w1 : World} {B : Nat} (h : Kept w B w1) : Kept w B w1.drew := ⟨h.bel.drew, h.keep⟩
theorem PutV.below {w w' : World} {B gb : Nat} {l : List Nat} {v : Value} (h : PutV w B gb l v) (hb : Below w.heap.size w w') : PutV w' B gb l v :=
 ⟨blk_below h.hg hb (blk_lt h.hg), h.hB, own_below h.row hb⟩
theorem PutAt.below {w w' : World} {B gb : Nat} {l : List Nat} (h : PutAt w B gb l) (hb : Below w.heap.size w w') : PutAt w' B gb l := let ⟨v, h⟩ := h; ⟨v, h.below hb⟩
theorem put_end {w w2 w5 : World} {B gb : Nat} {l m : List Nat} {v v5 : Value} (h : PutV w B gb l v) (hb : Below w.heap.size w w2) (hB : B ≤ w.heap.size) (hg : w2.grownBy w5 v.ownBlock)
  (hO : w5.ownsRow B 5 1 v5 (l.length + m.length) (bys l ++ bys m)) : PutAt (w5.setCell ⟨gb, 0, none⟩ v5) B gb (l ++ m) ∧ Kept w B (w5.setCell ⟨gb, 0, none⟩ v5) := by
 have h2 := h.below hb
 have keep : ∀ {k : Nat} {cs : Array Value} {t : TypeId} {fr : Nat × Nat}, w2.heap[k]? = some (.cells cs t fr) → t ≠ 5 → w5.heap[k]? = some (.cells cs t fr) := fun {k cs t fr} hk ht =>
  (hg.block k (blk_lt hk) (fun e2 => by obtain ⟨_, cs', hcs⟩ := own_block_type h2.row e2.symm; exact ne_of_type' hk hcs ht rfl)).trans hk
 have hg5 := keep h2.hg (by decide)
 have p : Puts w5 gb [(0, v5)] (w5.setCell ⟨gb, 0, none⟩ v5) := (Puts.start (Below.refl _ _)).set 0 v5
 refine ⟨⟨v5, p.near _ _ _ hg5, h.hB, ?_⟩, ⟨(((hb.mono hB).grown hg (Nat.le_trans hB hb.size) (fun k hk => (own_block_type h2.row hk).1)).setCell h.hB _), fun k cs t fr hk h1 h3 => ?_⟩⟩
 · rw [List.length_append, bys_app]
   exact own_far hO (fun e => by obtain ⟨_, cs, hcs⟩ := own_block_type hO e; exact ne_of_type' hg5 hcs (by decide) rfl) v5
 · have hk2 := blk_below hk hb (blk_lt hk)
   have hk5 := keep hk2 h3
   exact (p.far k (blk_lt hk5) (ne_of_type' hk5 hg5 h1)).trans hk5
theorem put_far {w w5 : World} {B gb : Nat} {l : List Nat} {v : Value} (h : PutV w B gb l v) (hg : w.grownBy w5 v.ownBlock) : w5.heap[gb]? = some (.cells #[v] 66 (0, 0)) :=
 (hg.block gb (blk_lt h.hg) (fun e2 => by obtain ⟨_, cs', hcs⟩ := own_block_type h.row e2.symm; exact ne_of_type' h.hg hcs (by decide) rfl)).trans h.hg
structure Nums (w : World) (b off : Nat) (xs : List Int) : Prop where
 blk : ∃ cs t fr, w.heap[b]? = some (.cells cs t fr) ∧ t ≠ 66 ∧ t ≠ 5
 at_ : ∀ j (hj : j < xs.length), w.cell? ⟨b, off + j, none⟩ = some (.int .i64 xs[j])
theorem Nums.kept {w w' : World} {B b off : Nat} {xs : List Int} (h : Nums w b off xs) (hk : Kept w B w') : Nums w' b off xs := by
 obtain ⟨⟨cs, t, fr, h1, h2, h3⟩, h4⟩ := h
 have h5 := hk.keep _ _ _ _ h1 h2 h3
 exact ⟨⟨cs, t, fr, h5, h2, h3⟩, fun j hj => by rw [← h4 j hj, World.cell?, World.cell?]; simp only [h5, h1]⟩
theorem number_enter (a : Int) (w : World) : (callFunc 62 #[.int .u64 a]).run Tryz.prog w = .ok (.enter 62 #[.int .u64 a]) w := by kernel_rfl
theorem bys_one {l : List Nat} : ∀ u ∈ bys l, u.oneCell' = true := by
 intro u hu
 obtain ⟨x, _, rfl⟩ := List.mem_map.1 hu
 rfl
theorem put_any (B gb b off c : Nat) (l : List Nat) (xs : List Int) (n : Nat) (w : World) (hn : xs.length = n) (h : PutAt w B gb l) (hx : Nums w b off xs) (hB : B ≤ w.heap.size) (hm : l.length + n * 10 ≤ 10000000) (hok : ∀ x ∈ xs, okN x) :
  Calls Tryz.prog 61 #[.slice (some ⟨b, off, none⟩) n c, .pointer (some ⟨gb, 0, none⟩)] w fun e w' => (∃ x, e = .returned x) ∧ PutAt w' B gb (l ++ numsB xs) ∧ Kept w B w' := by
 obtain ⟨i0, hi, hz0, hz1, hz2⟩ := info_parts info_u8
 have HI := hyd hi; have HN := hyd hn; have HX := hyd hx; have HOK := hyd hok; have HP := hyd h
 clear hi hn hx hok h
 go_enter Tryz.func61, Tryz.ntmps61
 go_wp2_with fail
 go_loopg [7] n (fun gh v7 wr => ∃ k : Nat, gh = n - k ∧ k ≤ n ∧ v7 = .int .i64 k ∧ PutAt wr B gb (l ++ numsB (xs.take k)) ∧ Kept w B wr)
 case atStart => exact ⟨0, rfl, by omega, rfl, by simpa [numsB] using HP.out, Kept.refl _ _⟩
 case round =>
  obtain ⟨k, hgk, hk, rfl, ⟨v, hv⟩, hkp⟩ := hrel
  have HG := hyd hgk; have HV := hyd hv; have HK := hyd hkp
  by_cases hlt : k < n
  · have hkl : k < xs.length := by have := HN.out; omega
    have hxk := (HX.out.kept hkp).at_ k hkl
    have hb1 := HK.out.bel.size
    obtain ⟨⟨_, _, _, hbb, _, _⟩, _⟩ := HX.out.kept hkp
    have hbl := blk_lt hbb
    have hox := HOK.out _ (List.getElem_mem hkl)
    obtain ⟨m, hmx, hm64⟩ : ∃ m : Nat, xs[k] = (m : Int) ∧ m < 18446744073709551616 := ⟨xs[k].toNat, by unfold okN at hox; omega, by unfold okN at hox; omega⟩
    have HTK : Hid (numsB (xs.take (k + 1)) = numsB (xs.take k) ++ numB m) := hyd (by
     rw [List.take_succ_eq_append_getElem hkl, numsB_app, numsB_cons, hmx]; simp [numsB])
    have hll : (l ++ numsB (xs.take k)).length ≤ l.length + k * 10 := by
     have := numsB_len (l := xs.take k) (fun x hx => HOK.out x (List.mem_of_mem_take hx))
     rw [List.length_take] at this
     rw [List.length_append]; omega
    have hnl := numB_len hm64
    obtain ⟨L, hL⟩ : ∃ L, l ++ numsB (xs.take k) = L := ⟨_, rfl⟩
    rw [hL] at hv hll HV
    have HL := hyd hL
    have hwr : IntKind.u64.wrap (m : Int) = (m : Int) := IntWalk.u64_in _ (by omega)
    have HNU := hyd (fun wx => number_any m wx hm64)
    rw [hmx] at hxk
    obtain ⟨vc0, vc1⟩ : wr.cell? ⟨gb, 0, none⟩ = some v ∧ wr.frozen? ⟨gb, 0, none⟩ = false := ⟨(blk_cell hv.hg 0).trans rfl, blk_free hv.hg 0⟩
    have hgl := blk_lt hv.hg
    have i1 : (0 : Int) ≤ (k : Int) := by omega
    have i2 : (k : Int) < (n : Int) := by omega
    clear hgk hv hkp hbb hox hmx hm64 hkl hL
    go_wp2_with fail
    go_region_law (first
      | (refine step_call1R rfl 62 (.tmp 13) 44 rfl (.int .u64 (m : Int)) rfl (number_enter _) ?_
         refine (HNU.out _).mono ?_; rintro e w2 ⟨⟨g2, c2, rfl, hnb⟩, hb2⟩; refine ⟨_, rfl, ?_⟩
         have hb3 : Below wr.heap.size wr w2 := ((Below.refl wr.heap.size wr).drew).trans hb2
         obtain ⟨vd0, vd1⟩ : w2.cell? ⟨gb, 0, none⟩ = some v ∧ w2.frozen? ⟨gb, 0, none⟩ = false := ⟨(blk_cell (HV.out.below hb3).hg 0).trans rfl, blk_free (HV.out.below hb3).hg 0⟩
         have hgl2 : gb < w2.heap.size := Nat.lt_of_lt_of_le hgl hb3.size
         have hrd := Rd.of_own (own_mono hnb (Nat.zero_le _))
         have HRD := hyd hrd; have HB3 := hyd hb3
         clear hnb hb2 hrd hb3)
      | (refine step_app rfl (.tmp 11) (.tmp 14) 66 rfl B 5 i0 _ 1 1 Tryz.underlying66 HI.out hz0 hz1 hz2 rfl (by omega) v L.length (bys L) rfl (HV.out.below HB3.out).row _ (some ⟨g2, 0, none⟩) (numB m).length c2 (bys (numB m)) rfl HRD.out bys_one (by unfold maxLen; omega) (by omega) (by have := HB3.out.size; omega) ?_
         intro v5 w5 hO hgr hat
         have hE := put_end HV.out HB3.out (Nat.le_trans hB hb1) hgr hO
         have hgb5 := put_far (HV.out.below HB3.out) hgr
         obtain ⟨d0, d1⟩ : w5.cell? ⟨gb, 0, none⟩ = some v ∧ w5.frozen? ⟨gb, 0, none⟩ = false := ⟨(blk_cell hgb5 0).trans rfl, blk_free hgb5 0⟩
         have hgl5 := blk_lt hgb5
         obtain ⟨A5, c5, rfl, _⟩ := own_form hO
         have HE := hyd hE
         clear hO hgr hat hE hgb5))
    all_goals go_wp2_with fail
    all_goals go_roundg (n - (k + 1))
    all_goals first
     | exact ⟨k + 1, rfl, by omega, by go_num, by rw [HTK.out, ← List.append_assoc, HL.out]; exact HE.out.1, HK.out.trans HE.out.2⟩
     | (have := HG.out; omega)
  · have i2 : ¬ (k : Int) < (n : Int) := by omega
    have hkn : k = n := by omega
    subst hkn
    rw [List.take_of_length_le (by rw [HN.out]; exact Nat.le_refl _)] at HV
    clear hgk hv hkp
    go_wp2_with fail
    go_end0
    exact ⟨⟨_, rfl⟩, ⟨v, HV.out⟩, HK.out⟩
theorem numsB_take {xs : List Int} {k : Nat} (h : k < xs.length) : numsB (xs.take (k + 1)) = numsB (xs.take k) ++ numB xs[k].toNat := by
 rw [List.take_succ_eq_append_getElem h]
 unfold numsB
 rw [List.flatMap_append]
 simp
theorem numsB_take_len {xs : List Int} (hok : ∀ x ∈ xs, okN x) : ∀ k, k ≤ xs.length → (numsB (xs.take k)).length ≤ k * 10
 | 0, _ => by simp [numsB]
 | k + 1, h => by
   have ih := numsB_take_len hok k (by omega)
   have hk := hok _ (List.getElem_mem (show k < xs.length by omega))
   have := numB_len (n := xs[k].toNat) (by have := hk.2; have := hk.1; omega)
   rw [numsB_take (by omega), List.length_append]
   omega
theorem rnumbers_any (A : Option Addr) (n c : Nat) (xs : List Int) (w : World) (hl : xs.length = n) (hr : Rd w w.heap.size 1 A n (ints xs)) (hok : ∀ x ∈ xs, okN x) (hn : n ≤ 100) :
  Calls Tryz.prog 134 #[.slice A n c] w fun e w' => ∃ A' c', e = .returned (.slice A' (numsB xs).length c') ∧ w'.ownsRow w.heap.size 5 1 (.slice A' (numsB xs).length c') (numsB xs).length (bys (numsB xs)) ∧ Below w.heap.size w w' := by
 obtain ⟨i0, hi, hz0, hz1, hz2⟩ := info_parts info_u8
 have HL := hyd hl; have HR := hyd hr; have HOK := hyd hok
 have HTL := hyd (numsB_take_len hok)
 clear hl hr hok
 go_enter Tryz.func134, Tryz.ntmps134
 go_wp2_with fail
 go_loopg [3, 4] n (fun gh v3 v4 wr => ∃ k m : Nat, gh = n - k ∧ k ≤ n ∧ v4 = .int .i64 k ∧ (numsB (xs.take k)).length = m ∧ wr.ownsRow w.heap.size 5 1 v3 m (bys (numsB (xs.take k))) ∧ Below w.heap.size w wr)
 case atStart => exact ⟨0, 0, rfl, by omega, rfl, rfl, World.ownsRow_nil _ _ _ _, Below.refl _ _⟩
 case round =>
  obtain ⟨k, m, hgk, hk, rfl, hlm, hown, hbr⟩ := hrel
  have HG := hyd hgk; have HO := hyd hown; have HB := hyd hbr; have HLM := hyd hlm
  have hzr := hbr.size
  obtain ⟨A4, k4, rfl, _⟩ := own_form hown
  by_cases hlt : k < n
  · have hkx : k < xs.length := by rw [HL.out]; exact hlt
    obtain ⟨b, off, rfl, hb, cp⟩ := (HR.out.below hbr).num hkx
    have hx := HOK.out _ (List.getElem_mem hkx)
    have HST := hyd (numsB_take hkx)
    have hm10 : m ≤ k * 10 := by have := HTL.out k (by omega); omega
    generalize xs[k] = x at *
    obtain ⟨y, rfl⟩ : ∃ y : Nat, x = (y : Int) := ⟨x.toNat, by have := hx.1; omega⟩
    have hy : y < 18446744073709551616 := by have := hx.2; omega
    rw [Int.toNat_natCast] at HST
    have hyl := numB_len hy
    have HNB := hyd (rnumber_any y wr hy)
    have hb2r : b < wr.heap.size := Nat.lt_of_lt_of_le hb hzr
    have i1 : (0 : Int) ≤ (k : Int) := by omega
    have i2 : (k : Int) < (n : Int) := by omega
    have hcv : IntKind.u64.wrap (y : Int) = (y : Int) := IntWalk.u64_in _ (by omega)
    obtain ⟨ny, hny⟩ : ∃ ny, (numB y).length = ny := ⟨_, rfl⟩
    rw [hny] at HNB hyl
    have HNY := hyd hny
    clear hgk hown hbr hlm hx hny
    go_wp2_with fail
    refine HNB.out.mono ?_; rintro e w2 ⟨⟨g2, c2, rfl, ho2⟩, hb2⟩
    have HO2 := hyd (own_below HO.out hb2)
    have HRD := hyd (Rd.of_own ho2)
    have HB2 := hyd (HB.out.trans (hb2.mono hzr))
    have hzw2 : w.heap.size ≤ w2.heap.size := HB2.out.size
    have HFN : Hid (∀ (v5 : Value) (w5 : World), w5.ownsRow w.heap.size 5 1 v5 (m + ny) (bys (numsB (xs.take k)) ++ bys (numB y)) → w5.ownsRow w.heap.size 5 1 v5 (m + ny) (bys (numsB (xs.take (k + 1))))) := hyd (fun v5 w5 h => by
     rw [HST.out, bys_app]; exact h)
    have HLN : Hid ((numsB (xs.take (k + 1))).length = m + ny) := hyd (by rw [HST.out, List.length_append, HLM.out, HNY.out])
    clear ho2 hb2
    go_wp2_with (at_builtin; (refine wpList_app rfl (.tmp 11) (.tmp 17) _ rfl w.heap.size 5 i0 _ 1 1 Tryz.underlying66 hi hz0 hz1 hz2 rfl (by omega) (.slice A4 m k4) m _ rfl HO2.out w2.heap.size (some ⟨g2, 0, none⟩) ny c2 (bys (numB y)) rfl HRD.out bys_one (by unfold maxLen; omega) (by omega) hzw2 ?_; intro v5 w5 hO hgr hat; have HO5 := hyd (HFN.out v5 w5 hO); have HB5 := hyd (HB2.out.grown hgr hzw2 (fun k hk => (own_block_type HO2.out hk).1)); clear hO hgr hat))
    go_roundg (n - (k + 1))
    case measure => have := HG.out; omega
    case rel => exact ⟨k + 1, m + ny, rfl, by omega, by go_num, HLN.out, HO5.out, HB5.out⟩
  · have hkn : k = n := by omega
    subst hkn
    have he : xs.take k = xs := List.take_of_length_le (by rw [HL.out]; exact Nat.le_refl _)
    rw [he] at hlm HO
    subst hlm
    clear hgk hown hbr he
    go_wp2_with fail
    go_ret
    exact ⟨A4, k4, rfl, HO.out, HB.out⟩
theorem isDay_refJ (a : Int) (w : World) : Calls Tryz.prog 65 #[.int .i64 a] w fun e w' => e = .returned (.bool (okD a)) ∧ w = w' := by
 by_cases h : okD a = true
 · have h1 := okD_yes h
   have H := hyd h; clear h
   go_enter Tryz.func65, Tryz.ntmps65
   go_wp2
   go_ret
   exact ⟨ret_bool H.out.symm, rfl⟩
 · have h1 := okD_no h
   have H := hyd h; clear h
   rcases h1 with h1 | h1
   all_goals
    go_enter Tryz.func65, Tryz.ntmps65
    go_wp2
    all_goals go_ret
    all_goals have e := Bool.eq_false_iff.2 H.out
    all_goals exact ⟨ret_bool (by first | (rw [e]; done) | (rw [e]; simp; omega)), rfl⟩
structure RunP (w : World) (b off : Nat) (P B S D : Int) : Prop where
 c0 : w.cell? ⟨b, off, none⟩ = some (.int .i64 P)
 c1 : w.cell? ⟨b, off + 1, none⟩ = some (.int .i64 B)
 c2 : w.cell? ⟨b, off + 2, none⟩ = some (.int .i64 S)
 c3 : w.cell? ⟨b, off + 3, none⟩ = some (.int .i64 D)
 f : ∀ i, w.frozen? ⟨b, i, none⟩ = false
 lt : b < w.heap.size
theorem RunP.below {w w' : World} {b off : Nat} {P B S D : Int} (h : RunP w b off P B S D) (hb : Below w.heap.size w w') : RunP w' b off P B S D :=
 ⟨(hb.cell (p := ⟨b, off, none⟩) h.lt).trans h.c0, (hb.cell (p := ⟨b, off + 1, none⟩) h.lt).trans h.c1, (hb.cell (p := ⟨b, off + 2, none⟩) h.lt).trans h.c2, (hb.cell (p := ⟨b, off + 3, none⟩) h.lt).trans h.c3, fun i => (hb.frozen (p := ⟨b, i, none⟩) h.lt).trans (h.f i), Nat.lt_of_lt_of_le h.lt hb.size⟩
theorem keep3J {w : World} {a b c : Addr} {x y z : Value} (h1 : w.cell? a = some x) (h2 : w.cell? b = some y) (h3 : w.cell? c = some z) : w.drew.cell? a = some x ∧ w.drew.cell? b = some y ∧ w.drew.cell? c = some z := ⟨h1, h2, h3⟩
theorem at_refJ (b off : Nat) (P B S D n : Int) (w : World) (hr : RunP w b off P B S D) (hS : 0 ≤ S ∧ S ≤ 3652058) (hd : okD n = true) (hlt : ¬ n < S) (hs : (simpleS P B (n - S)).2 = 0) :
  Calls Tryz.prog 161 #[.pointer (some ⟨b, off, none⟩), .int .i64 n] w fun e w' => e = .returned (pr (addS D (simpleS P B (n - S)).1)) ∧ Below w.heap.size w w' := by
 obtain ⟨c0, c1, c2, c3, c4, hg⟩ := hr
 have HRR : Hid (RunP w b off P B S D) := hyd ⟨c0, c1, c2, c3, c4, hg⟩
 have hn := okD_yes hd
 obtain ⟨m, e0, hse⟩ : ∃ m e0, simpleS P B (n - S) = (m, e0) := ⟨_, _, rfl⟩
 rw [hse] at hs ⊢
 simp only at hs
 subst hs
 have HS := hyd hse; clear hse
 go_enter Tryz.func161, Tryz.ntmps161
 go_wp2_with fail
 refine (isDay_refJ n _).mono ?_; rintro e w' ⟨rfl, rfl⟩
 rw [hd]; clear hd
 go_wp2_with fail
 have ew : IntKind.i64.wrap (n - S) = n - S := IntWalk.i64_in _ (by omega)
 go_region_held3 (fun w' => w'.cell? ⟨b, off, none⟩ = some (.int .i64 P) ∧ w'.cell? ⟨b, off + 1, none⟩ = some (.int .i64 B) ∧ w'.cell? ⟨b, off + 2, none⟩ = some (.int .i64 S))
  ((first | (with_reducible exact keep3J c0 c1 c2) | (exact ⟨d0, d1, d2⟩)))
  ((go_at_call 192; refine (rsimple_any P B (n - S) _).mono ?_; rintro e w1 ⟨rfl, hw1⟩; obtain ⟨d0, d1, d2, d3, d4, hg1⟩ := HRR.out.below ((Below.refl _ _).drew.trans hw1); rw [HS.out]; have HW1 := hyd ((Below.refl _ _).drew.trans hw1 : Below w.heap.size w w1); clear hw1))
 clear ew
 go_wp2_with fail
 refine (radd_any D m _).mono ?_; rintro e w2 ⟨rfl, hw2⟩
 have HW2 := hyd hw2; clear hw2
 go_wp2_with fail
 go_ret2
 exact ⟨rfl, HW1.out.trans (HW2.out.mono HW1.out.size)⟩
theorem at_errJ (b off : Nat) (P B S D n : Int) (w : World) (hr : RunP w b off P B S D) (hS : 0 ≤ S ∧ S ≤ 3652058) (hd : okD n = true) (hlt : ¬ n < S) (hs : (simpleS P B (n - S)).2 ≠ 0) :
  Calls Tryz.prog 161 #[.pointer (some ⟨b, off, none⟩), .int .i64 n] w fun e w' => e = .returned (pr (0, (simpleS P B (n - S)).2)) ∧ Below w.heap.size w w' := by
 obtain ⟨c0, c1, c2, c3, c4, hg⟩ := hr
 have HRR : Hid (RunP w b off P B S D) := hyd ⟨c0, c1, c2, c3, c4, hg⟩
 have hn := okD_yes hd
 obtain ⟨m, e0, hse⟩ : ∃ m e0, simpleS P B (n - S) = (m, e0) := ⟨_, _, rfl⟩
 rw [hse] at hs ⊢
 simp only at hs
 have he' : (e0 != 0) = true := by simpa using hs
 clear hs
 have HS := hyd hse; clear hse
 go_enter Tryz.func161, Tryz.ntmps161
 go_wp2_with fail
 refine (isDay_refJ n _).mono ?_; rintro e w' ⟨rfl, rfl⟩
 rw [hd]; clear hd
 go_wp2_with fail
 have ew : IntKind.i64.wrap (n - S) = n - S := IntWalk.i64_in _ (by omega)
 go_region_held3 (fun w' => w'.cell? ⟨b, off, none⟩ = some (.int .i64 P) ∧ w'.cell? ⟨b, off + 1, none⟩ = some (.int .i64 B) ∧ w'.cell? ⟨b, off + 2, none⟩ = some (.int .i64 S))
  ((first | (with_reducible exact keep3J c0 c1 c2) | (exact ⟨d0, d1, d2⟩)))
  ((go_at_call 192; refine (rsimple_any P B (n - S) _).mono ?_; rintro e w1 ⟨rfl, hw1⟩; obtain ⟨d0, d1, d2, d3, d4, hg1⟩ := HRR.out.below ((Below.refl _ _).drew.trans hw1); rw [HS.out]; have HW1 := hyd ((Below.refl _ _).drew.trans hw1 : Below w.heap.size w w1); clear hw1))
 clear ew
 go_wp2_with fail
 go_ret2
 exact ⟨rfl, HW1.out⟩
theorem at_anyJ (b off : Nat) (P B S D n : Int) (w : World) (hr : RunP w b off P B S D) (hS : 0 ≤ S ∧ S ≤ 3652058) (hd : okD n = true) (hlt : ¬ n < S) :
  Calls Tryz.prog 161 #[.pointer (some ⟨b, off, none⟩), .int .i64 n] w fun e w' => e = .returned (pr (if (simpleS P B (n - S)).2 = 0 then addS D (simpleS P B (n - S)).1 else (0, (simpleS P B (n - S)).2))) ∧ Below w.heap.size w w' := by
 by_cases hs : (simpleS P B (n - S)).2 = 0
 · rw [if_pos hs]; exact at_refJ b off P B S D n w hr hS hd hlt hs
 · rw [if_neg hs]; exact at_errJ b off P B S D n w hr hS hd hlt hs
theorem change_refJ (b off : Nat) (P B S D p n m : Int) (w : World) (hr : RunP w b off P B S D) (hS : 0 ≤ S ∧ S ≤ 3652058) (hp : okP p = true) (hd : okD n = true) (hlt : ¬ n < S) (hs : (simpleS P B (n - S)).2 = 0) (hm : addS D (simpleS P B (n - S)).1 = (m, 0)) :
  Calls Tryz.prog 163 #[.pointer (some ⟨b, off, none⟩), .int .i64 p, .int .i64 n] w fun e w' => e = .returned (.int .i64 0) ∧ Puts w b (if p = P then [] else [(off + 3, .int .i64 m), (off + 2, .int .i64 n), (off, .int .i64 p)]) w' := by
 have HA := hyd (at_refJ b off P B S D n w hr hS hd hlt hs)
 rw [hm] at HA
 have HR := hyd hr
 clear hs hm hlt hd hS
 by_cases hP : p = P
 · subst hP
   rw [if_pos rfl]
   go_enter Tryz.func163, Tryz.ntmps163
   go_wp2_with fail
   refine (isP_ref p _).mono ?_; rintro e w' ⟨rfl, rfl⟩
   rw [hp]; clear hp
   go_wp2_with fail
   refine HA.out.mono ?_; rintro e w1 ⟨rfl, hw1⟩
   obtain ⟨d0, d1, d2, d3, d4, hg1⟩ := HR.out.below hw1
   have HW1 := hyd hw1; clear hw1 hr
   go_wp2_with fail
   go_ret
   exact ⟨rfl, Puts.start HW1.out⟩
 · rw [if_neg hP]
   have hP' : (p == P) = false := beq_eq_false_iff_ne.2 hP
   clear hP
   go_enter Tryz.func163, Tryz.ntmps163
   go_wp2_with fail
   refine (isP_ref p _).mono ?_; rintro e w' ⟨rfl, rfl⟩
   rw [hp]; clear hp
   go_wp2_with fail
   refine HA.out.mono ?_; rintro e w1 ⟨rfl, hw1⟩
   obtain ⟨d0, d1, d2, d3, d4, hg1⟩ := HR.out.below hw1
   have HW1 := hyd hw1; clear hw1 hr
   go_wp2_with fail
   go_ret
   exact ⟨rfl, (((Puts.start HW1.out).set (off + 3) _).set (off + 2) _).set off _⟩
def Per.zero : Per := ⟨⟨0, 0, 0, 0, 0⟩, 0, 0, 0, 0, 0, 0⟩
def placeP (n : Int) (ps : List Per) : Int := idxI (fun p : Per => decide (p.ret.per = n)) 0 ps
def give1 (day times : Int) (ps : List Per) (x : Dq) : Option (List Per) :=
 if (addS ((ps.getD (placeP x.per ps).toNat Per.zero).opn x.kind) (times * x.opn)).2 = 0 then
  some (ps.set (placeP x.per ps).toNat (Per.setO day (ps.getD (placeP x.per ps).toNat Per.zero) x.kind (addS ((ps.getD (placeP x.per ps).toNat Per.zero).opn x.kind) (times * x.opn)).1))
 else none
def giveS (day times : Int) : List Per → List Dq → Option (List Per)
 | ps, [] => some ps
 | ps, x :: l => match give1 day times ps x with | some ps' => giveS day times ps' l | none => none
structure GoodAt (day bp times : Int) (ps : List Per) (x : Dq) : Prop where
 i : ∃ i, i < ps.length ∧ placeP x.per ps = (i : Int)
 kind : x.kind = 0 ∨ x.kind = 1 ∨ x.kind = 2
 mul : -4611686018427387904 ≤ times * x.opn ∧ times * x.opn ≤ 4611686018427387904
 since : ∀ p ∈ ps, 0 ≤ p.since ∧ p.since ≤ 3652058
 int : ∀ p ∈ ps, p.since ≤ day → interestS day bp p = (p.acc, 0)
theorem giveS_take (day times : Int) : ∀ (l : List Dq) (ps : List Per) (k : Nat) (ps' : List Per) (h : k < l.length), giveS day times ps (l.take k) = some ps' →
  giveS day times ps (l.take (k + 1)) = give1 day times ps' l[k] ∧ (give1 day times ps' l[k] = none → giveS day times ps l = none)
 | [], _, _, _, h, _ => by simp at h
 | x :: l, ps, 0, ps', h, e => by
   simp only [List.take_zero, giveS] at e
   injection e with e; subst e
   simp only [List.take_succ_cons, List.take_zero, List.getElem_cons_zero, giveS]
   refine ⟨by cases give1 day times ps x <;> rfl, fun h => by rw [h]⟩
 | x :: l, ps, k + 1, ps', h, e => by
   simp only [List.take_succ_cons, giveS] at e ⊢
   simp only [List.getElem_cons_succ]
   cases h1 : give1 day times ps x with
   | none => rw [h1] at e; simp at e
   | some ps1 =>
     rw [h1] at e
     simp only at e ⊢
     exact giveS_take day times l ps1 k ps' (by simpa using h) e
theorem set_enter (u v : Value) (a b : Int) (w : World) : (callFunc 116 #[u, v, .int .i64 a, .int .i64 b]).run Tryz.prog w = .ok (.enter 116 #[u, v, .int .i64 a, .int .i64 b]) w := by kernel_rfl
structure Turn (w : World) (B : Nat) (v : Value) (w' : World) : Prop where
 bel : Below B w w'
 gr : w.grownBy w' v.ownBlock
theorem Turn.refl (w : World) (B : Nat) (v : Value) : Turn w B v w := ⟨Below.refl _ _, ⟨rfl, rfl, rfl, Nat.le_refl _, fun _ _ _ => rfl⟩⟩
theorem Turn.size {w w' : World} {B : Nat} {v : Value} (h : Turn w B v w') : w.heap.size ≤ w'.heap.size := h.bel.size
theorem Turn.below {w w1 w2 : World} {B : Nat} {v : Value} (h : Turn w B v w1) (hb : Below w1.heap.size w1 w2) (hB : B ≤ w1.heap.size) : Turn w B v w2 :=
 ⟨h.bel.trans (hb.mono hB), ⟨hb.os.trans h.gr.os, hb.tape.trans h.gr.tape, hb.output.trans h.gr.output, Nat.le_trans h.gr.size hb.size, fun k hk hn => (hb.block k (Nat.lt_of_lt_of_le hk h.gr.size)).trans (h.gr.block k hk hn)⟩⟩
theorem Turn.ahead {w w1 w2 : World} {B : Nat} {v : Value} (hb : Below w.heap.size w w1) (h : Turn w1 B v w2) (hB : B ≤ w.heap.size) : Turn w B v w2 :=
 ⟨(hb.mono hB).trans h.bel, ⟨h.gr.os.trans hb.os, h.gr.tape.trans hb.tape, h.gr.output.trans hb.output, Nat.le_trans hb.size h.gr.size, fun k hk hn => (h.gr.block k (Nat.lt_of_lt_of_le hk hb.size) hn).trans (hb.block k hk)⟩⟩
theorem Turn.puts {w w1 w2 : World} {B gp n cap : Nat} {us : List (Nat × Value)} (h : Turn w B (.slice (some ⟨gp, 0, none⟩) n cap) w1) (hp : Puts w1 gp us w2) (hgp : B ≤ gp) (hB : B ≤ w1.heap.size) : Turn w B (.slice (some ⟨gp, 0, none⟩) n cap) w2 :=
 ⟨h.bel.trans (hp.toBelow hgp hB), ⟨hp.os.trans h.gr.os, hp.tape.trans h.gr.tape, hp.output.trans h.gr.output, Nat.le_trans h.gr.size hp.size, fun k hk hn => (hp.far k (Nat.lt_of_lt_of_le hk h.gr.size) (fun e => hn (by rw [e]; rfl))).trans (h.gr.block k hk hn)⟩⟩
def GiveOf (w : World) (B g : Nat) (S : Ac) (vp vq v : Value) (qs : List PmE) (parts : List Dq) (r : Option (List Per)) (e : Ending) (w' : World) : Prop := Turn w B vp w' ∧
 match r with
 | some ps => (∃ x, e = .returned x) ∧ OwnV w' B g { S with ps := ps } vp vq qs ∧ PartsAt w' v parts ∧ ps.length = S.ps.length
 | none => e = pan 2
structure GiveInv (w wr : World) (B g : Nat) (S : Ac) (vp vq v : Value) (qs : List PmE) (parts : List Dq) (times : Int) (k : Nat) (ps : List Per) : Prop where
 eq : giveS S.day times S.ps (parts.take k) = some ps
 own : OwnV wr B g { S with ps := ps } vp vq qs
 pt : PartsAt wr v parts
 len : ps.length = S.ps.length
 bel : Turn w B vp wr
theorem GiveInv.step {w wr w1 w2 : World} {B g gp cap i k : Nat} {S : Ac} {vq v : Value} {qs : List PmE} {parts : List Dq} {times n : Int} {ps : List Per} (h : GiveInv w wr B g S (.slice (some ⟨gp, 0, none⟩) ps.length cap) vq v qs parts times k ps) (hk : k < parts.length)
  (hi : i < ps.length) (he : placeP (parts[k]).per ps = (i : Int)) (hkd : (parts[k]).kind = 0 ∨ (parts[k]).kind = 1 ∨ (parts[k]).kind = 2) (ha : addS ((ps[i]).opn (parts[k]).kind) (times * (parts[k]).opn) = (n, 0)) (hb : Below wr.heap.size wr w1)
  (hp : Puts w1 gp (setU S.day ps[i] (i * 11) (parts[k]).kind n) w2) (hBr : B ≤ wr.heap.size) (hgp : B ≤ gp) :
  GiveInv w w2 B g S (.slice (some ⟨gp, 0, none⟩) ps.length cap) vq v qs parts times (k + 1) (ps.set i (Per.setO S.day ps[i] (parts[k]).kind n)) := by
 have hg : ps.getD i Per.zero = ps[i] := by simp [hi]
 have hpp : Puts wr gp (setU S.day ps[i] (i * 11) (parts[k]).kind n) w2 := hp.after hb
 have h1 := giveS_take S.day times parts S.ps k ps hk h.eq
 obtain ⟨b, cs, hcs⟩ := own_block_type h.own.hp (b := gp) rfl
 refine ⟨?_, ?_, h.pt.puts3 hpp hcs (by decide), by simpa using h.len, h.bel.puts hpp hgp hBr⟩
 · rw [h1.1, give1, he, Int.toNat_natCast, hg, ha]; rfl
 · exact OwnV.puts (S := { S with ps := ps }) h.own (by show 0 < ps.length; omega) hpp (by simp) (setU_puts hi S.day _ n hkd)
end Go.Proofs.YtbjjgnaojoaoiaaGreat
