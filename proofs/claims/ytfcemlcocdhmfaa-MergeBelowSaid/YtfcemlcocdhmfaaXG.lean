/- A heap of runs in memory: container/heap's Push, Fix, Pop; what is left of each list. -/
import Derived.Test.YtfcemlcocdhmfaaHL
/- A heap of runs in memory: container/heap's Push, Pop, Fix. -/
namespace Go.Proofs.Ytfcemlcocdhmfaa
open Go.RowKit Go
set_option linter.unusedVariables false
set_option linter.unusedSimpArgs false

theorem bnewH (w : World) (o : Obj) : Below w.heap.size w (w.alloc o) := (Below.refl _ _).alloc (Nat.le_refl _) o
theorem HAt.same {w : World} {g c i : Nat} {hs : List Rn} (h : HAt w g c hs) (hi : i < hs.length) {a : Rn} (ha : hs[i] = a) :
    HAt ((((w.setCell ⟨g, i * 2, none⟩ a.lv).setCell ⟨g, i * 2 + 1, none⟩ (.int .i64 a.pl)).setCell ⟨g, i * 2, none⟩ a.lv).setCell ⟨g, i * 2 + 1, none⟩ (.int .i64 a.pl)) g c hs := by
  obtain ⟨⟨cur, h1, h2, h3⟩, h4, h5⟩ := h
  refine ⟨⟨_, blk_set (blk_set (blk_set (blk_set h1 (i * 2) _) (i * 2 + 1) _) (i * 2) _) (i * 2 + 1) _, by simp [h2], fun k hk => ?_⟩, h4, h5⟩
  have e := h3 k hk
  simp only [Array.getElem?_setIfInBounds, Array.size_setIfInBounds, h2]
  by_cases h6 : k = i
  · subst h6
    rw [ha]
    refine ⟨?_, ?_⟩
    · rw [if_neg (by omega), if_pos rfl, if_pos (by omega)]
    · rw [if_pos rfl, if_pos (by omega)]
  · refine ⟨?_, ?_⟩
    · rw [if_neg (by omega), if_neg (by omega), if_neg (by omega), if_neg (by omega)]; exact e.1
    · rw [if_neg (by omega), if_neg (by omega), if_neg (by omega), if_neg (by omega)]; exact e.2
set_option maxHeartbeats 1600000 in
theorem swap0_any (g n c m : Nat) (hs : List Rn) (a : Rn) (w : World) (h : HAt w g m hs) (hi : 0 < hs.length) (hin : 0 < n) (ha : hs[0] = a) (fa : ∃ A k c, a.lv = .slice A k c) (hn : n ≤ 1000000) :
    Calls Try.prog 68 #[.slice (some ⟨g, 0, none⟩) n c, .int .i64 0, .int .i64 0] w fun e w' => (∃ x, e = .returned x) ∧ HAt w' g m hs ∧ w.grownBy w' (some g) := by
  obtain ⟨A1, n1, m1, e1⟩ := fa
  obtain ⟨c0, c1⟩ := h.cell hi
  rw [ha] at c0 c1
  rw [e1] at c0
  have HS := Lib.hid (h.same hi ha)
  rw [e1] at HS
  have hf := fun k => h.free k
  have HG := Lib.hid (grown_set4 (w := w) (g := g) (0 * 2) (0 * 2 + 1) (0 * 2) (0 * 2 + 1) (.slice A1 n1 m1) (.int .i64 a.pl) (.slice A1 n1 m1) (.int .i64 a.pl))
  have j2 : (0 : Int) < (n : Int) := by omega
  simp only [Nat.zero_mul, Nat.zero_add] at c0 c1 HS HG
  clear h ha e1
  go_enter Try.func68, Try.ntmps68
  go_wp2_with fail
  go_region_with (fail)
  all_goals go_wp2_with fail
  all_goals go_end0
  all_goals exact ⟨⟨_, rfl⟩, HS.out.drew, grown_drew HG.out⟩
theorem HAt.pre {w : World} {g c : Nat} {hs tl : List Rn} (h : HAt w g c (hs ++ tl)) : HAt w g c hs := by
  obtain ⟨⟨cur, h1, h2, h3⟩, h4, h5⟩ := h
  rw [List.length_append] at h4
  refine ⟨⟨cur, h1, h2, fun k hk => ?_⟩, by omega, h5⟩
  have := h3 k (by rw [List.length_append]; omega)
  rwa [List.getElem_append_left hk] at this
theorem HAt.far {w : World} {g c : Nat} {hs : List Rn} (h : HAt w g c hs) {p : Addr} (hp : g ≠ p.block) (u : Value) : HAt (w.setCell p u) g c hs := by
  obtain ⟨⟨cur, h1, h2, h3⟩, h4, h5⟩ := h
  exact ⟨⟨cur, blk_far h1 hp u, h2, h3⟩, h4, h5⟩
set_option maxHeartbeats 1600000 in
theorem pop_m (B gh g c cap : Nat) (ks : List Rn) (r : Rn) (w : World) (h : HS w B gh g c cap ks [r]) (fr : ∃ A k c, r.lv = .slice A k c) (hcap : ks.length + 1 ≤ cap) :
    Calls Try.prog 66 #[.pointer (some ⟨gh, 0, none⟩)] w fun e w' => (∃ x, e = .returned x) ∧ HS w' B gh g c cap ks [] ∧ Gr2 w w' gh g := by
  obtain ⟨A1, n1, m1, e1⟩ := fr
  have hcl := h.at_.cell (k := ks.length) (by simp)
  simp only [List.getElem_append_right (Nat.le_refl _), Nat.sub_self, List.getElem_cons_zero] at hcl
  rw [e1] at hcl
  obtain ⟨c0, c1⟩ := hcl
  have hd : w.cell? ⟨gh, 0, none⟩ = some (.slice (some ⟨g, 0, none⟩) (ks.length + 1) cap) := h.hd
  have hf : w.frozen? ⟨gh, 0, none⟩ = false := blk_free h.hb 0
  have hlt := h.hlt; have hlg := h.lt; have hnm : ks.length + 1 ≤ 1000000 := h.nm
  have H := Lib.hid h
  obtain ⟨N, hN⟩ : ∃ N, ks.length = N := ⟨_, rfl⟩
  rw [hN] at c0 c1 hd hnm hcap
  have HN := Lib.hid hN
  have j1 : IntKind.i64.wrap (((N + 1 : Nat) : Int) - 1) = (N : Int) := by rw [IntWalk.i64_in _ (by omega)]; omega
  have j2 : (0 : Int) ≤ (N : Int) := by omega
  have j3 : (N : Int) < ((N + 1 : Nat) : Int) := by omega
  have j4 : (N : Int) ≤ (cap : Int) := by omega
  clear h e1 hN
  go_enter Try.func66, Try.ntmps66
  go_wp2_with fail
  go_ret
  have h := H.out
  have hne : g ≠ gh := Ne.symm h.ne
  have hat : HAt ((w.setCell ⟨gh, 0, none⟩ (.slice (some ⟨g, 0, none⟩) N cap)).alloc (.cells #[.slice A1 n1 m1, .int .i64 r.pl] 47)) g c ks := ((HAt.pre h.at_).far hne _).below (bnewH _ _)
  refine ⟨⟨_, rfl⟩, ⟨?_, by simpa using hat, h.ne, h.gB, h.hB, fun q hq => (h.rn q hq).keep fun p hp => ?_, by have := h.nm; simp at this ⊢; omega⟩, ?_⟩
  · rw [show ks.length + ([] : List Rn).length = N from by rw [HN.out]; rfl]
    exact blk_alloc ((blk_set h.hb 0 _).trans rfl) _
  · have hb := h.hB; have hbg := h.gB
    rw [World.cell?_alloc_lt _ _ _ (by rw [World.size_setCell]; omega)]
    exact World.cell?_of_block (Below.heap_setCell w ⟨gh, 0, none⟩ _ p.block (by show p.block ≠ gh; omega))
  · exact (Gr2.setCell w ⟨gh, 0, none⟩ (.inl rfl) _).trans (Gr2.of_below (bnewH _ _))
/-- A heap with its header, of any number of runs. -/
structure HT (w : World) (B gh : Nat) (hs : List Rn) : Prop where
  ex : ∃ v, Hdr w gh v ∧ w.ownsRow B 47 2 v hs.length (rnCs hs) ∧ v.ownBlock ≠ some gh
  rn : ∀ r ∈ hs, RnB w B r
  hp : Hp LessR (fn hs) hs.length
  hB : B ≤ gh
theorem HT.lt {w : World} {B gh : Nat} {hs : List Rn} (h : HT w B gh hs) : gh < w.heap.size := by obtain ⟨v, h1, _⟩ := h.ex; exact h1.lt
/-- A row of runs that is not empty: its block. -/
theorem hs_of {w : World} {B gh : Nat} {v : Value} {hs : List Rn} (h1 : Hdr w gh v) (h2 : w.ownsRow B 47 2 v hs.length (rnCs hs)) (h3 : v.ownBlock ≠ some gh) (h0 : hs ≠ []) (hB : B ≤ gh) (hr : ∀ r ∈ hs, RnB w B r) (hn : hs.length ≤ 1000000) :
    ∃ g c, v = .slice (some ⟨g, 0, none⟩) hs.length c ∧ HS w B gh g c c hs [] := by
  have h2' := h2
  rcases h2.2 with ⟨_, h4⟩ | ⟨g, cap, cur, rfl, hb, _⟩
  · exact absurd (List.eq_nil_of_length_eq_zero h4) h0
  · obtain ⟨_, _, hat⟩ := hat_of_own h2'
    exact ⟨g, cap, rfl, ⟨by simpa using h1.cell, by simpa using hat, fun e => h3 (by rw [e]; rfl), hb, hB, hr, by simpa using hn⟩⟩
theorem HS.ht {w : World} {B gh g c cap : Nat} {hs : List Rn} (h : HS w B gh g c c hs []) (hp : Hp LessR (fn hs) hs.length) : HT w B gh hs :=
  ⟨⟨_, ⟨by simpa using h.hb⟩, by have := HAt.own (hs := hs) (by simpa using h.at_) h.gB; exact this, fun e => h.ne (by injection e with e; exact e.symm)⟩, h.rn, hp, h.hB⟩
theorem hpu_snoc {hs : List Rn} {r : Rn} (hp : Hp LessR (fn hs) hs.length) : HpU (L := LessR) (fn (hs ++ [r])) (hs.length + 1) hs.length :=
  hp.push fun k hk => by unfold fn; rw [List.getElem?_append_left hk]
set_option maxHeartbeats 1600000 in
theorem hpush_any (B gh : Nat) (hs : List Rn) (r : Rn) (w : World) (h : HT w B gh hs) (hr : RnB w B r) (hn : hs.length < 1000000) :
    Calls Try.prog 21 #[.iface 42 (.pointer (some ⟨gh, 0, none⟩)), .iface 47 (.agg #[r.lv, .int .i64 r.pl])] w fun e w' => (∃ x, e = .returned x) ∧ (∃ ks, ks.Perm (hs ++ [r]) ∧ HT w' B gh ks) ∧ Below B w w' := by
  obtain ⟨v, h1, h2, h3⟩ := h.ex
  obtain ⟨Ar, nr, cr, hlv⟩ := hr.form
  have hp := push_m B gh v (rnCs hs) hs.length Ar nr cr r.pl w h1 h2 h3 h.hB (by omega)
  have e1 : rnCs hs ++ [Value.slice Ar nr cr, Value.int .i64 r.pl] = rnCs (hs ++ [r]) := by rw [rnCs_app, ← hlv]; rfl
  rw [e1] at hp
  have HP := Lib.hid hp; have H := Lib.hid h; have HR := Lib.hid hr
  have hm := method_push gh w
  rw [hlv]
  clear h1 h2 h3 hp h hr hlv e1
  go_enter Try.func21, Try.ntmps21
  go_wp2_with fail
  refine HP.out.mono ?_; rintro e w1 ⟨⟨x, rfl⟩, v1, g1, g2, g3, g4⟩
  have h := H.out; have hr := HR.out
  have hk : ∀ p : Addr, p.block < B → w1.cell? p = w.cell? p := fun p hp => g4.cell hp
  obtain ⟨g, c, rfl, hs1⟩ := hs_of (hs := hs ++ [r]) g1 (by simpa using g2) g3 (by simp) h.hB (fun q hq => by rcases List.mem_append.1 hq with hq | hq; exact (h.rn q hq).keep hk; rw [List.mem_singleton.1 hq]; exact hr.keep hk) (by simp; omega)
  have HS1 := Lib.hid hs1; have HB1 := Lib.hid g4
  have hu := hpu_snoc (r := r) h.hp
  have HU := Lib.hid hu
  have ml := method_len gh 194 hs1.hd
  simp only [List.length_append, List.length_singleton, List.length_nil, Nat.add_zero] at ml
  have hnn : hs.length < 1000000 := hn
  clear g1 g2 g3 g4 hk hs1 hu h hr hm
  obtain ⟨N, hN⟩ : ∃ N, hs.length = N := ⟨_, rfl⟩
  have HN := Lib.hid hN
  rw [hN] at ml hnn HU
  clear hN hn
  go_wp2_with fail
  refine (len_any _ _ _ _ rfl _).mono ?_; rintro e w' ⟨rfl, rfl⟩
  have j1 : IntKind.i64.wrap (((N + 1 : Nat) : Int) - 1) = (N : Int) := by rw [IntWalk.i64_in _ (by omega)]; omega
  clear ml
  go_wp2_with fail
  refine (up_any B gh g c c N (hs ++ [r]) w1 HS1.out (by simp; have := HN.out; omega) (by simpa [HN.out] using HU.out)).mono ?_
  rintro e w2 ⟨⟨x, rfl⟩, ⟨ks, k1, k2, k3⟩, k4⟩
  have HK : Hid ((∃ ks, ks.Perm (hs ++ [r]) ∧ HT w2 B gh ks) ∧ Below B w w2) := Lib.hid ⟨⟨ks, k1, HS.ht (cap := 0) k3 (by rw [k1.length_eq]; exact k2)⟩, HB1.out.grown k4 (by have := HS1.out.lt; have := HS1.out.gB; omega) (fun b e => by injection e with e; rw [← e]; exact HS1.out.gB)⟩
  clear k1 k2 k3 k4
  go_wp2_with fail
  go_end0
  exact ⟨⟨_, rfl⟩, HK.out⟩
end Go.Proofs.Ytfcemlcocdhmfaa
/- A heap of runs in memory: container/heap's Fix and Pop. -/
namespace Go.Proofs.Ytfcemlcocdhmfaa
open Go.RowKit Go
set_option linter.unusedVariables false
set_option linter.unusedSimpArgs false

set_option maxHeartbeats 1600000 in
theorem hfix_any (B gh g c : Nat) (hs : List Rn) (w : World) (h : HS w B gh g c c hs []) (hp : HpD (L := LessR) (fn hs) hs.length 0) (h0 : 0 < hs.length) :
    Calls Try.prog 26 #[.iface 42 (.pointer (some ⟨gh, 0, none⟩)), .int .i64 0] w fun e w' => (∃ x, e = .returned x) ∧ (∃ ks, ks.Perm hs ∧ Hp LessR (fn ks) hs.length ∧ HS w' B gh g c c ks []) ∧ w.grownBy w' (some g) := by
  have ml := method_len gh 194 h.hd
  have H := Lib.hid h; have HP := Lib.hid hp
  simp only [List.length_nil, Nat.add_zero] at ml
  clear h hp
  go_enter Try.func26, Try.ntmps26
  go_wp2_with fail
  refine (len_any _ _ _ _ rfl _).mono ?_; rintro e w' ⟨rfl, rfl⟩
  clear ml
  go_wp2_with fail
  refine (down_any B gh g c c hs [] w H.out HP.out).mono ?_
  rintro e w1 ⟨⟨b, rfl⟩, ⟨ks, k1, k2, k3⟩, k4⟩
  have K1 := Lib.hid k1; have K2 := Lib.hid k2; have K3 := Lib.hid k3; have K4 := Lib.hid k4
  clear k1 k2 k3 k4
  cases b with
  | true =>
    go_wp2_with fail
    go_end0
    exact ⟨⟨_, rfl⟩, ⟨ks, K1.out, K2.out, K3.out⟩, K4.out⟩
  | false =>
    go_wp2_with fail
    refine (up_any B gh g c c 0 ks w1 K3.out (by rw [K1.out.length_eq]; exact h0) (by rw [K1.out.length_eq]; exact Hp.toU K2.out)).mono ?_
    rintro e w2 ⟨⟨x, rfl⟩, ⟨ls, k1, k2, k3⟩, k4⟩
    have L1 : Hid (ls.Perm hs) := Lib.hid (k1.trans K1.out)
    have L2 : Hid (Hp LessR (fn ls) hs.length) := Lib.hid (by rw [← K1.out.length_eq]; exact k2)
    have L3 := Lib.hid k3; have L4 := Lib.hid (grown_trans K4.out k4)
    clear k1 k2 k3 k4
    go_wp2_with fail
    go_end0
    exact ⟨⟨_, rfl⟩, ⟨ls, L1.out, L2.out, L3.out⟩, L4.out⟩
theorem fn_zero {r : Rn} {rs : List Rn} : fn (r :: rs) 0 = r := rfl
/-- The last one is set at the first place, and goes. -/
theorem HS.part {w : World} {B gh g c cap : Nat} {ks tl : List Rn} (h : HS w B gh g c cap (ks ++ tl) []) : HS w B gh g c cap ks tl :=
  ⟨by have := h.hb; simpa using this, by simpa using h.at_, h.ne, h.gB, h.hB, fun r hr => h.rn r (List.mem_append_left _ hr), by have := h.nm; simpa using this⟩
theorem swap_ends {α : Type} (r l : Rn) (rs : List Rn) : swapL (r :: (rs ++ [l])) 0 (rs.length + 1) r l = (l :: rs) ++ [r] := by
  unfold swapL
  rw [List.set_cons_zero, List.set_cons_succ, List.set_append_right _ _ (Nat.le_refl _), Nat.sub_self]; rfl
set_option maxHeartbeats 1600000 in
theorem hpop_any (B gh g c : Nat) (r0 r : Rn) (rs : List Rn) (w : World) (hb : w.heap[gh]? = some (.cells #[.slice (some ⟨g, 0, none⟩) (rs.length + 1) c] 44 (0, 0))) (hat : HAt w g c (r :: rs)) (hne : gh ≠ g) (hgB : B ≤ g) (hhB : B ≤ gh)
    (hrn : ∀ q ∈ rs, RnB w B q) (fr : ∃ A k c, r.lv = .slice A k c) (hnm : rs.length + 1 ≤ 1000000) (hp : Hp LessR (fn (r0 :: rs)) (rs.length + 1)) :
    Calls Try.prog 25 #[.iface 42 (.pointer (some ⟨gh, 0, none⟩))] w fun e w' => (∃ x, e = .returned x) ∧ (∃ ks, ks.Perm rs ∧ Hp LessR (fn ks) rs.length ∧ HS w' B gh g c c ks []) ∧ Gr2 w w' gh g := by
  have hd : w.cell? ⟨gh, 0, none⟩ = some (.slice (some ⟨g, 0, none⟩) (rs.length + 1) c) := (blk_cell hb 0).trans rfl
  have ml := method_len gh 194 hd
  have ms := method_swap gh 194 hd
  have hcap : rs.length + 1 ≤ c := by have := hat.le; simpa using this
  have hgr : ∀ w' ks, w.grownBy w' (some g) → HAt w' g c (ks ++ [r]) → ks.Perm rs → HS w' B gh g c c ks [r] := fun w' ks hg ha hpm =>
    ⟨by rw [show ks.length + [r].length = rs.length + 1 by rw [hpm.length_eq]; rfl]; exact (hg.block gh (blk_lt hb) (by intro e; injection e with e; exact hne e)).trans hb, ha, hne, hgB, hhB,
      fun q hq => (hrn q (hpm.mem_iff.1 hq)).keep (fun p hp => grown_cell hg hgB (by have := hat.lt; omega) p hp), by rw [show ks.length + [r].length = rs.length + 1 by rw [hpm.length_eq]; rfl]; exact hnm⟩
  -- behind the swap
  have hsw : Calls Try.prog 68 #[.slice (some ⟨g, 0, none⟩) (rs.length + 1) c, .int .i64 0, .int .i64 rs.length] w fun e w' => (∃ x, e = .returned x) ∧ (∃ ks, ks.Perm rs ∧ HpD (L := LessR) (fn ks) rs.length 0 ∧ HS w' B gh g c c ks [r]) ∧ w.grownBy w' (some g) := by
    rcases List.eq_nil_or_concat rs with h0 | ⟨r1, l, h0⟩
    · subst h0
      refine (swap0_any g 1 c c [r] r w hat (by simp) (by omega) rfl fr (by omega)).mono ?_
      rintro e w' ⟨he, ha, hg⟩
      exact ⟨he, ⟨[], List.Perm.refl _, ⟨fun j _ hj => absurd hj (Nat.not_lt_zero _), fun j _ hj => absurd hj (Nat.not_lt_zero _)⟩, hgr w' [] hg ha (List.Perm.refl _)⟩, hg⟩
    · rw [List.concat_eq_append] at h0
      subst h0
      have hl : (r1 ++ [l]).length = r1.length + 1 := by simp
      rw [hl] at hnm hp ⊢
      refine (swap_any g _ c c 0 (r1.length + 1) (r :: (r1 ++ [l])) r l w hat (by simp) (by simp) (by omega) (by omega) (by omega) rfl (by simp) fr (hrn l (by simp)).form hnm).mono ?_
      rintro e w' ⟨he, ha, hg⟩
      rw [swap_ends (α := Unit)] at ha
      have hpm : (l :: r1).Perm (r1 ++ [l]) := (List.perm_append_singleton l r1).symm
      refine ⟨he, ⟨l :: r1, hpm, ?_, hgr w' _ hg ha hpm⟩, hg⟩
      refine hp.first (by omega) fun k h1 h2 => ?_
      obtain ⟨j, rfl⟩ : ∃ j, k = j + 1 := ⟨k - 1, by omega⟩
      unfold fn
      rw [List.getElem?_cons_succ, List.getElem?_cons_succ, List.getElem?_append_left (by omega)]
  have HRF := Lib.hid fr
  have HSW := Lib.hid hsw
  obtain ⟨N, hN⟩ : ∃ N, rs.length = N := ⟨_, rfl⟩
  have HN := Lib.hid hN
  rw [hN] at ml ms HSW hnm hcap ⊢
  have j1 : IntKind.i64.wrap (((N + 1 : Nat) : Int) - 1) = (N : Int) := by rw [IntWalk.i64_in _ (by omega)]; omega
  clear hsw hat hrn hgr hb hp hd hN fr
  go_enter Try.func25, Try.ntmps25
  go_wp2_with fail
  refine (len_any _ _ _ _ rfl _).mono ?_; rintro e w' ⟨rfl, rfl⟩
  clear ml
  go_wp2_with fail
  refine HSW.out.mono ?_
  rintro e w1 ⟨⟨x, rfl⟩, ⟨ks, k1, k2, k3⟩, k4⟩
  have hkl : ks.length = N := k1.length_eq.trans HN.out
  have hdn := down_any B gh g c c ks [r] w1 k3 (by rw [hkl]; exact k2)
  rw [hkl] at hdn
  have HDN := Lib.hid hdn; have K1 := Lib.hid k1; have HKL := Lib.hid hkl
  have HG1 := Lib.hid (Gr2.of_grown (x := gh) k4)
  clear k1 k2 k3 k4 hkl hdn ms
  go_wp2_with fail
  refine HDN.out.mono ?_
  rintro e w2 ⟨⟨b, rfl⟩, ⟨ls, k1, k2, k3⟩, k4⟩
  have L1 := Lib.hid (k1.trans K1.out)
  have hl : ls.length = N := k1.length_eq.trans HKL.out
  have L2 := Lib.hid k2
  have HG2 := Lib.hid (HG1.out.trans (Gr2.of_grown (x := gh) k4))
  have hpm := pop_m B gh g c c ls r w2 k3 HRF.out (by rw [hl]; exact hcap)
  have HPM := Lib.hid hpm
  have mp := method_pop gh w2
  clear k1 k2 k3 k4 hl hpm
  go_wp2_with fail
  refine HPM.out.mono ?_
  rintro e w3 ⟨⟨x, rfl⟩, k1, k2⟩
  have HF : Hid ((∃ ks, ks.Perm rs ∧ Hp LessR (fn ks) N ∧ HS w3 B gh g c c ks []) ∧ Gr2 w w3 gh g) := Lib.hid ⟨⟨ls, L1.out, L2.out, k1⟩, HG2.out.trans k2⟩
  clear k1 k2 mp
  go_wp2_with fail
  go_ret
  exact ⟨⟨_, rfl⟩, HF.out⟩
end Go.Proofs.Ytfcemlcocdhmfaa
/- Runs of lists, in plain words: what the heap holds, and what is left of each list. -/
namespace Go.Proofs.Ytfcemlcocdhmfaa
set_option linter.unusedVariables false
set_option linter.unusedSimpArgs false

abbrev Lst := Value × List El
def recs (x : Lst) : List Rc := x.2.map El.r
def LL (ls : List Lst) : List (List Rc) := ls.map recs
def runOf (k : Nat) (x : Lst) : List Rn := match x.2 with
  | [] => []
  | q :: qs => [⟨x.1, q :: qs, k⟩]
theorem runOf_nil {k : Nat} {x : Lst} (h : x.2 = []) : runOf k x = [] := by unfold runOf; rw [h]
theorem runOf_one {k : Nat} {x : Lst} (h : x.2 ≠ []) : runOf k x = [⟨x.1, x.2, k⟩] := by
  unfold runOf
  cases e : x.2 with
  | nil => exact absurd e h
  | cons q qs => rfl
def runsOf : Nat → List Lst → List Rn
  | _, [] => []
  | k, x :: t => runOf k x ++ runsOf (k + 1) t
theorem runsOf_snoc (x : Lst) : ∀ (l : List Lst) (k : Nat), runsOf k (l ++ [x]) = runsOf k l ++ runOf (k + l.length) x
  | [], k => by simp [runsOf]
  | y :: l, k => by
    rw [List.cons_append, runsOf, runsOf, runsOf_snoc x l (k + 1), List.append_assoc, List.length_cons]
    rw [show k + 1 + l.length = k + (l.length + 1) by omega]
theorem runsOf_len : ∀ (l : List Lst) (k : Nat), (runsOf k l).length ≤ l.length
  | [], k => by simp [runsOf]
  | y :: l, k => by
    have := runsOf_len l (k + 1)
    have h1 : (runOf k y).length ≤ 1 := by unfold runOf; split <;> simp
    simp [runsOf]; omega
theorem runsOf_mem : ∀ (l : List Lst) (k : Nat) (r : Rn), r ∈ runsOf k l → ∃ j x, l[j]? = some x ∧ r = ⟨x.1, x.2, k + j⟩ ∧ x.2 ≠ []
  | [], k, r, h => by simp [runsOf] at h
  | y :: l, k, r, h => by
    rw [runsOf, List.mem_append] at h
    rcases h with h | h
    · by_cases e : y.2 = []
      · rw [runOf_nil e] at h; simp at h
      · rw [runOf_one e] at h
        exact ⟨0, y, rfl, by simpa using h, e⟩
    · obtain ⟨j, x, h1, h2, h3⟩ := runsOf_mem l (k + 1) r h
      exact ⟨j + 1, x, by simpa using h1, by rw [h2]; congr 1; omega, h3⟩
theorem runsOf_has : ∀ (l : List Lst) (k j : Nat) (x : Lst), l[j]? = some x → x.2 ≠ [] → (⟨x.1, x.2, k + j⟩ : Rn) ∈ runsOf k l
  | [], k, j, x, h, _ => by simp at h
  | y :: l, k, j, x, h, h0 => by
    rw [runsOf, List.mem_append]
    cases j with
    | zero => simp at h; subst h; left; rw [runOf_one h0]; simp
    | succ j =>
      right
      have := runsOf_has l (k + 1) j x (by simpa using h) h0
      rwa [show k + 1 + j = k + (j + 1) by omega] at this
theorem runsOf_nodup : ∀ (l : List Lst) (k : Nat), ((runsOf k l).map Rn.pl).Nodup ∧ ∀ p ∈ (runsOf k l).map Rn.pl, k ≤ p
  | [], k => by simp [runsOf]
  | y :: l, k => by
    obtain ⟨h1, h2⟩ := runsOf_nodup l (k + 1)
    by_cases e : y.2 = []
    · rw [runsOf, runOf_nil e, List.nil_append]
      exact ⟨h1, fun p hp => by have := h2 p hp; omega⟩
    · rw [runsOf, runOf_one e, List.singleton_append, List.map_cons, List.nodup_cons]
      refine ⟨⟨fun hp => by have := h2 _ hp; simp at this; omega, h1⟩, fun p hp => ?_⟩
      rcases List.mem_cons.1 hp with hp | hp
      · rw [hp]; exact Nat.le_refl _
      · have := h2 p hp; omega
theorem inO_srt : ∀ {l : List Rc}, inO l = true → Srt ord2 l
  | [], _ => List.Pairwise.nil
  | [a], _ => List.pairwise_singleton _ _
  | a :: b :: l, h => by
    rw [inO, Bool.and_eq_true, decide_eq_true_eq] at h
    have ih := inO_srt h.2
    refine List.Pairwise.cons (fun y hy => ?_) ih
    rcases List.mem_cons.1 hy with e | hy
    · rw [e]; exact h.1
    · exact toOrd.trans _ _ _ h.1 (List.rel_of_pairwise_cons ih hy)
theorem srt_inO : ∀ {l : List Rc}, Srt ord2 l → inO l = true
  | [], _ => rfl
  | [a], _ => rfl
  | a :: b :: l, h => by
    rw [inO, Bool.and_eq_true, decide_eq_true_eq]
    exact ⟨List.rel_of_pairwise_cons h List.mem_cons_self, srt_inO h.of_cons⟩
/-- What the heap holds is what is left. -/
structure Fits (rem : Nat → List Rc) (hs : List Rn) : Prop where
  nd : (hs.map Rn.pl).Nodup
  at_ : ∀ r ∈ hs, rem r.pl = r.els.map El.r
  all : ∀ p, rem p ≠ [] → ∃ r ∈ hs, r.pl = p
  ne : ∀ r ∈ hs, r.els ≠ []
theorem Fits.perm {rem : Nat → List Rc} {hs ks : List Rn} (h : Fits rem hs) (p : ks.Perm hs) : Fits rem ks :=
  ⟨(p.map Rn.pl).nodup_iff.2 h.nd, fun r hr => h.at_ r (p.mem_iff.1 hr), fun q hq => by obtain ⟨r, h1, h2⟩ := h.all q hq; exact ⟨r, p.mem_iff.2 h1, h2⟩, fun r hr => h.ne r (p.mem_iff.1 hr)⟩
theorem LL_at (ls : List Lst) (j : Nat) : (LL ls)[j]? = ls[j]?.map recs := by simp [LL]
theorem Fits.start (ls : List Lst) : Fits (fun p => (LL ls)[p]?.getD []) (runsOf 0 ls) := by
  refine ⟨(runsOf_nodup ls 0).1, fun r hr => ?_, fun p hp => ?_, fun r hr => ?_⟩
  · obtain ⟨j, x, h1, rfl, h3⟩ := runsOf_mem ls 0 r hr
    simp [LL_at, h1, recs]
  · rw [LL_at] at hp
    cases e : ls[p]? with
    | none => rw [e] at hp; simp at hp
    | some x =>
      rw [e] at hp
      have hx : x.2 ≠ [] := fun h => hp (by simp [recs, h])
      exact ⟨_, runsOf_has ls 0 p x e hx, by simp⟩
  · obtain ⟨j, x, h1, rfl, h3⟩ := runsOf_mem ls 0 r hr; exact h3
theorem Fits.gone {rem : Nat → List Rc} {r : Rn} {rs : List Rn} (h : Fits rem (r :: rs)) : Fits (upd rem r.pl []) rs := by
  have hnd := h.nd
  rw [List.map_cons, List.nodup_cons] at hnd
  refine ⟨hnd.2, fun q hq => ?_, fun p hp => ?_, fun q hq => h.ne q (List.mem_cons_of_mem _ hq)⟩
  · have : q.pl ≠ r.pl := fun e => hnd.1 (by rw [← e]; exact List.mem_map_of_mem hq)
    rw [upd_ne _ _ this]; exact h.at_ q (List.mem_cons_of_mem _ hq)
  · have hne : p ≠ r.pl := fun e => by rw [e, upd_at] at hp; exact hp rfl
    rw [upd_ne _ _ hne] at hp
    obtain ⟨q, h1, h2⟩ := h.all p hp
    rcases List.mem_cons.1 h1 with h1 | h1
    · subst h1; exact absurd h2.symm hne
    · exact ⟨q, h1, h2⟩
theorem Fits.less {rem : Nat → List Rc} {r : Rn} {rs : List Rn} {lv : Value} {qs : List El} (h : Fits rem (r :: rs)) (hq : qs ≠ []) : Fits (upd rem r.pl (qs.map El.r)) (⟨lv, qs, r.pl⟩ :: rs) := by
  have hnd := h.nd
  rw [List.map_cons, List.nodup_cons] at hnd
  refine ⟨by rw [List.map_cons, List.nodup_cons]; exact hnd, fun q hq' => ?_, fun p hp => ?_, fun q hq' => ?_⟩
  · rcases List.mem_cons.1 hq' with e | hq'
    · subst e; rw [upd_at]
    · have : q.pl ≠ r.pl := fun e => hnd.1 (by rw [← e]; exact List.mem_map_of_mem hq')
      rw [upd_ne _ _ this]; exact h.at_ q (List.mem_cons_of_mem _ hq')
  · by_cases hne : p = r.pl
    · exact ⟨_, List.mem_cons_self, hne.symm⟩
    · rw [upd_ne _ _ hne] at hp
      obtain ⟨q, h1, h2⟩ := h.all p hp
      rcases List.mem_cons.1 h1 with h1 | h1
      · subst h1; exact absurd h2.symm hne
      · exact ⟨q, List.mem_cons_of_mem _ h1, h2⟩
  · rcases List.mem_cons.1 hq' with e | hq'
    · subst e; exact hq
    · exact h.ne q (List.mem_cons_of_mem _ hq')
theorem hd_of {r : Rn} {q : El} {qs : List El} (h : r.els = q :: qs) : r.hd = q.r := by unfold Rn.hd; rw [h]; rfl
/-- The first one of a heap stands ahead of all others. -/
theorem top_min {rem : Nat → List Rc} {r : Rn} {rs : List Rn} (h : Fits rem (r :: rs)) (hp : Hp LessR (fn (r :: rs)) (rs.length + 1)) :
    ∀ p' y ys, rem p' = y :: ys → p' ≠ r.pl → ord2 r.hd y < 0 ∨ ord2 r.hd y = 0 ∧ r.pl < p' := by
  intro p' y ys hy hne
  obtain ⟨q, h1, h2⟩ := h.all p' (by rw [hy]; simp)
  rcases List.mem_cons.1 h1 with h1 | h1
  · subst h1; exact absurd h2.symm hne
  · obtain ⟨j, hj, e⟩ := List.getElem_of_mem h1
    have hm := Hp.min loLess hp (j + 1) (by omega) (by omega)
    have e1 : fn (r :: rs) (j + 1) = q := by unfold fn; simp [hj, e]
    have e0 : fn (r :: rs) 0 = r := rfl
    rw [e1, e0] at hm
    have hyq : q.hd = y := by
      have := h.at_ q (List.mem_cons_of_mem _ h1)
      rw [h2, hy] at this
      cases e : q.els with
      | nil => rw [e] at this; simp at this
      | cons z zs => rw [e] at this; simp at this; rw [hd_of e, this.1]
    rcases not_less q r hm with h3 | ⟨h3, h4⟩
    · rw [hyq] at h3; exact .inl h3
    · rw [hyq] at h3; exact .inr ⟨h3, by omega⟩
def many (hs : List Rn) : Nat := (hs.map fun r => r.els.length).sum
theorem many_perm {hs ks : List Rn} (h : ks.Perm hs) : many ks = many hs := (h.map _).sum_nat
theorem many_cons (r : Rn) (rs : List Rn) : many (r :: rs) = r.els.length + many rs := by simp [many]
end Go.Proofs.Ytfcemlcocdhmfaa
