/- A heap of runs in memory: container/heap's Push, Pop, Fix. -/
import Derived.Test.YtfcemlcocdhmfaaHL
namespace Go.Proofs.Ytfcemlcocdhmfaa
open Go.RowKit Go
set_option linter.unusedVariables false
set_option linter.unusedSimpArgs false

theorem bnewH (w : World) (o : Obj) : Below w.heap.size w (w.alloc o) := (Below.refl _ _).alloc (Nat.le_refl _) o
theorem HAt.same {w : World} {g c i : Nat} {hs : List Rn} (h : HAt w g c hs) (hi : i < hs.length) {a : Rn} (ha : hs[i] = a) :
    HAt ((((w.setCell ⟨g, i * 2, none⟩ a.lv).setCell ⟨g, i * 2 + 1, none⟩ (.int .i64 a.pl)).setCell ⟨g, i * 2, none⟩ a.lv).setCell ⟨g, i * 2 + 1, none⟩ (.int .i64 a.pl)) g c hs := by
  obtain ⟨⟨cur, h1, h2, h3⟩, h4, h5⟩ := h
  refine ⟨⟨_, blk_set (blk_set (blk_set (blk_set h1 (i * 2) _) (i * 2 + 1) _) (i * 2) _) (i * 2 + 1) _, by simp [h2], fun k hk => ?_⟩, h4, h5⟩
  have e := h3 k hk
  simp only [Array.getElem?_setIfInBounds, Array.size_setIfInBounds, h2]
  by_cases h6 : k = i
  · subst h6
    rw [ha]
    refine ⟨?_, ?_⟩
    · rw [if_neg (by omega), if_pos rfl, if_pos (by omega)]
    · rw [if_pos rfl, if_pos (by omega)]
  · refine ⟨?_, ?_⟩
    · rw [if_neg (by omega), if_neg (by omega), if_neg (by omega), if_neg (by omega)]; exact e.1
    · rw [if_neg (by omega), if_neg (by omega), if_neg (by omega), if_neg (by omega)]; exact e.2
set_option maxHeartbeats 1600000 in
theorem swap0_any (g n c m : Nat) (hs : List Rn) (a : Rn) (w : World) (h : HAt w g m hs) (hi : 0 < hs.length) (hin : 0 < n) (ha : hs[0] = a) (fa : ∃ A k c, a.lv = .slice A k c) (hn : n ≤ 1000000) :
    Calls Try.prog 68 #[.slice (some ⟨g, 0, none⟩) n c, .int .i64 0, .int .i64 0] w fun e w' => (∃ x, e = .returned x) ∧ HAt w' g m hs ∧ w.grownBy w' (some g) := by
  obtain ⟨A1, n1, m1, e1⟩ := fa
  obtain ⟨c0, c1⟩ := h.cell hi
  rw [ha] at c0 c1
  rw [e1] at c0
  have HS := Lib.hid (h.same hi ha)
  rw [e1] at HS
  have hf := fun k => h.free k
  have HG := Lib.hid (grown_set4 (w := w) (g := g) (0 * 2) (0 * 2 + 1) (0 * 2) (0 * 2 + 1) (.slice A1 n1 m1) (.int .i64 a.pl) (.slice A1 n1 m1) (.int .i64 a.pl))
  have j2 : (0 : Int) < (n : Int) := by omega
  simp only [Nat.zero_mul, Nat.zero_add] at c0 c1 HS HG
  clear h ha e1
  go_enter Try.func68, Try.ntmps68
  go_wp2_with fail
  go_region_with (fail)
  all_goals go_wp2_with fail
  all_goals go_end0
  all_goals exact ⟨⟨_, rfl⟩, HS.out.drew, grown_drew HG.out⟩
theorem HAt.pre {w : World} {g c : Nat} {hs tl : List Rn} (h : HAt w g c (hs ++ tl)) : HAt w g c hs := by
  obtain ⟨⟨cur, h1, h2, h3⟩, h4, h5⟩ := h
  rw [List.length_append] at h4
  refine ⟨⟨cur, h1, h2, fun k hk => ?_⟩, by omega, h5⟩
  have := h3 k (by rw [List.length_append]; omega)
  rwa [List.getElem_append_left hk] at this
theorem HAt.far {w : World} {g c : Nat} {hs : List Rn} (h : HAt w g c hs) {p : Addr} (hp : g ≠ p.block) (u : Value) : HAt (w.setCell p u) g c hs := by
  obtain ⟨⟨cur, h1, h2, h3⟩, h4, h5⟩ := h
  exact ⟨⟨cur, blk_far h1 hp u, h2, h3⟩, h4, h5⟩
set_option maxHeartbeats 1600000 in
theorem pop_m (B gh g c cap : Nat) (ks : List Rn) (r : Rn) (w : World) (h : HS w B gh g c cap ks [r]) (fr : ∃ A k c, r.lv = .slice A k c) (hcap : ks.length + 1 ≤ cap) :
    Calls Try.prog 66 #[.pointer (some ⟨gh, 0, none⟩)] w fun e w' => (∃ x, e = .returned x) ∧ HS w' B gh g c cap ks [] ∧ Gr2 w w' gh g := by
  obtain ⟨A1, n1, m1, e1⟩ := fr
  have hcl := h.at_.cell (k := ks.length) (by simp)
  simp only [List.getElem_append_right (Nat.le_refl _), Nat.sub_self, List.getElem_cons_zero] at hcl
  rw [e1] at hcl
  obtain ⟨c0, c1⟩ := hcl
  have hd : w.cell? ⟨gh, 0, none⟩ = some (.slice (some ⟨g, 0, none⟩) (ks.length + 1) cap) := h.hd
  have hf : w.frozen? ⟨gh, 0, none⟩ = false := blk_free h.hb 0
  have hlt := h.hlt; have hlg := h.lt; have hnm : ks.length + 1 ≤ 1000000 := h.nm
  have H := Lib.hid h
  obtain ⟨N, hN⟩ : ∃ N, ks.length = N := ⟨_, rfl⟩
  rw [hN] at c0 c1 hd hnm hcap
  have HN := Lib.hid hN
  have j1 : IntKind.i64.wrap (((N + 1 : Nat) : Int) - 1) = (N : Int) := by rw [IntWalk.i64_in _ (by omega)]; omega
  have j2 : (0 : Int) ≤ (N : Int) := by omega
  have j3 : (N : Int) < ((N + 1 : Nat) : Int) := by omega
  have j4 : (N : Int) ≤ (cap : Int) := by omega
  clear h e1 hN
  go_enter Try.func66, Try.ntmps66
  go_wp2_with fail
  go_ret
  have h := H.out
  have hne : g ≠ gh := Ne.symm h.ne
  have hat : HAt ((w.setCell ⟨gh, 0, none⟩ (.slice (some ⟨g, 0, none⟩) N cap)).alloc (.cells #[.slice A1 n1 m1, .int .i64 r.pl] 47)) g c ks := ((HAt.pre h.at_).far hne _).below (bnewH _ _)
  refine ⟨⟨_, rfl⟩, ⟨?_, by simpa using hat, h.ne, h.gB, h.hB, fun q hq => (h.rn q hq).keep fun p hp => ?_, by have := h.nm; simp at this ⊢; omega⟩, ?_⟩
  · rw [show ks.length + ([] : List Rn).length = N from by rw [HN.out]; rfl]
    exact blk_alloc ((blk_set h.hb 0 _).trans rfl) _
  · have hb := h.hB; have hbg := h.gB
    rw [World.cell?_alloc_lt _ _ _ (by rw [World.size_setCell]; omega)]
    exact World.cell?_of_block (Below.heap_setCell w ⟨gh, 0, none⟩ _ p.block (by show p.block ≠ gh; omega))
  · exact (Gr2.setCell w ⟨gh, 0, none⟩ (.inl rfl) _).trans (Gr2.of_below (bnewH _ _))
/-- A heap with its header, of any number of runs. -/
structure HT (w : World) (B gh : Nat) (hs : List Rn) : Prop where
  ex : ∃ v, Hdr w gh v ∧ w.ownsRow B 47 2 v hs.length (rnCs hs) ∧ v.ownBlock ≠ some gh
  rn : ∀ r ∈ hs, RnB w B r
  hp : Hp LessR (fn hs) hs.length
  hB : B ≤ gh
theorem HT.lt {w : World} {B gh : Nat} {hs : List Rn} (h : HT w B gh hs) : gh < w.heap.size := by obtain ⟨v, h1, _⟩ := h.ex; exact h1.lt
/-- A row of runs that is not empty: its block. -/
theorem hs_of {w : World} {B gh : Nat} {v : Value} {hs : List Rn} (h1 : Hdr w gh v) (h2 : w.ownsRow B 47 2 v hs.length (rnCs hs)) (h3 : v.ownBlock ≠ some gh) (h0 : hs ≠ []) (hB : B ≤ gh) (hr : ∀ r ∈ hs, RnB w B r) (hn : hs.length ≤ 1000000) :
    ∃ g c, v = .slice (some ⟨g, 0, none⟩) hs.length c ∧ HS w B gh g c c hs [] := by
  have h2' := h2
  rcases h2.2 with ⟨_, h4⟩ | ⟨g, cap, cur, rfl, hb, _⟩
  · exact absurd (List.eq_nil_of_length_eq_zero h4) h0
  · obtain ⟨_, _, hat⟩ := hat_of_own h2'
    exact ⟨g, cap, rfl, ⟨by simpa using h1.cell, by simpa using hat, fun e => h3 (by rw [e]; rfl), hb, hB, hr, by simpa using hn⟩⟩
theorem HS.ht {w : World} {B gh g c cap : Nat} {hs : List Rn} (h : HS w B gh g c c hs []) (hp : Hp LessR (fn hs) hs.length) : HT w B gh hs :=
  ⟨⟨_, ⟨by simpa using h.hb⟩, by have := HAt.own (hs := hs) (by simpa using h.at_) h.gB; exact this, fun e => h.ne (by injection e with e; exact e.symm)⟩, h.rn, hp, h.hB⟩
theorem hpu_snoc {hs : List Rn} {r : Rn} (hp : Hp LessR (fn hs) hs.length) : HpU (L := LessR) (fn (hs ++ [r])) (hs.length + 1) hs.length :=
  hp.push fun k hk => by unfold fn; rw [List.getElem?_append_left hk]
set_option maxHeartbeats 1600000 in
theorem hpush_any (B gh : Nat) (hs : List Rn) (r : Rn) (w : World) (h : HT w B gh hs) (hr : RnB w B r) (hn : hs.length < 1000000) :
    Calls Try.prog 21 #[.iface 42 (.pointer (some ⟨gh, 0, none⟩)), .iface 47 (.agg #[r.lv, .int .i64 r.pl])] w fun e w' => (∃ x, e = .returned x) ∧ (∃ ks, ks.Perm (hs ++ [r]) ∧ HT w' B gh ks) ∧ Below B w w' := by
  obtain ⟨v, h1, h2, h3⟩ := h.ex
  obtain ⟨Ar, nr, cr, hlv⟩ := hr.form
  have hp := push_m B gh v (rnCs hs) hs.length Ar nr cr r.pl w h1 h2 h3 h.hB (by omega)
  have e1 : rnCs hs ++ [Value.slice Ar nr cr, Value.int .i64 r.pl] = rnCs (hs ++ [r]) := by rw [rnCs_app, ← hlv]; rfl
  rw [e1] at hp
  have HP := Lib.hid hp; have H := Lib.hid h; have HR := Lib.hid hr
  have hm := method_push gh w
  rw [hlv]
  clear h1 h2 h3 hp h hr hlv e1
  go_enter Try.func21, Try.ntmps21
  go_wp2_with fail
  refine HP.out.mono ?_; rintro e w1 ⟨⟨x, rfl⟩, v1, g1, g2, g3, g4⟩
  have h := H.out; have hr := HR.out
  have hk : ∀ p : Addr, p.block < B → w1.cell? p = w.cell? p := fun p hp => g4.cell hp
  obtain ⟨g, c, rfl, hs1⟩ := hs_of (hs := hs ++ [r]) g1 (by simpa using g2) g3 (by simp) h.hB (fun q hq => by rcases List.mem_append.1 hq with hq | hq; exact (h.rn q hq).keep hk; rw [List.mem_singleton.1 hq]; exact hr.keep hk) (by simp; omega)
  have HS1 := Lib.hid hs1; have HB1 := Lib.hid g4
  have hu := hpu_snoc (r := r) h.hp
  have HU := Lib.hid hu
  have ml := method_len gh 194 hs1.hd
  simp only [List.length_append, List.length_singleton, List.length_nil, Nat.add_zero] at ml
  have hnn : hs.length < 1000000 := hn
  clear g1 g2 g3 g4 hk hs1 hu h hr hm
  obtain ⟨N, hN⟩ : ∃ N, hs.length = N := ⟨_, rfl⟩
  have HN := Lib.hid hN
  rw [hN] at ml hnn HU
  clear hN hn
  go_wp2_with fail
  refine (len_any _ _ _ _ rfl _).mono ?_; rintro e w' ⟨rfl, rfl⟩
  have j1 : IntKind.i64.wrap (((N + 1 : Nat) : Int) - 1) = (N : Int) := by rw [IntWalk.i64_in _ (by omega)]; omega
  clear ml
  go_wp2_with fail
  refine (up_any B gh g c c N (hs ++ [r]) w1 HS1.out (by simp; have := HN.out; omega) (by simpa [HN.out] using HU.out)).mono ?_
  rintro e w2 ⟨⟨x, rfl⟩, ⟨ks, k1, k2, k3⟩, k4⟩
  have HK : Hid ((∃ ks, ks.Perm (hs ++ [r]) ∧ HT w2 B gh ks) ∧ Below B w w2) := Lib.hid ⟨⟨ks, k1, HS.ht (cap := 0) k3 (by rw [k1.length_eq]; exact k2)⟩, HB1.out.grown k4 (by have := HS1.out.lt; have := HS1.out.gB; omega) (fun b e => by injection e with e; rw [← e]; exact HS1.out.gB)⟩
  clear k1 k2 k3 k4
  go_wp2_with fail
  go_end0
  exact ⟨⟨_, rfl⟩, HK.out⟩
end Go.Proofs.Ytfcemlcocdhmfaa
