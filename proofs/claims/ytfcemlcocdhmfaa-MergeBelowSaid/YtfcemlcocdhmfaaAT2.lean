/- merge.At. -/
import Derived.Test.YtfcemlcocdhmfaaXJ
import Derived.Test.YtfcemlcocdhmfaaXD
namespace Go.Proofs.Ytfcemlcocdhmfaa
open Go.RowKit Go
set_option linter.unusedVariables false
set_option linter.unusedSimpArgs false

/-- No key of those that were told stands in the rest. -/
def SepAt (qs pre : List El) : Prop := ∀ y, qs[pre.length]? = some y → ∀ x ∈ pre, x.r.key ≠ y.r.key
theorem sep_step {qs pre g post : List El} {k : List UInt8} (hs : inO (qs.map El.r) = true) (e : qs = pre ++ g ++ post) (h0 : g ≠ []) (hk : ∀ x ∈ g, x.r.key = k) (hp : ∀ x, post.head? = some x → x.r.key ≠ k) : SepAt qs (pre ++ g) := by
  intro y hy x hx
  have hsr := inO_srt hs
  rw [e] at hy hsr
  rw [List.getElem?_append_right (Nat.le_refl _), Nat.sub_self] at hy
  have hyh : post.head? = some y := by rw [List.head?_eq_getElem?]; exact hy
  have hyp : y ∈ post := List.mem_of_getElem? hy
  have hyk := hp y hyh
  obtain ⟨z, hz⟩ := List.exists_mem_of_ne_nil g h0
  rw [List.map_append, List.map_append] at hsr
  have hzy : ord2 z.r y.r < 0 := (List.pairwise_append.1 hsr).2.2 _ (List.mem_append_right _ (List.mem_map_of_mem hz)) _ (List.mem_map_of_mem hyp)
  rcases List.mem_append.1 hx with hx | hx
  · have hxz : ord2 x.r z.r < 0 := (List.pairwise_append.1 (List.pairwise_append.1 hsr).1).2.2 _ (List.mem_map_of_mem hx) _ (List.mem_map_of_mem hz)
    intro e
    have := same_key hxz hzy e
    rw [hk z hz] at this
    exact hyk this.symm
  · rw [hk x hx]; exact fun e => hyk e.symm
theorem sep_key {qs pre g post : List El} {k : List UInt8} (h : SepAt qs pre) (e : qs = pre ++ g ++ post) (h0 : g ≠ []) (hk : ∀ x ∈ g, x.r.key = k) : ∀ x ∈ pre, x.r.key ≠ k := by
  intro x hx
  obtain ⟨y, ys, rfl⟩ := List.exists_cons_of_ne_nil h0
  have := h y (by rw [e, List.append_assoc, List.getElem?_append_right (Nat.le_refl _), Nat.sub_self]; rfl) x hx
  rwa [hk y List.mem_cons_self] at this
theorem at_step {seq : Int} {qs pre g post : List El} {k : List UInt8} (h : SepAt qs pre) (e : qs = pre ++ g ++ post) (h0 : g ≠ []) (hk : ∀ x ∈ g, x.r.key = k) :
    atS seq none ((pre ++ g).map El.r) = atS seq none (pre.map El.r) ++ atG seq (g.map El.r) := by
  rw [List.map_append, atS_app]
  congr 1
  refine atS_group seq k (g.map El.r) _ ?_ ?_
  · intro r hr
    obtain ⟨x, hx, rfl⟩ := List.mem_map.1 hr
    exact hk x hx
  · intro e'
    rcases atD_from seq (pre.map El.r) none with h1 | ⟨r, h1, h2⟩
    · rw [h1] at e'; cases e'
    · obtain ⟨x, hx, rfl⟩ := List.mem_map.1 h1
      rw [h2] at e'; injection e' with e'
      exact sep_key h e h0 hk x hx e'
/-- What has been told, group by group. -/
def AtI (w : World) (gs go : Nat) (seq : Int) (qs pre : List El) (wr : World) : Prop :=
  Below w.heap.size w wr ∧ wr.heap[gs]? = some (.cells #[.int .i64 seq] 3 (0, 0)) ∧ ∃ vo ps, wr.heap[go]? = some (.cells #[vo] 32 (0, 0)) ∧ OutP wr w.heap.size vo ps ∧ ps.length ≤ pre.length ∧
    (inO (qs.map El.r) = true → ps.map Pr.p = atS seq none (pre.map El.r) ∧ SepAt qs pre)
theorem AtI.later {w : World} {gs go : Nat} {seq : Int} {qs pre : List El} {wr w' : World} (h : AtI w gs go seq qs pre wr) (hb : Below wr.heap.size wr w') : AtI w gs go seq qs pre w' := by
  obtain ⟨h1, h2, vo, ps, h3, h4, h5, h6⟩ := h
  exact ⟨h1.trans (hb.mono h1.size), blk_below h2 hb (blk_lt h2), vo, ps, blk_below h3 hb (blk_lt h3), h4.below hb, h5, h6⟩
/-- What At tells. -/
def AtS (seq : Int) (rs : List Rc) : List Kv := if inO rs = true then atS seq none rs else []
def Ats (seq : Int) (qs : List El) (w : World) (e : Ending) (w' : World) : Prop := (∃ vo ps, e = .returned vo ∧ RowP w' vo ps ∧ ps.map Pr.p = AtS seq (qs.map El.r)) ∧ Below w.heap.size w w'
set_option maxHeartbeats 1600000 in
theorem at_any (v : Value) (seq : Int) (qs : List El) (w : World) (h : RowB w v qs) (hn : qs.length ≤ 1000000000) (hl : ∀ q ∈ qs, LenR q) :
    Calls Try.prog 16 #[v, .int .i64 seq] w (Ats seq qs w) := by
  have H := Lib.hid h; have HL := Lib.hid hl
  obtain ⟨A, c, rfl⟩ := h.form
  clear h hl
  obtain ⟨gs, hgs⟩ : ∃ gs, gs = w.heap.size := ⟨_, rfl⟩
  obtain ⟨go, hgo⟩ : ∃ go, go = w.heap.size + 1 := ⟨_, rfl⟩
  have h0 : AtI w gs go seq qs [] ((w.alloc (.cells #[.int .i64 seq] 3)).alloc (.cells #[.slice none 0 0] 32)) :=
    ⟨((Below.refl _ _).alloc (Nat.le_refl _) _).alloc (by simp) _, blk_alloc (blk_new _ _ hgs) _, .slice none 0 0, [], blk_new _ _ (by simp [hgo]), OutP.nil _ _, Nat.le_refl _, fun _ => ⟨rfl, fun y _ x hx => by simp at hx⟩⟩
  have hcall := groups_atw (AtI w gs go seq qs) (.pointer (some ⟨gs, 0, none⟩)) (.pointer (some ⟨go, 0, none⟩)) (.slice A qs.length c) qs w ((w.alloc (.cells #[.int .i64 seq] 3)).alloc (.cells #[.slice none 0 0] 32)) H.out (by omega)
    (fun pre wr hi => hi.1) (fun pre wr w' hi hb => hi.later hb) h0 (fun pre g post u wr k hi hr hg0 hq hk hp => by
      obtain ⟨h1, h2, vo, ps, h3, h4, h5, h6⟩ := hi
      have hlen : pre.length + g.length ≤ qs.length := by rw [hq]; simp
      have hgl : 0 < g.length := List.length_pos_iff.2 hg0
      refine (at1_walk w.heap.size gs go seq u vo g ps wr (hr.up h1) (by omega) (fun q hq' => HL.out q (by rw [hq]; simp [hq'])) h2 h3 h4 (by omega) (by omega) (by omega)).mono ?_
      rintro e w' ⟨hx, v', ps', g1, g2, g3, g4, g5, g6⟩
      refine ⟨hx, h1.trans g5, g4, v', ps ++ ps', g1, g2, by simp; omega, fun hs => ?_⟩
      obtain ⟨f1, f2⟩ := h6 hs
      exact ⟨by rw [List.map_append, at_step f2 hq hg0 hk, f1, g3], sep_step hs hq hg0 hk hp⟩)
  rw [hgs, hgo] at hcall
  have HC := Lib.hid hcall
  clear h0 hcall
  go_enter Try.func16, Try.ntmps16
  go_wp2_with fail
  refine HC.out.mono ?_
  rintro e w1 ⟨⟨x, rfl⟩, hi⟩
  have hres : ∃ vo ps, w1.heap[w.heap.size + 1]? = some (.cells #[vo] 32 (0, 0)) ∧ RowP w1 vo ps ∧ ps.map Pr.p = AtS seq (qs.map El.r) ∧ Below w.heap.size w w1 := by
    by_cases hs : inO (qs.map El.r) = true
    · rw [if_pos hs] at hi
      obtain ⟨h1, h2, vo, ps, h3, h4, h5, h6⟩ := hi
      exact ⟨vo, ps, h3, h4.row, by rw [AtS, if_pos hs, (h6 hs).1], h1⟩
    · rw [if_neg hs] at hi
      obtain ⟨h1, h2, vo, ps, h3, h4, h5, h6⟩ := hi
      have : ps = [] := List.eq_nil_of_length_eq_zero (by simpa using h5)
      exact ⟨vo, ps, h3, h4.row, by rw [AtS, if_neg hs, this]; rfl, h1⟩
  obtain ⟨vo, ps, r1, r2, r3, r4⟩ := hres
  have hc : w1.cell? ⟨w.heap.size + 1, 0, none⟩ = some vo := blk_cell r1 0
  have R2 := Lib.hid r2; have R3 := Lib.hid r3; have R4 := Lib.hid r4
  obtain ⟨Ao, co, rfl, _⟩ := r2
  clear hi r1 r3 r4 HC
  go_wp2_with fail
  go_ret
  exact ⟨⟨_, ps, rfl, R2.out, R3.out⟩, R4.out⟩
end Go.Proofs.Ytfcemlcocdhmfaa
