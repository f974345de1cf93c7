/- code.Number: the walk. -/
import Derived.Test.YtbjjgnaojoaoiaaGreatK48
import Derived.Test.YtbjjgnaojoaoiaaGreatK3
import Derived.Test.YtbjjgnaojoaoiaaGreatK15
namespace Go.Proofs.YtbjjgnaojoaoiaaGreat
open Go.RowKit Go
set_option linter.unusedVariables false
set_option linter.unusedSimpArgs false

/-- The number of a byte that more follow. -/
theorem u8_or (m : Nat) : bits .or .u8 ((m : Int) % 128) 128 = ((m % 128 + 128 : Nat) : Int) := by
  have e : (m : Int) % 128 = ((m % 128 : Nat) : Int) := by omega
  rw [e]
  show IntKind.u8.wrap (((BitVec.ofInt 8 ((m % 128 : Nat) : Int) ||| BitVec.ofInt 8 128).toNat : Nat) : Int) = _
  rw [or_128 _ (by omega)]
  exact IntWalk.u8_in _ (by omega)
theorem u64_div (m : Nat) (h : m < 18446744073709551616) : IntKind.u64.wrap ((m : Int) / 128) = ((m / 128 : Nat) : Int) := by
  rw [IntWalk.u64_in _ (by omega)]; omega
set_option maxHeartbeats 3200000 in
set_option maxRecDepth 100000 in
theorem number_any (n : Nat) (w : World) (hn : n < 18446744073709551616) :
    Calls Tryz.prog 62 #[.int .u64 n] w fun e w' => (∃ g c, e = .returned (.slice (some ⟨g, 0, none⟩) (numB n).length c) ∧ w'.ownsRow w.heap.size 5 1 (.slice (some ⟨g, 0, none⟩) (numB n).length c) (numB n).length (bys (numB n))) ∧ Below w.heap.size w w' := by
  obtain ⟨i0, hi, hz0, hz1, hz2⟩ := info_parts info_u8
  have HI := Lib.hid hi
  have hlen := numB_len hn
  obtain ⟨r, hr⟩ : ∃ r : List Nat, r = n % 128 :: tailB (n / 128) := ⟨_, rfl⟩
  have hrl : r.length = (numB n).length := by rw [hr]; unfold numB; simp
  have hrr : r.reverse = numB n := by rw [hr]; rfl
  have HR := Lib.hid hr; have HRL := Lib.hid hrl; have HRR := Lib.hid hrr
  clear hi hrl hr hrr
  have hn0 : [Value.int .u8 ((n % 128 : Nat) : Int)] = bys [n % 128] := rfl
  have hq0 := u64_div n hn
  have HN := Lib.hid hn
  clear hn
  go_enter Tryz.func62, Tryz.ntmps62
  go_wp2_with fail
  go_loopg [0, 3] (n / 128) (fun gh v0 v3 wr => ∃ (m : Nat) (l : List Nat), gh = m ∧ m < 18446744073709551616 ∧ v0 = .int .u64 m ∧ 0 < l.length ∧ l ++ tailB m = r ∧ wr.ownsRow w.heap.size 5 1 v3 l.length (bys l) ∧ Below w.heap.size w wr)
  case atStart =>
    have e : (n : Int) % 128 = ((n % 128 : Nat) : Int) := by omega
    rw [e]
    refine ⟨n / 128, [n % 128], rfl, by have := HN.out; omega, rfl, by simp, by rw [HR.out]; rfl, ?_, (Below.refl _ _).alloc (Nat.le_refl _) _⟩
    exact ⟨rfl, .inr ⟨w.heap.size, 1, #[.int .u8 ((n % 128 : Nat) : Int)], rfl, Nat.le_refl _, blk_new _ _ rfl, Nat.le_refl _, by unfold maxLen; omega, by simp, rfl⟩⟩
  case round =>
    obtain ⟨m, l, hgm, hm, rfl, hl0, hl, hown, hbr⟩ := hrel
    have HG := Lib.hid hgm; have HL := Lib.hid hl; have HO := Lib.hid hown; have HB := Lib.hid hbr; have HM := Lib.hid hm
    have hll : l.length + (tailB m).length ≤ 10 := by have := congrArg List.length hl; rw [List.length_append, HRL.out] at this; omega
    clear hgm hl hown hbr hm hlen
    by_cases h0 : 0 < m
    · have i1 : (0 : Int) < (m : Int) := by omega
      have hz3 := HB.out.size
      have hl1 : l.length < 10 := by rw [tailB_pos h0, List.length_cons] at hll; omega
      have hq1 := u64_div m HM.out
      have hor := u8_or m
      clear hll
      go_wp2_with (at_builtin; (refine wpList_app rfl (.tmp 14) (.tmp 19) _ rfl w.heap.size 5 i0 _ 1 1 Tryz.underlying66 HI.out hz0 hz1 hz2 rfl (by omega) _ _ _ rfl (HO.out.alloc _) _ _ 1 1 [.int .u8 ((m : Int) % 128 + 128)] rfl (Rd.new (cs := #[.int .u8 ((m : Int) % 128 + 128)]) rfl rfl) (by simp [Value.oneCell']) (by unfold maxLen; omega) (by omega) (by simp; omega) ?_; intro v2 w2 hown2 hg2 hat2))
      go_roundg (m / 128)
      case measure => have := HG.out; omega
      case rel => exact ⟨m / 128, l ++ [m % 128 + 128], rfl, by have := HM.out; omega, rfl, by simp, by rw [← HL.out, tailB_pos h0]; simp, by rw [bys_app, List.length_append]; exact hown2, (HB.out.alloc hz3 _).grown hg2 (by simp; omega) (fun k hk => (HO.out.lt k hk).1)⟩
    · have h0 : m = 0 := by omega
      subst h0
      rw [tailB_zero, List.append_nil] at HL
      obtain ⟨g, c, rfl, _⟩ := HO.out.form hl0
      have HRV := Lib.hid (reverseB_any w.heap.size g c l.length l wr rfl HO.out HB.out.size (by omega))
      go_wp2_with fail
      refine HRV.out.mono ?_; rintro e w1 ⟨⟨x, rfl⟩, ho, hb⟩
      go_wp2_with fail
      go_ret
      exact ⟨⟨g, c, by rw [← HRR.out, ← HL.out]; simp, by rw [← HRR.out, ← HL.out, List.length_reverse]; exact ho⟩, HB.out.trans hb⟩
end Go.Proofs.YtbjjgnaojoaoiaaGreat
/- Numbers are put behind bytes: the walk of Save's inner function. -/
namespace Go.Proofs.YtbjjgnaojoaoiaaGreat
open Go.RowKit Go
set_option linter.unusedVariables false
set_option linter.unusedSimpArgs false

/-- Bytes that a variable holds. -/
structure PutV (w : World) (B gb : Nat) (l : List Nat) (v : Value) : Prop where
  hg : w.heap[gb]? = some (.cells #[v] 66 (0, 0))
  hB : B ≤ gb
  row : w.ownsRow B 5 1 v l.length (bys l)
def PutAt (w : World) (B gb : Nat) (l : List Nat) : Prop := ∃ v, PutV w B gb l v
/-- Nothing turned but bytes. -/
structure Kept (w : World) (B : Nat) (w' : World) : Prop where
  bel : Below B w w'
  keep : ∀ (k : Nat) (cs : Array Value) (t : TypeId) (fr : Nat × Nat), w.heap[k]? = some (.cells cs t fr) → t ≠ 66 → t ≠ 5 → w'.heap[k]? = some (.cells cs t fr)
theorem Kept.refl (w : World) (B : Nat) : Kept w B w := ⟨Below.refl _ _, fun _ _ _ _ h _ _ => h⟩
theorem Kept.trans {w w1 w2 : World} {B : Nat} (h : Kept w B w1) (k : Kept w1 B w2) : Kept w B w2 :=
  ⟨h.bel.trans k.bel, fun i cs t fr hi h1 h2 => k.keep i cs t fr (h.keep i cs t fr hi h1 h2) h1 h2⟩
theorem Kept.below {w w1 : World} {B : Nat} (h : Below w.heap.size w w1) (hB : B ≤ w.heap.size) : Kept w B w1 :=
  ⟨h.mono hB, fun i cs t fr hi _ _ => blk_below hi h (blk_lt hi)⟩
theorem Kept.drew {w w1 : World} {B : Nat} (h : Kept w B w1) : Kept w B w1.drew := ⟨h.bel.drew, h.keep⟩
theorem PutV.below {w w' : World} {B gb : Nat} {l : List Nat} {v : Value} (h : PutV w B gb l v) (hb : Below w.heap.size w w') : PutV w' B gb l v :=
  ⟨blk_below h.hg hb (blk_lt h.hg), h.hB, own_below h.row hb⟩
theorem PutAt.below {w w' : World} {B gb : Nat} {l : List Nat} (h : PutAt w B gb l) (hb : Below w.heap.size w w') : PutAt w' B gb l := let ⟨v, h⟩ := h; ⟨v, h.below hb⟩
theorem put_end {w w2 w5 : World} {B gb : Nat} {l m : List Nat} {v v5 : Value} (h : PutV w B gb l v) (hb : Below w.heap.size w w2) (hB : B ≤ w.heap.size) (hg : w2.grownBy w5 v.ownBlock)
    (hO : w5.ownsRow B 5 1 v5 (l.length + m.length) (bys l ++ bys m)) : PutAt (w5.setCell ⟨gb, 0, none⟩ v5) B gb (l ++ m) ∧ Kept w B (w5.setCell ⟨gb, 0, none⟩ v5) := by
  have h2 := h.below hb
  have keep : ∀ {k : Nat} {cs : Array Value} {t : TypeId} {fr : Nat × Nat}, w2.heap[k]? = some (.cells cs t fr) → t ≠ 5 → w5.heap[k]? = some (.cells cs t fr) := fun {k cs t fr} hk ht =>
    (hg.block k (blk_lt hk) (fun e2 => by obtain ⟨_, cs', hcs⟩ := own_block_type h2.row e2.symm; exact ne_of_type' hk hcs ht rfl)).trans hk
  have hg5 := keep h2.hg (by decide)
  have p : Puts w5 gb [(0, v5)] (w5.setCell ⟨gb, 0, none⟩ v5) := (Puts.start (Below.refl _ _)).set 0 v5
  refine ⟨⟨v5, p.near _ _ _ hg5, h.hB, ?_⟩, ⟨(((hb.mono hB).grown hg (Nat.le_trans hB hb.size) (fun k hk => (own_block_type h2.row hk).1)).setCell h.hB _), fun k cs t fr hk h1 h3 => ?_⟩⟩
  · rw [List.length_append, bys_app]
    exact own_far hO (fun e => by obtain ⟨_, cs, hcs⟩ := own_block_type hO e; exact ne_of_type' hg5 hcs (by decide) rfl) v5
  · have hk2 := blk_below hk hb (blk_lt hk)
    have hk5 := keep hk2 h3
    exact (p.far k (blk_lt hk5) (ne_of_type' hk5 hg5 h1)).trans hk5
theorem put_far {w w5 : World} {B gb : Nat} {l : List Nat} {v : Value} (h : PutV w B gb l v) (hg : w.grownBy w5 v.ownBlock) : w5.heap[gb]? = some (.cells #[v] 66 (0, 0)) :=
  (hg.block gb (blk_lt h.hg) (fun e2 => by obtain ⟨_, cs', hcs⟩ := own_block_type h.row e2.symm; exact ne_of_type' h.hg hcs (by decide) rfl)).trans h.hg
/-- Numbers that are read: a piece of one block. -/
structure Nums (w : World) (b off : Nat) (xs : List Int) : Prop where
  blk : ∃ cs t fr, w.heap[b]? = some (.cells cs t fr) ∧ t ≠ 66 ∧ t ≠ 5
  at_ : ∀ j (hj : j < xs.length), w.cell? ⟨b, off + j, none⟩ = some (.int .i64 xs[j])
theorem Nums.kept {w w' : World} {B b off : Nat} {xs : List Int} (h : Nums w b off xs) (hk : Kept w B w') : Nums w' b off xs := by
  obtain ⟨⟨cs, t, fr, h1, h2, h3⟩, h4⟩ := h
  have h5 := hk.keep _ _ _ _ h1 h2 h3
  exact ⟨⟨cs, t, fr, h5, h2, h3⟩, fun j hj => by rw [← h4 j hj, World.cell?, World.cell?]; simp only [h5, h1]⟩
theorem number_enter (a : Int) (w : World) : (callFunc 62 #[.int .u64 a]).run Tryz.prog w = .ok (.enter 62 #[.int .u64 a]) w := by kernel_rfl
theorem bys_one {l : List Nat} : ∀ u ∈ bys l, u.oneCell' = true := by
  intro u hu
  obtain ⟨x, _, rfl⟩ := List.mem_map.1 hu
  rfl
set_option maxHeartbeats 3200000 in
set_option maxRecDepth 100000 in
theorem put_any (B gb b off c : Nat) (l : List Nat) (xs : List Int) (n : Nat) (w : World) (hn : xs.length = n) (h : PutAt w B gb l) (hx : Nums w b off xs) (hB : B ≤ w.heap.size) (hm : l.length + n * 10 ≤ 10000000) (hok : ∀ x ∈ xs, okN x) :
    Calls Tryz.prog 61 #[.slice (some ⟨b, off, none⟩) n c, .pointer (some ⟨gb, 0, none⟩)] w fun e w' => (∃ x, e = .returned x) ∧ PutAt w' B gb (l ++ numsB xs) ∧ Kept w B w' := by
  obtain ⟨i0, hi, hz0, hz1, hz2⟩ := info_parts info_u8
  have HI := Lib.hid hi; have HN := Lib.hid hn; have HX := Lib.hid hx; have HOK := Lib.hid hok; have HP := Lib.hid h
  clear hi hn hx hok h
  go_enter Tryz.func61, Tryz.ntmps61
  go_wp2_with fail
  go_loopg [7] n (fun gh v7 wr => ∃ k : Nat, gh = n - k ∧ k ≤ n ∧ v7 = .int .i64 k ∧ PutAt wr B gb (l ++ numsB (xs.take k)) ∧ Kept w B wr)
  case atStart => exact ⟨0, rfl, by omega, rfl, by simpa [numsB] using HP.out, Kept.refl _ _⟩
  case round =>
    obtain ⟨k, hgk, hk, rfl, ⟨v, hv⟩, hkp⟩ := hrel
    have HG := Lib.hid hgk; have HV := Lib.hid hv; have HK := Lib.hid hkp
    by_cases hlt : k < n
    · have hkl : k < xs.length := by have := HN.out; omega
      have hxk := (HX.out.kept hkp).at_ k hkl
      have hb1 := HK.out.bel.size
      obtain ⟨⟨_, _, _, hbb, _, _⟩, _⟩ := HX.out.kept hkp
      have hbl := blk_lt hbb
      have hox := HOK.out _ (List.getElem_mem hkl)
      obtain ⟨m, hmx, hm64⟩ : ∃ m : Nat, xs[k] = (m : Int) ∧ m < 18446744073709551616 := ⟨xs[k].toNat, by unfold okN at hox; omega, by unfold okN at hox; omega⟩
      have HTK : Hid (numsB (xs.take (k + 1)) = numsB (xs.take k) ++ numB m) := Lib.hid (by
        rw [List.take_succ_eq_append_getElem hkl, numsB_app, numsB_cons, hmx]; simp [numsB])
      have hll : (l ++ numsB (xs.take k)).length ≤ l.length + k * 10 := by
        have := numsB_len (l := xs.take k) (fun x hx => HOK.out x (List.mem_of_mem_take hx))
        rw [List.length_take] at this
        rw [List.length_append]; omega
      have hnl := numB_len hm64
      obtain ⟨L, hL⟩ : ∃ L, l ++ numsB (xs.take k) = L := ⟨_, rfl⟩
      rw [hL] at hv hll HV
      have HL := Lib.hid hL
      have hwr : IntKind.u64.wrap (m : Int) = (m : Int) := IntWalk.u64_in _ (by omega)
      have HNU := Lib.hid (fun wx => number_any m wx hm64)
      rw [hmx] at hxk
      obtain ⟨vc0, vc1⟩ : wr.cell? ⟨gb, 0, none⟩ = some v ∧ wr.frozen? ⟨gb, 0, none⟩ = false := ⟨(blk_cell hv.hg 0).trans rfl, blk_free hv.hg 0⟩
      have hgl := blk_lt hv.hg
      have i1 : (0 : Int) ≤ (k : Int) := by omega
      have i2 : (k : Int) < (n : Int) := by omega
      clear hgk hv hkp hbb hox hmx hm64 hkl hL
      go_wp2_with fail
      go_region_law (first
          | (refine step_call1R rfl 62 (.tmp 13) 44 rfl (.int .u64 (m : Int)) rfl (number_enter _) ?_
             refine (HNU.out _).mono ?_; rintro e w2 ⟨⟨g2, c2, rfl, hnb⟩, hb2⟩; refine ⟨_, rfl, ?_⟩
             have hb3 : Below wr.heap.size wr w2 := ((Below.refl wr.heap.size wr).drew).trans hb2
             obtain ⟨vd0, vd1⟩ : w2.cell? ⟨gb, 0, none⟩ = some v ∧ w2.frozen? ⟨gb, 0, none⟩ = false := ⟨(blk_cell (HV.out.below hb3).hg 0).trans rfl, blk_free (HV.out.below hb3).hg 0⟩
             have hgl2 : gb < w2.heap.size := Nat.lt_of_lt_of_le hgl hb3.size
             have hrd := Rd.of_own (own_mono hnb (Nat.zero_le _))
             have HRD := Lib.hid hrd; have HB3 := Lib.hid hb3
             clear hnb hb2 hrd hb3)
          | (refine step_app rfl (.tmp 11) (.tmp 14) 66 rfl B 5 i0 _ 1 1 Tryz.underlying66 HI.out hz0 hz1 hz2 rfl (by omega) v L.length (bys L) rfl (HV.out.below HB3.out).row _ (some ⟨g2, 0, none⟩) (numB m).length c2 (bys (numB m)) rfl HRD.out bys_one (by unfold maxLen; omega) (by omega) (by have := HB3.out.size; omega) ?_
             intro v5 w5 hO hgr hat
             have hE := put_end HV.out HB3.out (Nat.le_trans hB hb1) hgr hO
             have hgb5 := put_far (HV.out.below HB3.out) hgr
             obtain ⟨d0, d1⟩ : w5.cell? ⟨gb, 0, none⟩ = some v ∧ w5.frozen? ⟨gb, 0, none⟩ = false := ⟨(blk_cell hgb5 0).trans rfl, blk_free hgb5 0⟩
             have hgl5 := blk_lt hgb5
             obtain ⟨A5, c5, rfl, _⟩ := own_form hO
             have HE := Lib.hid hE
             clear hO hgr hat hE hgb5))
      all_goals go_wp2_with fail
      all_goals go_roundg (n - (k + 1))
      all_goals first
        | exact ⟨k + 1, rfl, by omega, by go_num, by rw [HTK.out, ← List.append_assoc, HL.out]; exact HE.out.1, HK.out.trans HE.out.2⟩
        | (have := HG.out; omega)
    · have i2 : ¬ (k : Int) < (n : Int) := by omega
      have hkn : k = n := by omega
      subst hkn
      rw [List.take_of_length_le (by rw [HN.out]; exact Nat.le_refl _)] at HV
      clear hgk hv hkp
      go_wp2_with fail
      go_end0
      exact ⟨⟨_, rfl⟩, ⟨v, HV.out⟩, HK.out⟩
end Go.Proofs.YtbjjgnaojoaoiaaGreat
