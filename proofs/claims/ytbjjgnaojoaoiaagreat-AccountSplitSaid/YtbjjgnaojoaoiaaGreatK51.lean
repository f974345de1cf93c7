/- code.TakeNumber: the walk. -/
import Derived.Test.YtbjjgnaojoaoiaaGreatK49
import Derived.Test.YtbjjgnaojoaoiaaGreatK15
import Derived.Test.YtbjjgnaojoaoiaaGreatK48
import Derived.Test.YtbjjgnaojoaoiaaGreatK28
import Derived.Test.YtbjjgnaojoaoiaaGreatK45
import Derived.Test.YtbjjgnaojoaoiaaGreatK25
import Derived.Deep.RegionLaw
import Derived.Test.YtbjjgnaojoaoiaaGreatK17
namespace Go.Proofs.YtbjjgnaojoaoiaaGreat
open Go.RowKit Go
set_option linter.unusedVariables false
set_option linter.unusedSimpArgs false

set_option maxHeartbeats 3200000 in
set_option maxRecDepth 100000 in
theorem cloneB_any (A : Option Addr) (n c : Nat) (l : List Nat) (w : World) (hl : l.length = n) (hr : Rd w w.heap.size 1 A n (bys l)) (hn : n ≤ 10000000) :
    Calls Tryz.prog 167 #[.slice A n c] w fun e w' => ∃ v, e = .returned v ∧ w'.ownsRow w.heap.size 5 1 v n (bys l) ∧ Below w.heap.size w w' := by
  obtain ⟨i0, hi, hz0, hz1, hz2⟩ := info_parts info_u8
  have hm := maxLen_le
  rcases A with _ | a
  · have h0 := rd_nil_of hr
    subst h0
    have hl0 : l = [] := List.eq_nil_of_length_eq_zero hl
    subst hl0
    have e := Lib.run_eql_slice_nil (P := Tryz.prog) w 66 5 none 0 c 0 0 Tryz.underlying66
    go_enter Tryz.func167, Tryz.ntmps167
    go_wp2_with fail
    go_ret
    exact ⟨_, rfl, World.ownsRow_nil _ _ _ _, Below.refl _ _⟩
  · have e := Lib.run_eql_slice_nil (P := Tryz.prog) w 66 5 (some a) n c 0 0 Tryz.underlying66
    have hB : Below w.heap.size w (w.alloc (.cells #[] 5)) := (Below.refl _ _).alloc (Nat.le_refl _) _
    have hrr := Lib.hid (hr.below hB)
    go_enter Tryz.func167, Tryz.ntmps167
    go_wp2_with (at_builtin; refine wpList_app rfl (.tmp 5) (.tmp 6) _ rfl w.heap.size 5 i0 _ 1 1 Tryz.underlying66 hi hz0 hz1 hz2 rfl (by omega) (.slice (some ⟨w.heap.size, 0, none⟩) 0 0) 0 [] rfl (World.ownsRow_made w #[] 0 (Nat.le_refl _) (by omega) rfl) w.heap.size (some a) n c (bys l) rfl hrr.out bys_one (by unfold maxLen; omega) (by omega) (by simp) ?_; intro v1 w1 hO hg hat)
    have HO := Lib.hid (show w1.ownsRow w.heap.size 5 1 v1 n (bys l) by simpa using hO)
    have HB : Hid (Below w.heap.size w w1) := hB.grown hg (by simp) (fun k hk => by simp [Value.ownBlock] at hk; omega)
    clear hO hg hat
    go_wp2_with fail
    go_ret
    exact ⟨_, rfl, HO.out, HB.out⟩
set_option maxRecDepth 100000 in
theorem andN_128 : ∀ x : Nat, x < 256 → (BitVec.ofInt 8 (x : Int) &&& ~~~(BitVec.ofInt 8 128)).toNat = x % 128 := by decide
theorem u8_andNot (c : Nat) (h : c < 256) : bits .andNot .u8 (c : Int) 128 = ((c % 128 : Nat) : Int) := by
  show IntKind.u8.wrap (((BitVec.ofInt 8 (c : Int) &&& ~~~(BitVec.ofInt 8 128)).toNat : Nat) : Int) = _
  rw [andN_128 c h]
  exact IntWalk.u8_in _ (by omega)
theorem u64_or (v d : Nat) (hd : d < 128) (hv : v * 128 + 127 < 18446744073709551616) : bits .or .u64 ((v * 128 : Nat) : Int) (d : Int) = ((v * 128 + d : Nat) : Int) := by
  show IntKind.u64.wrap (((BitVec.ofInt 64 ((v * 128 : Nat) : Int) ||| BitVec.ofInt 64 (d : Int)).toNat : Nat) : Int) = _
  have e : (BitVec.ofInt 64 ((v * 128 : Nat) : Int) ||| BitVec.ofInt 64 (d : Int)).toNat = v * 128 + d := by
    rw [BitVec.toNat_or, BitVec.toNat_ofInt, BitVec.toNat_ofInt]
    have e1 : (((v * 128 : Nat) : Int) % ((2 ^ 64 : Nat) : Int)).toNat = v * 128 := by omega
    have e2 : ((d : Int) % ((2 ^ 64 : Nat) : Int)).toNat = d := by omega
    rw [e1, e2]
    have := Nat.shiftLeft_add_eq_or_of_lt (show d < 2 ^ 7 by omega) v
    rw [Nat.shiftLeft_eq] at this
    exact this.symm
  rw [e]
  exact IntWalk.u64_in _ (by omega)
/-- A row of bytes at an index. -/
theorem Rd.byte {w : World} {B n : Nat} {A : Option Addr} {l : List Nat} (h : Rd w B 1 A n (bys l)) {k : Nat} (hk : k < l.length) : ∃ b off, A = some ⟨b, off, none⟩ ∧ b < B ∧ w.cell? ⟨b, off + k, none⟩ = some (.int .u8 (l[k] : Int)) := by
  have hn : l.length = n * 1 := by rw [← bys_len]; exact h.1
  obtain ⟨b, off, e, hb, hc⟩ := h.2 (by omega)
  exact ⟨b, off, e, hb, (hc k (by omega)).trans (bys_at hk)⟩
set_option maxHeartbeats 3200000 in
set_option maxRecDepth 100000 in
theorem takeNumber_any (A : Option Addr) (n c m : Nat) (rest : List Nat) (w : World) (hm : m < 18446744073709551616) (hl : (numB m ++ rest).length = n) (hr : Rd w w.heap.size 1 A n (bys (numB m ++ rest))) (hn : n ≤ 10000000) (hnc : n ≤ c) :
    Calls Tryz.prog 135 #[.slice A n c] w fun e w' => (∃ v, e = .returned (.tuple #[.int .u64 m, v, .int .i64 0]) ∧ w'.ownsRow w.heap.size 5 1 v rest.length (bys rest)) ∧ Below w.heap.size w w' := by
  rw [numB_eq] at hl hr
  obtain ⟨H, hH⟩ : ∃ H, headB (m / 128) = H := ⟨_, rfl⟩
  have hval := headB_val (m / 128)
  have hat := fun k (hk : k < (headB (m / 128)).length) => headB_at hk
  have htk := fun k (hk : k < (headB (m / 128)).length) => headB_take_lt hk
  rw [hH] at hl hr hval hat htk
  have hlen : H.length + 1 + rest.length = n := by rw [← hl]; simp; omega
  have HR := Lib.hid hr; have HM := Lib.hid hm; have HVAL := Lib.hid hval; have HAT := Lib.hid hat; have HTK := Lib.hid htk; have HL := Lib.hid hl
  clear hr hm hval hat htk hl hH
  go_enter Tryz.func135, Tryz.ntmps135
  go_wp2_with fail
  go_loopg [5, 10] H.length (fun gh v5 v10 wr => ∃ k : Nat, gh = H.length - k ∧ k ≤ H.length ∧ v5 = .int .u64 (valB (H.take k) : Nat) ∧ v10 = .int .i64 k ∧ w = wr)
  case atStart => exact ⟨0, rfl, by omega, rfl, rfl, rfl⟩
  case round =>
    obtain ⟨k, hgk, hk, rfl, rfl, rfl⟩ := hrel
    have HG := Lib.hid hgk
    clear hgk
    have hkn : k < n := by omega
    have hkl : k < (H ++ [m % 128] ++ rest).length := by simp; omega
    obtain ⟨b, off, rfl, hb, c0⟩ := HR.out.byte hkl
    have i1 : (0 : Int) ≤ (k : Int) := by omega
    have i2 : (k : Int) < (n : Int) := by omega
    by_cases hlt : k < H.length
    · obtain ⟨a1, a2, a3⟩ := HAT.out k hlt
      have ht := HTK.out k hlt
      have e1 : (H ++ [m % 128] ++ rest)[k] = H[k] := by rw [List.getElem_append_left (by simp; omega), List.getElem_append_left hlt]
      rw [e1] at c0
      have hnx : valB (H.take (k + 1)) = valB (H.take k) * 128 + H[k] % 128 := by rw [List.take_succ_eq_append_getElem hlt, valB_snoc]
      have hm' := HM.out
      have hvb : valB (H.take k) * 128 + 127 < 18446744073709551616 := by omega
      have hv57 : valB (H.take k) < 144115188075855872 := by omega
      have hb0 : 0 < k → ∃ x0 : Nat, w.cell? ⟨b, off, none⟩ = some (.int .u8 (x0 : Int)) ∧ 128 < x0 := fun h0 => by
        obtain ⟨b', off', e', _, c'⟩ := HR.out.byte (k := 0) (by simp; omega)
        injection e' with e'; injection e' with e1 e2; subst e1 e2
        have h00 : 0 < H.length := by omega
        obtain ⟨_, _, a3⟩ := HAT.out 0 h00
        refine ⟨H[0], ?_, a3 rfl⟩
        have e2 : (H ++ [m % 128] ++ rest)[0]'(by simp; omega) = H[0] := by rw [List.getElem_append_left (by simp), List.getElem_append_left h00]
        rw [e2] at c'; exact c'
      have HNX := Lib.hid hnx
      generalize H[k] = x at *
      generalize valB (H.take k) = v at *
      have f1 := u8_andNot x a2
      have HF2 : Hid (bits .or .u64 ((v : Int) * 128) ((x : Int) % 128) = ((v * 128 + x % 128 : Nat) : Int)) := Lib.hid (by
        have := u64_or v (x % 128) (by omega) hvb
        have e1 : ((v * 128 : Nat) : Int) = (v : Int) * 128 := by omega
        have e2 : ((x % 128 : Nat) : Int) = (x : Int) % 128 := by omega
        rw [e1, e2] at this; exact this)
      have d1 : decide ((v : Int) ≥ 144115188075855872) = false := by simp; omega
      have f3 : IntKind.u64.wrap ((v : Int) * 128) = ((v * 128 : Nat) : Int) := by rw [IntWalk.u64_in _ (by omega)]; omega
      have i3 : (0 : Int) ≤ (x : Int) := by omega
      have i4 : ¬ (x : Int) < 128 := by omega
      clear hm' hvb hv57 ht hnx
      by_cases hk0 : 0 < k
      · obtain ⟨x0, z0, hx0⟩ := hb0 hk0
        have d2 : ((x0 : Int) == 128) = false := by simp; omega
        have d3 : decide ((k : Int) > 0) = true := by simp; omega
        clear hb0
        go_wp2_with fail
        go_roundg (H.length - (k + 1))
        case measure => have := HG.out; omega
        case rel => exact ⟨k + 1, rfl, by omega, by rw [HF2.out, HNX.out], by go_num, rfl⟩
      · have d3 : decide ((k : Int) > 0) = false := by simp; omega
        clear hb0
        go_wp2_with fail
        go_roundg (H.length - (k + 1))
        case measure => have := HG.out; omega
        case rel => exact ⟨k + 1, rfl, by omega, by rw [HF2.out, HNX.out], by go_num, rfl⟩
    · have hkH : k = H.length := by omega
      have hm' := HM.out
      have e1 : (H ++ [m % 128] ++ rest)[k] = m % 128 := by
        rw [List.getElem_append_left (by simp; omega), List.getElem_append_right (by omega)]; simp [hkH]
      rw [e1] at c0
      have hvH : valB (H.take k) = m / 128 := by rw [hkH, List.take_length, HVAL.out]
      rw [hvH]
      have hb0 : 0 < k → ∃ x0 : Nat, w.cell? ⟨b, off, none⟩ = some (.int .u8 (x0 : Int)) ∧ 128 < x0 := fun h0 => by
        obtain ⟨b', off', e', _, c'⟩ := HR.out.byte (k := 0) (by simp; omega)
        injection e' with e'; injection e' with e1 e2; subst e1 e2
        have h00 : 0 < H.length := by omega
        obtain ⟨_, _, a3⟩ := HAT.out 0 h00
        refine ⟨H[0], ?_, a3 rfl⟩
        have e2 : (H ++ [m % 128] ++ rest)[0]'(by simp; omega) = H[0] := by rw [List.getElem_append_left (by simp), List.getElem_append_left h00]
        rw [e2] at c'; exact c'
      obtain ⟨v, hv⟩ : ∃ v, m / 128 = v := ⟨_, rfl⟩
      obtain ⟨x, hx⟩ : ∃ x, m % 128 = x := ⟨_, rfl⟩
      have hmv : m = v * 128 + x := by omega
      have hv57 : v < 144115188075855872 := by omega
      have hvb : v * 128 + 127 < 18446744073709551616 := by omega
      have hx1 : x < 128 := by omega
      rw [hx] at c0
      rw [hv]
      have f1 := u8_andNot x (by omega)
      have hxx : x % 128 = x := by omega
      rw [hxx] at f1
      have HF2 : Hid (bits .or .u64 ((v : Int) * 128) (x : Int) = (m : Int)) := Lib.hid (by
        have := u64_or v x (by omega) hvb
        have e1 : ((v * 128 : Nat) : Int) = (v : Int) * 128 := by omega
        rw [e1] at this; rw [this, hmv])
      have d1 : decide ((v : Int) ≥ 144115188075855872) = false := by simp; omega
      have f3 : IntKind.u64.wrap ((v : Int) * 128) = ((v * 128 : Nat) : Int) := by rw [IntWalk.u64_in _ (by omega)]; omega
      have i3 : (0 : Int) ≤ (x : Int) := by omega
      have i4 : (x : Int) < 128 := by omega
      have hrl : rest.length = n - (k + 1) := by omega
      have hrest : ∀ (A' : Option Addr) (c' : Nat), (A' = some ⟨b, off + (k + 1), none⟩ ∨ rest.length = 0) → Calls Tryz.prog 167 #[.slice A' (n - (k + 1)) c'] w fun e w' => ∃ v, e = .returned v ∧ w'.ownsRow w.heap.size 5 1 v (n - (k + 1)) (bys rest) ∧ Below w.heap.size w w' := fun A' c' hA => by
        refine cloneB_any A' (n - (k + 1)) c' rest w hrl ⟨by rw [bys_len]; omega, fun h0 => ?_⟩ (by omega)
        rcases hA with rfl | hA
        · refine ⟨b, off + (k + 1), rfl, hb, fun j hj => ?_⟩
          have hjl : j < rest.length := by omega
          obtain ⟨b', off', e', _, c'⟩ := HR.out.byte (k := k + 1 + j) (by simp; omega)
          injection e' with e'; injection e' with e1 e2; subst e1 e2
          rw [bys_at hjl]
          have e2 : (H ++ [m % 128] ++ rest)[k + 1 + j]'(by simp; omega) = rest[j] := by
            rw [List.getElem_append_right (by simp; omega)]
            congr 1; simp; omega
          rw [e2] at c'
          rw [← Nat.add_assoc off (k + 1) j] at c'; exact c'
        · omega
      have HRS := Lib.hid hrest; have HRL := Lib.hid hrl
      clear hm' hvb hv57 hvH hkH hv hx hmv e1 hrest hrl hxx hx1
      by_cases hk0 : 0 < k
      · obtain ⟨x0, z0, hx0⟩ := hb0 hk0
        have d2 : ((x0 : Int) == 128) = false := by simp; omega
        have d3 : decide ((k : Int) > 0) = true := by simp; omega
        clear hb0
        go_wp2_with fail
        · refine (HRS.out _ _ (.inr (by have := HRL.out; omega))).mono ?_; rintro e w' ⟨v', rfl, hown, hbel⟩
          have HO := Lib.hid hown; have HBB := Lib.hid hbel
          clear hown hbel
          go_wp2_with fail
          go_ret3
          exact ⟨⟨_, by simp only [HF2.out]; rfl, by rw [HRL.out]; exact HO.out⟩, HBB.out⟩
        · refine (HRS.out _ _ (.inl rfl)).mono ?_; rintro e w' ⟨v', rfl, hown, hbel⟩
          have HO := Lib.hid hown; have HBB := Lib.hid hbel
          clear hown hbel
          go_wp2_with fail
          go_ret3
          exact ⟨⟨_, by simp only [HF2.out]; rfl, by rw [HRL.out]; exact HO.out⟩, HBB.out⟩
      · have d3 : decide ((k : Int) > 0) = false := by simp; omega
        clear hb0
        go_wp2_with fail
        · refine (HRS.out _ _ (.inr (by have := HRL.out; omega))).mono ?_; rintro e w' ⟨v', rfl, hown, hbel⟩
          have HO := Lib.hid hown; have HBB := Lib.hid hbel
          clear hown hbel
          go_wp2_with fail
          go_ret3
          exact ⟨⟨_, by simp only [HF2.out]; rfl, by rw [HRL.out]; exact HO.out⟩, HBB.out⟩
        · refine (HRS.out _ _ (.inl rfl)).mono ?_; rintro e w' ⟨v', rfl, hown, hbel⟩
          have HO := Lib.hid hown; have HBB := Lib.hid hbel
          clear hown hbel
          go_wp2_with fail
          go_ret3
          exact ⟨⟨_, by simp only [HF2.out]; rfl, by rw [HRL.out]; exact HO.out⟩, HBB.out⟩
end Go.Proofs.YtbjjgnaojoaoiaaGreat
/- The reader of an account's bytes: one number, a day, an amount, money. -/
namespace Go.Proofs.YtbjjgnaojoaoiaaGreat
open Go.RowKit Go
set_option linter.unusedVariables false
set_option linter.unusedSimpArgs false

/-- Of old blocks one alone has turned. -/
structure Eat (w : World) (gr : Nat) (w' : World) : Prop where
  os : w'.os = w.os
  tape : w'.tape = w.tape
  output : w'.output = w.output
  size : w.heap.size ≤ w'.heap.size
  far : ∀ k, k < w.heap.size → k ≠ gr → w'.heap[k]? = w.heap[k]?
theorem Eat.refl (w : World) (gr : Nat) : Eat w gr w := ⟨rfl, rfl, rfl, Nat.le_refl _, fun _ _ _ => rfl⟩
theorem Eat.trans {w w1 w2 : World} {gr : Nat} (h : Eat w gr w1) (k : Eat w1 gr w2) : Eat w gr w2 :=
  ⟨k.os.trans h.os, k.tape.trans h.tape, k.output.trans h.output, Nat.le_trans h.size k.size, fun i hi hn => (k.far i (Nat.lt_of_lt_of_le hi h.size) hn).trans (h.far i hi hn)⟩
theorem Eat.below {w w1 : World} {gr : Nat} (h : Below w.heap.size w w1) : Eat w gr w1 := ⟨h.os, h.tape, h.output, h.size, fun k hk _ => h.block k hk⟩
theorem Eat.set {w w1 : World} {gr : Nat} (h : Eat w gr w1) (i : Nat) (u : Value) : Eat w gr (w1.setCell ⟨gr, i, none⟩ u) :=
  ⟨h.os, h.tape, h.output, by simpa [World.setCell] using h.size, fun k hk hn => (Below.heap_setCell w1 ⟨gr, i, none⟩ u k hn).trans (h.far k hk hn)⟩
theorem Eat.drew {w w1 : World} {gr : Nat} (h : Eat w gr w1) : Eat w gr w1.drew := ⟨h.os, h.tape, h.output, h.size, h.far⟩
theorem Eat.blk {w w1 : World} {gr k : Nat} {o : Obj} (h : Eat w gr w1) (hk : w.heap[k]? = some o) (hn : k ≠ gr) : w1.heap[k]? = some o := (h.far k (blk_lt hk) hn).trans hk
theorem Eat.bel {w w0 w1 : World} {B gr : Nat} (h : Eat w0 gr w1) (hb : Below B w w0) (hB : B ≤ gr) (hB2 : B ≤ w0.heap.size) : Below B w w1 :=
  ⟨h.os.trans hb.os, h.tape.trans hb.tape, h.output.trans hb.output, Nat.le_trans hb.size h.size, fun k hk => (h.far k (by omega) (by omega)).trans (hb.block k hk)⟩
/-- Numbers that are left to be read. -/
structure RdrV (w : World) (B gr : Nat) (bs : List Nat) (A : Option Addr) (c : Nat) : Prop where
  hg : w.heap[gr]? = some (.cells #[.slice A bs.length c] 129 (0, 0))
  hB : B ≤ gr
  cap : bs.length ≤ c
  len : bs.length ≤ 10000000
  row : w.ownsRow B 5 1 (.slice A bs.length c) bs.length (bys bs)
def RdrN (w : World) (B gr : Nat) (xs : List Int) : Prop := ∃ A c, RdrV w B gr (numsB xs) A c
theorem RdrV.below {w w' : World} {B gr c : Nat} {bs : List Nat} {A : Option Addr} (h : RdrV w B gr bs A c) (hb : Below w.heap.size w w') : RdrV w' B gr bs A c :=
  ⟨blk_below h.hg hb (blk_lt h.hg), h.hB, h.cap, h.len, own_below h.row hb⟩
theorem RdrN.below {w w' : World} {B gr : Nat} {xs : List Int} (h : RdrN w B gr xs) (hb : Below w.heap.size w w') : RdrN w' B gr xs := let ⟨A, c, h⟩ := h; ⟨A, c, h.below hb⟩
theorem RdrN.lt {w : World} {B gr : Nat} {xs : List Int} (h : RdrN w B gr xs) : gr < w.heap.size := let ⟨_, _, h⟩ := h; blk_lt h.hg
theorem RdrN.le {w : World} {B gr : Nat} {xs : List Int} (h : RdrN w B gr xs) : B ≤ gr := let ⟨_, _, h⟩ := h; h.hB
/-- Another block is put: the reader stands as it was. -/
theorem RdrN.far {w w' : World} {B gr gm : Nat} {us : List (Nat × Value)} {cs : Array Value} {t : TypeId} {fr : Nat × Nat} {xs : List Int} (h : RdrN w B gr xs) (hp : Puts w gm us w') (hm : w.heap[gm]? = some (.cells cs t fr)) (h1 : t ≠ 129) (h2 : t ≠ 5) : RdrN w' B gr xs := by
  obtain ⟨A, c, h⟩ := h
  refine ⟨A, c, (hp.far gr (blk_lt h.hg) (ne_of_type' h.hg hm (Ne.symm h1))).trans h.hg, h.hB, h.cap, h.len, own_apart h.row hp (fun e => ?_)⟩
  obtain ⟨_, cs', hcs⟩ := own_block_type h.row e
  exact ne_of_type' hm hcs h2 rfl
theorem rdr_end {w w1 : World} {B gr : Nat} {bs rest : List Nat} {A : Option Addr} {c : Nat} {v : Value} (h : RdrV w B gr bs A c) (hb : Below w.heap.size w w1) (ho : w1.ownsRow w.heap.size 5 1 v rest.length (bys rest)) (hl : rest.length ≤ 10000000) :
    (∃ A c, RdrV (w1.setCell ⟨gr, 0, none⟩ v) B gr rest A c) ∧ Eat w gr (w1.setCell ⟨gr, 0, none⟩ v) := by
  have hg1 := blk_below h.hg hb (blk_lt h.hg)
  have hBw : B ≤ w.heap.size := Nat.le_trans h.hB (Nat.le_of_lt (blk_lt h.hg))
  have p : Puts w1 gr [(0, v)] (w1.setCell ⟨gr, 0, none⟩ v) := (Puts.start (Below.refl _ _)).set 0 v
  obtain ⟨A', c', rfl, _⟩ := own_form ho
  refine ⟨⟨A', c', p.near _ _ _ hg1, h.hB, ?_, hl, ?_⟩, (Eat.below hb).set 0 _⟩
  · rcases ho.2 with ⟨h1, h2⟩ | ⟨g, cap, cur, h1, _, _, h4, _⟩
    · omega
    · injection h1 with _ _ h1; omega
  · refine own_apart (own_mono ho hBw) p (fun e => ?_)
    obtain ⟨_, cs, hcs⟩ := own_block_type ho e
    exact ne_of_type' hg1 hcs (by decide) rfl
set_option maxHeartbeats 3200000 in
set_option maxRecDepth 100000 in
theorem rnumber_any (B gr : Nat) (lo hi x : Int) (xs : List Int) (w : World) (h : RdrN w B gr (x :: xs)) (h0 : 0 ≤ lo) (h1 : lo ≤ x ∧ x ≤ hi) (h2 : hi ≤ 4611686018427387904) :
    Calls Tryz.prog 81 #[.pointer (some ⟨gr, 0, none⟩), .int .i64 lo, .int .i64 hi] w fun e w' => e = .returned (.int .i64 x) ∧ RdrN w' B gr xs ∧ Eat w gr w' := by
  obtain ⟨A, c, h⟩ := h
  obtain ⟨m, hm⟩ : ∃ m : Nat, x = (m : Int) := ⟨x.toNat, by omega⟩
  subst hm
  obtain ⟨bs, hbs⟩ : ∃ bs, numsB ((m : Int) :: xs) = bs := ⟨_, rfl⟩
  rw [hbs] at h
  have hb2 : bs = numB m ++ numsB xs := by rw [← hbs, numsB_cons]; simp
  have hl : (numB m ++ numsB xs).length = bs.length := by rw [hb2]
  have hrl : (numsB xs).length ≤ 10000000 := by have := h.len; rw [List.length_append] at hl; omega
  have HT := Lib.hid (takeNumber_any A bs.length c m (numsB xs) w (by omega) hl (by rw [← hb2]; exact Rd.of_own h.row) h.len h.cap)
  have HE := Lib.hid (fun v w1 hb ho => rdr_end (v := v) (w1 := w1) (rest := numsB xs) h hb ho hrl)
  obtain ⟨c0, c1⟩ : w.cell? ⟨gr, 0, none⟩ = some (.slice A bs.length c) ∧ w.frozen? ⟨gr, 0, none⟩ = false := ⟨(blk_cell h.hg 0).trans rfl, blk_free h.hg 0⟩
  have hgl := blk_lt h.hg
  have hw1 : IntKind.u64.wrap hi = hi := IntWalk.u64_in _ (by omega)
  have hw2 : IntKind.i64.wrap (m : Int) = (m : Int) := IntWalk.i64_in _ (by omega)
  have d1 : decide ((m : Int) > hi) = false := by simp; omega
  have d2 : decide ((m : Int) < lo) = false := by simp; omega
  have HG := Lib.hid h.hg
  clear h0 h1 h2 hb2 hl hrl hbs h
  go_enter Tryz.func81, Tryz.ntmps81
  go_wp2_with fail
  refine HT.out.mono ?_; rintro e w1 ⟨⟨v, rfl, ho⟩, hb⟩
  have hg1 := blk_below HG.out hb hgl
  obtain ⟨e0, e1⟩ : w1.cell? ⟨gr, 0, none⟩ = some (.slice A bs.length c) ∧ w1.frozen? ⟨gr, 0, none⟩ = false := ⟨(blk_cell hg1 0).trans rfl, blk_free hg1 0⟩
  have hgl1 := blk_lt hg1
  have HEE := Lib.hid (HE.out v w1 hb ho)
  obtain ⟨A1, k1, rfl, _⟩ := own_form ho
  clear ho hb hg1 c0 c1 HE
  go_wp2_with fail
  go_ret
  obtain ⟨⟨A2, c2, hv⟩, he⟩ := HEE.out
  exact ⟨rfl, ⟨A2, c2, hv⟩, he⟩
theorem rday_any (B gr : Nat) (x : Int) (xs : List Int) (w : World) (h : RdrN w B gr (x :: xs)) (h1 : 0 ≤ x ∧ x ≤ 3652058) :
    Calls Tryz.prog 80 #[.pointer (some ⟨gr, 0, none⟩)] w fun e w' => e = .returned (.int .i64 x) ∧ RdrN w' B gr xs ∧ Eat w gr w' := by
  have H := Lib.hid (rnumber_any B gr 0 3652058 x xs w h (by decide) h1 (by decide))
  clear h h1
  go_enter Tryz.func80, Tryz.ntmps80
  go_wp2_with fail
  refine H.out.mono ?_; rintro e w1 ⟨rfl, hr, he⟩
  go_wp2_with fail
  go_ret
  exact ⟨rfl, hr, he⟩
theorem ramount_any (B gr : Nat) (x : Int) (xs : List Int) (w : World) (h : RdrN w B gr (x :: xs)) (h1 : 0 ≤ x ∧ x ≤ 4611686018427387904) :
    Calls Tryz.prog 82 #[.pointer (some ⟨gr, 0, none⟩)] w fun e w' => e = .returned (.int .i64 x) ∧ RdrN w' B gr xs ∧ Eat w gr w' := by
  have H := Lib.hid (rnumber_any B gr 0 4611686018427387904 x xs w h (by decide) h1 (by decide))
  clear h h1
  go_enter Tryz.func82, Tryz.ntmps82
  go_wp2_with fail
  refine H.out.mono ?_; rintro e w1 ⟨rfl, hr, he⟩
  go_wp2_with fail
  go_ret
  exact ⟨rfl, hr, he⟩
theorem rmoney_any (B gr : Nat) (x : Int) (xs : List Int) (w : World) (h : RdrN w B gr (x :: xs)) (h1 : 0 ≤ x ∧ x ≤ 1125899906842624) :
    Calls Tryz.prog 136 #[.pointer (some ⟨gr, 0, none⟩)] w fun e w' => e = .returned (.int .i64 x) ∧ RdrN w' B gr xs ∧ Eat w gr w' := by
  have H := Lib.hid (rnumber_any B gr 0 1125899906842624 x xs w h (by decide) h1 (by decide))
  clear h h1
  go_enter Tryz.func136, Tryz.ntmps136
  go_wp2_with fail
  refine H.out.mono ?_; rintro e w1 ⟨rfl, hr, he⟩
  go_wp2_with fail
  go_ret
  exact ⟨rfl, hr, he⟩
end Go.Proofs.YtbjjgnaojoaoiaaGreat
/- The reader of an account's bytes: a period. -/
namespace Go.Proofs.YtbjjgnaojoaoiaaGreat
open Go.RowKit Go
set_option linter.unusedVariables false
set_option linter.unusedSimpArgs false

/-- What a saved period's numbers may be. -/
structure PerN (p : Per) : Prop where
  per : 1 ≤ p.ret.per ∧ p.ret.per ≤ 99999
  due : 0 ≤ p.ret.due ∧ p.ret.due ≤ 3652058
  filed : 0 ≤ p.ret.filed ∧ p.ret.filed ≤ 3652058
  inc : 0 ≤ p.ret.inc ∧ p.ret.inc ≤ 1125899906842624
  wh : 0 ≤ p.ret.wh ∧ p.ret.wh ≤ 1125899906842624
  o0 : 0 ≤ p.o0 ∧ p.o0 ≤ 4611686018427387904
  o1 : 0 ≤ p.o1 ∧ p.o1 ≤ 4611686018427387904
  o2 : 0 ≤ p.o2 ∧ p.o2 ≤ 4611686018427387904
  since : 0 ≤ p.since ∧ p.since ≤ 3652058
  done : 0 ≤ p.done ∧ p.done ≤ 4611686018427387904
  acc : 0 ≤ p.acc ∧ p.acc ≤ 4611686018427387904
theorem PerOk.nums {day bp : Int} {p : Per} (h : PerOk day bp p) : PerN p := by
  obtain ⟨r1, r2, r3, r4, r5⟩ := retB_yes h.ret
  exact ⟨r1, dayB_yes r2, dayB_yes r3, mny_yes r4, mny_yes r5, h.b0, h.b1, h.b2, h.since0, h.done, h.acc⟩
@[reducible] def pzO : Obj := .cells #[.int .i64 0, .int .i64 0, .int .i64 0, .int .i64 0, .int .i64 0, .int .i64 0, .int .i64 0, .int .i64 0, .int .i64 0, .int .i64 0, .int .i64 0] 92
@[reducible] def p11O (a0 a1 a2 a3 a4 a5 a6 a7 a8 a9 a10 : Int) : Obj := .cells #[.int .i64 a0, .int .i64 a1, .int .i64 a2, .int .i64 a3, .int .i64 a4, .int .i64 a5, .int .i64 a6, .int .i64 a7, .int .i64 a8, .int .i64 a9, .int .i64 a10] 92 (0, 0)
/-- The reader, and a period that is being read, beside the one that will be handed back. -/
structure PS (w : World) (B gr g2 : Nat) (xs : List Int) (o : Obj) : Prop where
  r : RdrN w B gr xs
  b2 : w.heap[g2]? = some (p11O 0 0 0 0 0 0 0 0 0 0 0)
  b3 : w.heap[g2 + 1]? = some o
theorem PS.eat {w w' : World} {B gr g2 : Nat} {xs ys : List Int} {o : Obj} (h : PS w B gr g2 xs o) (hg : gr < g2) (he : Eat w gr w') (hr : RdrN w' B gr ys) : PS w' B gr g2 ys o :=
  ⟨hr, he.blk h.b2 (by omega), he.blk h.b3 (by omega)⟩
theorem PS.put {w : World} {B gr g2 : Nat} {xs : List Int} {cs : Array Value} (h : PS w B gr g2 xs (.cells cs 92 (0, 0))) (i : Nat) (u : Value) : PS (w.setCell ⟨g2 + 1, i, none⟩ u) B gr g2 xs (.cells (cs.setIfInBounds i u) 92 (0, 0)) := by
  have p : Puts w (g2 + 1) [(i, u)] (w.setCell ⟨g2 + 1, i, none⟩ u) := (Puts.start (Below.refl _ _)).set i u
  exact ⟨h.r.far p h.b3 (by decide) (by decide), (p.far g2 (blk_lt h.b2) (by omega)).trans h.b2, p.near _ _ _ h.b3⟩
theorem PS.cells {w : World} {B gr g2 : Nat} {xs : List Int} {a0 a1 a2 a3 a4 a5 a6 a7 a8 a9 a10 : Int} (h : PS w B gr g2 xs (p11O a0 a1 a2 a3 a4 a5 a6 a7 a8 a9 a10)) :
    (w.cell? ⟨g2 + 1, 0, none⟩ = some (.int .i64 a0) ∧ w.cell? ⟨g2 + 1, 1, none⟩ = some (.int .i64 a1) ∧ w.cell? ⟨g2 + 1, 2, none⟩ = some (.int .i64 a2) ∧ w.cell? ⟨g2 + 1, 3, none⟩ = some (.int .i64 a3) ∧ w.cell? ⟨g2 + 1, 4, none⟩ = some (.int .i64 a4) ∧
     w.cell? ⟨g2 + 1, 5, none⟩ = some (.int .i64 a5) ∧ w.cell? ⟨g2 + 1, 6, none⟩ = some (.int .i64 a6) ∧ w.cell? ⟨g2 + 1, 7, none⟩ = some (.int .i64 a7) ∧ w.cell? ⟨g2 + 1, 8, none⟩ = some (.int .i64 a8) ∧ w.cell? ⟨g2 + 1, 9, none⟩ = some (.int .i64 a9) ∧ w.cell? ⟨g2 + 1, 10, none⟩ = some (.int .i64 a10)) ∧
    (∀ i, w.frozen? ⟨g2 + 1, i, none⟩ = false) ∧ g2 + 1 < w.heap.size ∧ (∀ i, i < 11 → w.cell? ⟨g2, i, none⟩ = some (.int .i64 0)) ∧ (∀ i, w.frozen? ⟨g2, i, none⟩ = false) :=
  ⟨⟨blk_cell h.b3 0, blk_cell h.b3 1, blk_cell h.b3 2, blk_cell h.b3 3, blk_cell h.b3 4, blk_cell h.b3 5, blk_cell h.b3 6, blk_cell h.b3 7, blk_cell h.b3 8, blk_cell h.b3 9, blk_cell h.b3 10⟩, fun i => blk_free h.b3 i, blk_lt h.b3,
   fun i hi => by
    refine (blk_cell h.b2 i).trans ?_
    have : i = 0 ∨ i = 1 ∨ i = 2 ∨ i = 3 ∨ i = 4 ∨ i = 5 ∨ i = 6 ∨ i = 7 ∨ i = 8 ∨ i = 9 ∨ i = 10 := by omega
    rcases this with rfl | rfl | rfl | rfl | rfl | rfl | rfl | rfl | rfl | rfl | rfl <;> rfl, fun i => blk_free h.b2 i⟩
/-- A fresh block is put. -/
theorem Eat.setN {w w1 : World} {gr gb : Nat} (h : Eat w gr w1) (hb : w.heap.size ≤ gb) (i : Nat) (u : Value) : Eat w gr (w1.setCell ⟨gb, i, none⟩ u) :=
  ⟨h.os, h.tape, h.output, by simpa [World.setCell] using h.size, fun k hk hn => (Below.heap_setCell w1 ⟨gb, i, none⟩ u k (by show k ≠ gb; omega)).trans (h.far k hk hn)⟩
@[reducible] def put11 (w : World) (g : Nat) (a0 a1 a2 a3 a4 a5 a6 a7 a8 a9 a10 : Int) : World := ((((((((((w.setCell ⟨g, 0, none⟩ (.int .i64 a0)).setCell ⟨g, 1, none⟩ (.int .i64 a1)).setCell ⟨g, 2, none⟩ (.int .i64 a2)).setCell ⟨g, 3, none⟩ (.int .i64 a3)).setCell ⟨g, 4, none⟩ (.int .i64 a4)).setCell ⟨g, 5, none⟩ (.int .i64 a5)).setCell ⟨g, 6, none⟩ (.int .i64 a6)).setCell ⟨g, 7, none⟩ (.int .i64 a7)).setCell ⟨g, 8, none⟩ (.int .i64 a8)).setCell ⟨g, 9, none⟩ (.int .i64 a9)).setCell ⟨g, 10, none⟩ (.int .i64 a10)
theorem put11_at {w : World} {g : Nat} (h : w.heap[g]? = some (p11O 0 0 0 0 0 0 0 0 0 0 0)) (a0 a1 a2 a3 a4 a5 a6 a7 a8 a9 a10 : Int) : (put11 w g a0 a1 a2 a3 a4 a5 a6 a7 a8 a9 a10).heap[g]? = some (p11O a0 a1 a2 a3 a4 a5 a6 a7 a8 a9 a10) := by
  have h0 : (w.setCell ⟨g, 0, none⟩ (.int .i64 a0)).heap[g]? = some (p11O a0 0 0 0 0 0 0 0 0 0 0) := blk_set h 0 (.int .i64 a0)
  have h1 : ((w.setCell ⟨g, 0, none⟩ (.int .i64 a0)).setCell ⟨g, 1, none⟩ (.int .i64 a1)).heap[g]? = some (p11O a0 a1 0 0 0 0 0 0 0 0 0) := blk_set h0 1 (.int .i64 a1)
  have h2 : (((w.setCell ⟨g, 0, none⟩ (.int .i64 a0)).setCell ⟨g, 1, none⟩ (.int .i64 a1)).setCell ⟨g, 2, none⟩ (.int .i64 a2)).heap[g]? = some (p11O a0 a1 a2 0 0 0 0 0 0 0 0) := blk_set h1 2 (.int .i64 a2)
  have h3 : ((((w.setCell ⟨g, 0, none⟩ (.int .i64 a0)).setCell ⟨g, 1, none⟩ (.int .i64 a1)).setCell ⟨g, 2, none⟩ (.int .i64 a2)).setCell ⟨g, 3, none⟩ (.int .i64 a3)).heap[g]? = some (p11O a0 a1 a2 a3 0 0 0 0 0 0 0) := blk_set h2 3 (.int .i64 a3)
  have h4 : (((((w.setCell ⟨g, 0, none⟩ (.int .i64 a0)).setCell ⟨g, 1, none⟩ (.int .i64 a1)).setCell ⟨g, 2, none⟩ (.int .i64 a2)).setCell ⟨g, 3, none⟩ (.int .i64 a3)).setCell ⟨g, 4, none⟩ (.int .i64 a4)).heap[g]? = some (p11O a0 a1 a2 a3 a4 0 0 0 0 0 0) := blk_set h3 4 (.int .i64 a4)
  have h5 : ((((((w.setCell ⟨g, 0, none⟩ (.int .i64 a0)).setCell ⟨g, 1, none⟩ (.int .i64 a1)).setCell ⟨g, 2, none⟩ (.int .i64 a2)).setCell ⟨g, 3, none⟩ (.int .i64 a3)).setCell ⟨g, 4, none⟩ (.int .i64 a4)).setCell ⟨g, 5, none⟩ (.int .i64 a5)).heap[g]? = some (p11O a0 a1 a2 a3 a4 a5 0 0 0 0 0) := blk_set h4 5 (.int .i64 a5)
  have h6 : (((((((w.setCell ⟨g, 0, none⟩ (.int .i64 a0)).setCell ⟨g, 1, none⟩ (.int .i64 a1)).setCell ⟨g, 2, none⟩ (.int .i64 a2)).setCell ⟨g, 3, none⟩ (.int .i64 a3)).setCell ⟨g, 4, none⟩ (.int .i64 a4)).setCell ⟨g, 5, none⟩ (.int .i64 a5)).setCell ⟨g, 6, none⟩ (.int .i64 a6)).heap[g]? = some (p11O a0 a1 a2 a3 a4 a5 a6 0 0 0 0) := blk_set h5 6 (.int .i64 a6)
  have h7 : ((((((((w.setCell ⟨g, 0, none⟩ (.int .i64 a0)).setCell ⟨g, 1, none⟩ (.int .i64 a1)).setCell ⟨g, 2, none⟩ (.int .i64 a2)).setCell ⟨g, 3, none⟩ (.int .i64 a3)).setCell ⟨g, 4, none⟩ (.int .i64 a4)).setCell ⟨g, 5, none⟩ (.int .i64 a5)).setCell ⟨g, 6, none⟩ (.int .i64 a6)).setCell ⟨g, 7, none⟩ (.int .i64 a7)).heap[g]? = some (p11O a0 a1 a2 a3 a4 a5 a6 a7 0 0 0) := blk_set h6 7 (.int .i64 a7)
  have h8 : (((((((((w.setCell ⟨g, 0, none⟩ (.int .i64 a0)).setCell ⟨g, 1, none⟩ (.int .i64 a1)).setCell ⟨g, 2, none⟩ (.int .i64 a2)).setCell ⟨g, 3, none⟩ (.int .i64 a3)).setCell ⟨g, 4, none⟩ (.int .i64 a4)).setCell ⟨g, 5, none⟩ (.int .i64 a5)).setCell ⟨g, 6, none⟩ (.int .i64 a6)).setCell ⟨g, 7, none⟩ (.int .i64 a7)).setCell ⟨g, 8, none⟩ (.int .i64 a8)).heap[g]? = some (p11O a0 a1 a2 a3 a4 a5 a6 a7 a8 0 0) := blk_set h7 8 (.int .i64 a8)
  have h9 : ((((((((((w.setCell ⟨g, 0, none⟩ (.int .i64 a0)).setCell ⟨g, 1, none⟩ (.int .i64 a1)).setCell ⟨g, 2, none⟩ (.int .i64 a2)).setCell ⟨g, 3, none⟩ (.int .i64 a3)).setCell ⟨g, 4, none⟩ (.int .i64 a4)).setCell ⟨g, 5, none⟩ (.int .i64 a5)).setCell ⟨g, 6, none⟩ (.int .i64 a6)).setCell ⟨g, 7, none⟩ (.int .i64 a7)).setCell ⟨g, 8, none⟩ (.int .i64 a8)).setCell ⟨g, 9, none⟩ (.int .i64 a9)).heap[g]? = some (p11O a0 a1 a2 a3 a4 a5 a6 a7 a8 a9 0) := blk_set h8 9 (.int .i64 a9)
  have h10 : (((((((((((w.setCell ⟨g, 0, none⟩ (.int .i64 a0)).setCell ⟨g, 1, none⟩ (.int .i64 a1)).setCell ⟨g, 2, none⟩ (.int .i64 a2)).setCell ⟨g, 3, none⟩ (.int .i64 a3)).setCell ⟨g, 4, none⟩ (.int .i64 a4)).setCell ⟨g, 5, none⟩ (.int .i64 a5)).setCell ⟨g, 6, none⟩ (.int .i64 a6)).setCell ⟨g, 7, none⟩ (.int .i64 a7)).setCell ⟨g, 8, none⟩ (.int .i64 a8)).setCell ⟨g, 9, none⟩ (.int .i64 a9)).setCell ⟨g, 10, none⟩ (.int .i64 a10)).heap[g]? = some (p11O a0 a1 a2 a3 a4 a5 a6 a7 a8 a9 a10) := blk_set h9 10 (.int .i64 a10)
  exact h10
theorem ps_last {w : World} {B gr g2 : Nat} {xs : List Int} {o : Obj} (h : PS w B gr g2 xs o) (a0 a1 a2 a3 a4 a5 a6 a7 a8 a9 a10 : Int) : (put11 w g2 a0 a1 a2 a3 a4 a5 a6 a7 a8 a9 a10).heap[g2]? = some (p11O a0 a1 a2 a3 a4 a5 a6 a7 a8 a9 a10) ∧ RdrN (put11 w g2 a0 a1 a2 a3 a4 a5 a6 a7 a8 a9 a10) B gr xs := by
  have p : Puts w g2 _ (put11 w g2 a0 a1 a2 a3 a4 a5 a6 a7 a8 a9 a10) :=
    (((((((((((Puts.start (Below.refl w.heap.size w)).set 0 (.int .i64 a0)).set 1 (.int .i64 a1)).set 2 (.int .i64 a2)).set 3 (.int .i64 a3)).set 4 (.int .i64 a4)).set 5 (.int .i64 a5)).set 6 (.int .i64 a6)).set 7 (.int .i64 a7)).set 8 (.int .i64 a8)).set 9 (.int .i64 a9)).set 10 (.int .i64 a10)
  have h1 := put11_at h.b2 a0 a1 a2 a3 a4 a5 a6 a7 a8 a9 a10
  exact ⟨h1, h.r.far p h.b2 (by decide) (by decide)⟩
theorem eat_last {w w1 : World} {gr g : Nat} (h : Eat w gr w1) (hg : w.heap.size ≤ g) (a0 a1 a2 a3 a4 a5 a6 a7 a8 a9 a10 : Int) : Eat w gr (put11 w1 g a0 a1 a2 a3 a4 a5 a6 a7 a8 a9 a10) :=
  ((((((((((h.setN hg 0 _).setN hg 1 _).setN hg 2 _).setN hg 3 _).setN hg 4 _).setN hg 5 _).setN hg 6 _).setN hg 7 _).setN hg 8 _).setN hg 9 _).setN hg 10 _
set_option maxHeartbeats 6400000 in
set_option maxRecDepth 100000 in
theorem rperiod_any (B gr : Nat) (p : Per) (xs : List Int) (w : World) (h : RdrN w B gr (perN p ++ xs)) (hp : PerN p) :
    Calls Tryz.prog 83 #[.pointer (some ⟨gr, 0, none⟩)] w fun e w' => e = .returned (perV p) ∧ RdrN w' B gr xs ∧ Eat w gr w' := by
  obtain ⟨q0, q1, q2, q3, q4, q5, q6, q7, q8, q9, q10⟩ := hp
  have hgl := h.lt
  have hb0 : Below w.heap.size w ((w.alloc pzO).alloc pzO) := ((Below.refl _ _).alloc (Nat.le_refl _) _).alloc (by simp) _
  have HE0 := Lib.hid (Eat.below (gr := gr) hb0)
  have HS0 : Hid (PS ((w.alloc pzO).alloc pzO) B gr w.heap.size (perN p ++ xs) (p11O 0 0 0 0 0 0 0 0 0 0 0)) := Lib.hid ⟨h.below hb0, blk_alloc (blk_new w _ rfl) _, blk_new _ _ (by simp)⟩
  have H1 := Lib.hid (rnumber_any B gr 1 99999 p.ret.per ([p.ret.due, p.ret.filed, p.ret.inc, p.ret.wh, p.o0, p.o1, p.o2, p.since, p.done, p.acc] ++ xs) ((w.alloc pzO).alloc pzO) HS0.out.r (by decide) q0 (by decide))
  obtain ⟨g2, hg2⟩ : ∃ g2, w.heap.size = g2 := ⟨_, rfl⟩
  have hgg : gr < g2 := by omega
  have n1 : gr ≠ g2 := by omega
  have n2 : gr ≠ g2 + 1 := by omega
  clear h hb0 q0
  go_enter Tryz.func83, Tryz.ntmps83
  go_wp2_with fail
  refine H1.out.mono ?_; rintro e w1 ⟨rfl, hr1, he1⟩
  rw [hg2] at HS0
  have hs1 := HS0.out.eat hgg he1 hr1
  have H2 := Lib.hid (rday_any B gr p.ret.due _ w1 hr1 q1)
  have HE1 := Lib.hid (HE0.out.trans he1)
  have HS1 := Lib.hid hs1
  clear hr1 he1 hs1 H1
  go_wp2_with fail
  refine H2.out.mono ?_; rintro e w2 ⟨rfl, hr2, he2⟩
  have H3 := Lib.hid (rday_any B gr p.ret.filed _ w2 hr2 q2)
  have HS2 := Lib.hid (HS1.out.eat hgg he2 hr2)
  have HE2 := Lib.hid (HE1.out.trans he2)
  clear hr2 he2 H2
  go_wp2_with fail
  refine H3.out.mono ?_; rintro e w3 ⟨rfl, hr3, he3⟩
  have H4 := Lib.hid (rmoney_any B gr p.ret.inc _ w3 hr3 q3)
  have HS3 := Lib.hid (HS2.out.eat hgg he3 hr3)
  have HE3 := Lib.hid (HE2.out.trans he3)
  clear hr3 he3 H3
  go_wp2_with fail
  refine H4.out.mono ?_; rintro e w4 ⟨rfl, hr4, he4⟩
  have H5 := Lib.hid (rmoney_any B gr p.ret.wh _ w4 hr4 q4)
  have HS4 := Lib.hid (HS3.out.eat hgg he4 hr4)
  have HE4 := Lib.hid (HE3.out.trans he4)
  clear hr4 he4 H4
  go_wp2_with fail
  refine H5.out.mono ?_; rintro e w5 ⟨rfl, hr5, he5⟩
  have hs5 := HS4.out.eat hgg he5 hr5
  obtain ⟨⟨c0, c1, c2, c3, c4, c5, c6, c7, c8, c9, c10⟩, cf, cl, cz, czf⟩ := hs5.cells
  have hs6 : PS (((((w5.setCell ⟨g2 + 1, 0, none⟩ (.int .i64 p.ret.per)).setCell ⟨g2 + 1, 1, none⟩ (.int .i64 p.ret.due)).setCell ⟨g2 + 1, 2, none⟩ (.int .i64 p.ret.filed)).setCell ⟨g2 + 1, 3, none⟩ (.int .i64 p.ret.inc)).setCell ⟨g2 + 1, 4, none⟩ (.int .i64 p.ret.wh)) B gr g2 ([p.o0, p.o1, p.o2, p.since, p.done, p.acc] ++ xs) (p11O p.ret.per p.ret.due p.ret.filed p.ret.inc p.ret.wh 0 0 0 0 0 0) := ((((hs5.put 0 _).put 1 _).put 2 _).put 3 _).put 4 _
  have he6 : Eat w gr (((((w5.setCell ⟨g2 + 1, 0, none⟩ (.int .i64 p.ret.per)).setCell ⟨g2 + 1, 1, none⟩ (.int .i64 p.ret.due)).setCell ⟨g2 + 1, 2, none⟩ (.int .i64 p.ret.filed)).setCell ⟨g2 + 1, 3, none⟩ (.int .i64 p.ret.inc)).setCell ⟨g2 + 1, 4, none⟩ (.int .i64 p.ret.wh)) := ((((((HE4.out.trans he5).setN (by omega) 0 _).setN (by omega) 1 _).setN (by omega) 2 _).setN (by omega) 3 _).setN (by omega) 4 _)
  have HS6 := Lib.hid hs6
  have HE6 := Lib.hid he6
  clear hr5 he5 H5 hs5 cz czf hs6 he6 HS0 HS1 HS2 HS3 HS4 HE0 HE1 HE2 HE3 HE4
  go_wp2_with fail
  refine wp_loop_rounds 4 ?_
  rw [rounds_succ]
  go_wp2_with fail
  clear c0 c1 c2 c3 c4 c5 c6 c7 c8 c9 c10 cf cl
  generalize ((((w5.setCell ⟨g2 + 1, 0, none⟩ (.int .i64 p.ret.per)).setCell ⟨g2 + 1, 1, none⟩ (.int .i64 p.ret.due)).setCell ⟨g2 + 1, 2, none⟩ (.int .i64 p.ret.filed)).setCell ⟨g2 + 1, 3, none⟩ (.int .i64 p.ret.inc)).setCell ⟨g2 + 1, 4, none⟩ (.int .i64 p.ret.wh) = X6 at *
  have H6 := Lib.hid (ramount_any B gr p.o0 _ X6 HS6.out.r q5)
  refine H6.out.mono ?_; rintro e w7 ⟨rfl, hr7, he7⟩
  have hs7 := HS6.out.eat hgg he7 hr7
  obtain ⟨⟨c0, c1, c2, c3, c4, c5, c6, c7, c8, c9, c10⟩, cf, cl, cz, czf⟩ := hs7.cells
  have HS8 : Hid (PS (w7.setCell ⟨g2 + 1, 5, none⟩ (.int .i64 p.o0)) B gr g2 ([p.o1, p.o2, p.since, p.done, p.acc] ++ xs) (p11O p.ret.per p.ret.due p.ret.filed p.ret.inc p.ret.wh p.o0 0 0 0 0 0)) := Lib.hid (hs7.put 5 _)
  have HE8 : Hid (Eat w gr (w7.setCell ⟨g2 + 1, 5, none⟩ (.int .i64 p.o0))) := Lib.hid ((HE6.out.trans he7).setN (by omega) 5 _)
  clear hr7 he7 H6 hs7 cz czf HS6 HE6
  go_wp2_with fail
  rw [rounds_succ]
  go_wp2_with fail
  clear c0 c1 c2 c3 c4 c5 c6 c7 c8 c9 c10 cf cl
  generalize w7.setCell ⟨g2 + 1, 5, none⟩ (.int .i64 p.o0) = X8 at *
  have H7 := Lib.hid (ramount_any B gr p.o1 _ X8 HS8.out.r q6)
  refine H7.out.mono ?_; rintro e w9 ⟨rfl, hr9, he9⟩
  have hs9 := HS8.out.eat hgg he9 hr9
  obtain ⟨⟨c0, c1, c2, c3, c4, c5, c6, c7, c8, c9, c10⟩, cf, cl, cz, czf⟩ := hs9.cells
  have HS10 : Hid (PS (w9.setCell ⟨g2 + 1, 6, none⟩ (.int .i64 p.o1)) B gr g2 ([p.o2, p.since, p.done, p.acc] ++ xs) (p11O p.ret.per p.ret.due p.ret.filed p.ret.inc p.ret.wh p.o0 p.o1 0 0 0 0)) := Lib.hid (hs9.put 6 _)
  have HE10 : Hid (Eat w gr (w9.setCell ⟨g2 + 1, 6, none⟩ (.int .i64 p.o1))) := Lib.hid ((HE8.out.trans he9).setN (by omega) 6 _)
  clear hr9 he9 H7 hs9 cz czf HS8 HE8
  go_wp2_with fail
  rw [rounds_succ]
  go_wp2_with fail
  clear c0 c1 c2 c3 c4 c5 c6 c7 c8 c9 c10 cf cl
  generalize w9.setCell ⟨g2 + 1, 6, none⟩ (.int .i64 p.o1) = X10 at *
  have H8 := Lib.hid (ramount_any B gr p.o2 _ X10 HS10.out.r q7)
  refine H8.out.mono ?_; rintro e w11 ⟨rfl, hr11, he11⟩
  have hs11 := HS10.out.eat hgg he11 hr11
  obtain ⟨⟨c0, c1, c2, c3, c4, c5, c6, c7, c8, c9, c10⟩, cf, cl, cz, czf⟩ := hs11.cells
  have HS12 : Hid (PS (w11.setCell ⟨g2 + 1, 7, none⟩ (.int .i64 p.o2)) B gr g2 ([p.since, p.done, p.acc] ++ xs) (p11O p.ret.per p.ret.due p.ret.filed p.ret.inc p.ret.wh p.o0 p.o1 p.o2 0 0 0)) := Lib.hid (hs11.put 7 _)
  have HE12 : Hid (Eat w gr (w11.setCell ⟨g2 + 1, 7, none⟩ (.int .i64 p.o2))) := Lib.hid ((HE10.out.trans he11).setN (by omega) 7 _)
  clear hr11 he11 H8 hs11 cz czf HS10 HE10
  go_wp2_with fail
  rw [rounds_succ]
  go_wp2_with fail
  clear c0 c1 c2 c3 c4 c5 c6 c7 c8 c9 c10 cf cl
  generalize w11.setCell ⟨g2 + 1, 7, none⟩ (.int .i64 p.o2) = X12 at *
  have H9 := Lib.hid (rday_any B gr p.since _ X12 HS12.out.r q8)
  refine H9.out.mono ?_; rintro e w13 ⟨rfl, hr13, he13⟩
  have H10 := Lib.hid (ramount_any B gr p.done _ w13 hr13 q9)
  have HS13 := Lib.hid (HS12.out.eat hgg he13 hr13)
  have HE13 := Lib.hid (HE12.out.trans he13)
  clear hr13 he13 H9 HS12 HE12
  go_wp2_with fail
  refine H10.out.mono ?_; rintro e w14 ⟨rfl, hr14, he14⟩
  have H11 := Lib.hid (ramount_any B gr p.acc _ w14 hr14 q10)
  have HS14 := Lib.hid (HS13.out.eat hgg he14 hr14)
  have HE14 := Lib.hid (HE13.out.trans he14)
  clear hr14 he14 H10 HS13 HE13
  go_wp2_with fail
  refine H11.out.mono ?_; rintro e w15 ⟨rfl, hr15, he15⟩
  have hs15 := HS14.out.eat hgg he15 hr15
  obtain ⟨⟨c0, c1, c2, c3, c4, c5, c6, c7, c8, c9, c10⟩, cf, cl, cz, czf⟩ := hs15.cells
  have z0 := cz 0 (by omega); have z1 := cz 1 (by omega); have z2 := cz 2 (by omega); have z3 := cz 3 (by omega); have z4 := cz 4 (by omega); have z5 := cz 5 (by omega); have z6 := cz 6 (by omega); have z7 := cz 7 (by omega); have z8 := cz 8 (by omega); have z9 := cz 9 (by omega); have z10 := cz 10 (by omega)
  have cl2 : g2 < w15.heap.size := by omega
  have HS15 := Lib.hid hs15
  have HE15 := Lib.hid (HE14.out.trans he15)
  clear hr15 he15 H11 hs15 cz HS14 HE14
  go_wp2_with fail
  have HPL := ps_last (((HS15.out.put 8 (.int .i64 p.since)).put 9 (.int .i64 p.done)).put 10 (.int .i64 p.acc)) p.ret.per p.ret.due p.ret.filed p.ret.inc p.ret.wh p.o0 p.o1 p.o2 p.since p.done p.acc
  have HEL := eat_last (((HE15.out.setN (gb := g2 + 1) (by omega) 8 (.int .i64 p.since)).setN (gb := g2 + 1) (by omega) 9 (.int .i64 p.done)).setN (gb := g2 + 1) (by omega) 10 (.int .i64 p.acc)) (show w.heap.size ≤ g2 by omega) p.ret.per p.ret.due p.ret.filed p.ret.inc p.ret.wh p.o0 p.o1 p.o2 p.since p.done p.acc
  refine bodyPost_ret (results_row_1 rfl _ _ g2 92 #[.int .i64 p.ret.per, .int .i64 p.ret.due, .int .i64 p.ret.filed, .int .i64 p.ret.inc, .int .i64 p.ret.wh, .int .i64 p.o0, .int .i64 p.o1, .int .i64 p.o2, .int .i64 p.since, .int .i64 p.done, .int .i64 p.acc] (0, 0) _ rfl HPL.1 Tryz.underlying92 rfl (by kernel_rfl)) rfl ⟨rfl, HPL.2, HEL⟩
end Go.Proofs.YtbjjgnaojoaoiaaGreat
/- The reader of an account's bytes: a payment. -/
namespace Go.Proofs.YtbjjgnaojoaoiaaGreat
open Go.RowKit Go
set_option linter.unusedVariables false
set_option linter.unusedSimpArgs false

@[reducible] def pm6O (id day amt : Int) (v : Value) (rest : Int) (rev : Bool) : Obj := .cells #[.int .i64 id, .int .i64 day, .int .i64 amt, v, .int .i64 rest, .bool rev] 110 (0, 0)
/-- The reader, and a payment that is being read, beside the one that will be handed back. -/
structure QS (w : World) (B B2 gr g2 g3 : Nat) (xs : List Int) (id day amt : Int) (v : Value) (rest : Int) (rev : Bool) (n : Nat) (its : List Dq) : Prop where
  r : RdrN w B gr xs
  b2 : w.heap[g2]? = some (pm6O 0 0 0 (.slice none 0 0) 0 false)
  b3 : w.heap[g3]? = some (pm6O id day amt v rest rev)
  row : w.ownsRow B2 58 4 v n (itCs its)
theorem RdrN.keep {w w' : World} {B gr : Nat} {xs : List Int} (h : RdrN w B gr xs) (hk : ∀ (k : Nat) (cs : Array Value) (t : TypeId) (fr : Nat × Nat), w.heap[k]? = some (.cells cs t fr) → (t = 129 ∨ t = 5) → w'.heap[k]? = some (.cells cs t fr)) : RdrN w' B gr xs := by
  obtain ⟨A, c, h⟩ := h
  exact ⟨A, c, hk _ _ _ _ h.hg (.inl rfl), h.hB, h.cap, h.len, own_keep h.row fun b cs hb => (hk _ _ _ _ hb (.inr rfl)).trans hb.symm⟩
theorem QS.eat {w w' : World} {B B2 gr g2 g3 : Nat} {xs ys : List Int} {id day amt : Int} {v : Value} {rest : Int} {rev : Bool} {n : Nat} {its : List Dq} (h : QS w B B2 gr g2 g3 xs id day amt v rest rev n its) (he : Eat w gr w') (hr : RdrN w' B gr ys) :
    QS w' B B2 gr g2 g3 ys id day amt v rest rev n its := by
  obtain ⟨A, c, hv⟩ := h.r
  refine ⟨hr, he.blk h.b2 (ne_of_type' h.b2 hv.hg (by decide)), he.blk h.b3 (ne_of_type' h.b3 hv.hg (by decide)), own_keep h.row fun b cs hb => ?_⟩
  exact he.far b (blk_lt hb) (ne_of_type' hb hv.hg (by decide))
theorem QS.put {w : World} {B B2 gr g2 g3 : Nat} {xs : List Int} {id day amt : Int} {v : Value} {rest : Int} {rev : Bool} {n : Nat} {its : List Dq} (h : QS w B B2 gr g2 g3 xs id day amt v rest rev n its) (hne : g2 ≠ g3) {i : Nat} {u : Value} :
    RdrN (w.setCell ⟨g3, i, none⟩ u) B gr xs ∧ (w.setCell ⟨g3, i, none⟩ u).heap[g2]? = some (pm6O 0 0 0 (.slice none 0 0) 0 false) ∧ (w.setCell ⟨g3, i, none⟩ u).heap[g3]? = some (.cells (#[.int .i64 id, .int .i64 day, .int .i64 amt, v, .int .i64 rest, .bool rev].setIfInBounds i u) 110 (0, 0)) ∧ (w.setCell ⟨g3, i, none⟩ u).ownsRow B2 58 4 v n (itCs its) := by
  have p : Puts w g3 [(i, u)] (w.setCell ⟨g3, i, none⟩ u) := (Puts.start (Below.refl _ _)).set i u
  refine ⟨h.r.far p h.b3 (by decide) (by decide), (p.far g2 (blk_lt h.b2) hne).trans h.b2, p.near _ _ _ h.b3, own_apart h.row p (fun e => ?_)⟩
  obtain ⟨_, cs, hcs⟩ := own_block_type h.row e
  exact ne_of_type' h.b3 hcs (by decide) rfl
/-- An item was appended. -/
theorem qs_app {w w5 : World} {B B2 gr g2 g3 : Nat} {xs : List Int} {id day amt : Int} {v v5 : Value} {n m : Nat} {its its' : List Dq} {o : Obj} (h : QS w B B2 gr g2 g3 xs id day amt v 0 false n its) (hne : g2 ≠ g3) (hB2 : B2 ≤ w.heap.size)
    (hg : (w.alloc o).grownBy w5 v.ownBlock) (hO : w5.ownsRow B2 58 4 v5 m (itCs its')) :
    QS (w5.setCell ⟨g3, 3, none⟩ v5) B B2 gr g2 g3 xs id day amt v5 0 false m its' ∧ (∀ k, k < B2 → k ≠ g3 → (w5.setCell ⟨g3, 3, none⟩ v5).heap[k]? = w.heap[k]?) ∧ ((w5.setCell ⟨g3, 3, none⟩ v5).os = w.os ∧ (w5.setCell ⟨g3, 3, none⟩ v5).tape = w.tape ∧ (w5.setCell ⟨g3, 3, none⟩ v5).output = w.output ∧ w.heap.size ≤ (w5.setCell ⟨g3, 3, none⟩ v5).heap.size) := by
  have hrow := h.row.alloc o
  have keep : ∀ {k : Nat} {cs : Array Value} {t : TypeId} {fr : Nat × Nat}, w.heap[k]? = some (.cells cs t fr) → t ≠ 58 → w5.heap[k]? = some (.cells cs t fr) := fun hk ht => own_far_type hrow hg (blk_alloc hk o) ht
  have hb3 := keep h.b3 (by decide)
  have hr5 : RdrN w5 B gr xs := h.r.keep fun k cs t fr hk ht => keep hk (by rcases ht with rfl | rfl <;> decide)
  have p : Puts w5 g3 [(3, v5)] (w5.setCell ⟨g3, 3, none⟩ v5) := (Puts.start (Below.refl _ _)).set 3 v5
  have hb : Below B2 w w5 := ((Below.refl B2 w).alloc hB2 o).grown hg (by simp; omega) (fun k hk => (own_block_type h.row hk).1)
  refine ⟨⟨hr5.far p hb3 (by decide) (by decide), (p.far g2 (blk_lt (keep h.b2 (by decide))) hne).trans (keep h.b2 (by decide)), p.near _ _ _ hb3, own_apart hO p (fun e => ?_)⟩, fun k hk hn => ?_, p.os.trans hb.os, p.tape.trans hb.tape, p.output.trans hb.output, Nat.le_trans hb.size p.size⟩
  · obtain ⟨_, cs, hcs⟩ := own_block_type hO e
    exact ne_of_type' hb3 hcs (by decide) rfl
  · exact (p.far k (Nat.lt_of_lt_of_le hk (Nat.le_trans hB2 hb.size)) hn).trans (hb.block k hk)
theorem rday_enter (u : Value) (w : World) : (callFunc 80 #[u]).run Tryz.prog w = .ok (.enter 80 #[u]) w := by kernel_rfl
theorem rnumber_enter (u : Value) (a b : Int) (w : World) : (callFunc 81 #[u, .int .i64 a, .int .i64 b]).run Tryz.prog w = .ok (.enter 81 #[u, .int .i64 a, .int .i64 b]) w := by kernel_rfl
/-- What a saved payment's numbers may be. -/
structure PmNum (m : Pm) : Prop where
  id : 1 ≤ m.id ∧ m.id ≤ 1099511627776
  day : 0 ≤ m.day ∧ m.day ≤ 3652058
  amt : 1 ≤ m.amt ∧ m.amt ≤ 1125899906842624
  len : m.parts.length ≤ 60
  its : ∀ x ∈ m.parts, okI x = true ∧ 1 ≤ x.opn
  rest : 0 ≤ m.rest ∧ m.rest ≤ 4611686018427387904
theorem Eat.app {w0 w w1 w2 : World} {B B2 gr g2 g3 : Nat} {xs : List Int} {id day amt : Int} {v : Value} {n : Nat} {its : List Dq} (h : Eat w gr w1) (h0 : Eat w0 gr w) (hg : w0.heap.size = B2)
    (hq : QS w2 B B2 gr g2 g3 xs id day amt v 0 false n its ∧ (∀ k, k < B2 → k ≠ g3 → w2.heap[k]? = w1.heap[k]?) ∧ (w2.os = w1.os ∧ w2.tape = w1.tape ∧ w2.output = w1.output ∧ w1.heap.size ≤ w2.heap.size)) (h3 : B2 ≤ g3) : Eat w0 gr w2 := by
  obtain ⟨_, h1, h2, h4, h5, h6⟩ := hq
  have e := h0.trans h
  exact ⟨h2.trans e.os, h4.trans e.tape, h5.trans e.output, Nat.le_trans e.size h6, fun k hk hn => (h1 k (by omega) (by omega)).trans (e.far k hk hn)⟩
theorem qs_last {w : World} {B B2 gr g2 g3 : Nat} {xs : List Int} {id day amt : Int} {v : Value} {rest : Int} {rev0 rev : Bool} {n : Nat} {its : List Dq} (h : QS w B B2 gr g2 g3 xs id day amt v rest rev0 n its) (hne : g2 ≠ g3) :
    (((((((w.setCell ⟨g3, 5, none⟩ (.bool rev)).setCell ⟨g2, 0, none⟩ (.int .i64 id)).setCell ⟨g2, 1, none⟩ (.int .i64 day)).setCell ⟨g2, 2, none⟩ (.int .i64 amt)).setCell ⟨g2, 3, none⟩ v).setCell ⟨g2, 4, none⟩ (.int .i64 rest)).setCell ⟨g2, 5, none⟩ (.bool rev)).heap[g2]? = some (pm6O id day amt v rest rev) ∧
    RdrN (((((((w.setCell ⟨g3, 5, none⟩ (.bool rev)).setCell ⟨g2, 0, none⟩ (.int .i64 id)).setCell ⟨g2, 1, none⟩ (.int .i64 day)).setCell ⟨g2, 2, none⟩ (.int .i64 amt)).setCell ⟨g2, 3, none⟩ v).setCell ⟨g2, 4, none⟩ (.int .i64 rest)).setCell ⟨g2, 5, none⟩ (.bool rev)) B gr xs ∧
    (((((((w.setCell ⟨g3, 5, none⟩ (.bool rev)).setCell ⟨g2, 0, none⟩ (.int .i64 id)).setCell ⟨g2, 1, none⟩ (.int .i64 day)).setCell ⟨g2, 2, none⟩ (.int .i64 amt)).setCell ⟨g2, 3, none⟩ v).setCell ⟨g2, 4, none⟩ (.int .i64 rest)).setCell ⟨g2, 5, none⟩ (.bool rev)).ownsRow B2 58 4 v n (itCs its) := by
  obtain ⟨p1, p2, p3, p4⟩ := h.put hne (i := 5) (u := .bool rev)
  generalize w.setCell ⟨g3, 5, none⟩ (.bool rev) = Y at *
  have p : Puts Y g2 [(0, .int .i64 id), (1, .int .i64 day), (2, .int .i64 amt), (3, v), (4, .int .i64 rest), (5, .bool rev)] ((((((Y.setCell ⟨g2, 0, none⟩ (.int .i64 id)).setCell ⟨g2, 1, none⟩ (.int .i64 day)).setCell ⟨g2, 2, none⟩ (.int .i64 amt)).setCell ⟨g2, 3, none⟩ v).setCell ⟨g2, 4, none⟩ (.int .i64 rest)).setCell ⟨g2, 5, none⟩ (.bool rev)) :=
    ((((((Puts.start (Below.refl _ _)).set 0 _).set 1 _).set 2 _).set 3 _).set 4 _).set 5 _
  refine ⟨set6_blk p2 _ _ _ _ _ _, p1.far p p2 (by decide) (by decide), own_apart p4 p (fun e => ?_)⟩
  obtain ⟨_, cs, hcs⟩ := own_block_type p4 e
  exact ne_of_type' p2 hcs (by decide) rfl
set_option maxHeartbeats 6400000 in
set_option maxRecDepth 100000 in
theorem rpayment_any (B gr : Nat) (m : Pm) (xs : List Int) (w : World) (h : RdrN w B gr (pmN m ++ xs)) (hp : PmNum m) :
    Calls Tryz.prog 86 #[.pointer (some ⟨gr, 0, none⟩)] w fun e w' => (∃ v, e = .returned (.agg #[.int .i64 m.id, .int .i64 m.day, .int .i64 m.amt, v, .int .i64 m.rest, .bool m.rev]) ∧ w'.ownsRow w.heap.size 58 4 v m.parts.length (itCs m.parts)) ∧ RdrN w' B gr xs ∧ Eat w gr w' := by
  obtain ⟨i0, hi, hz0, hz1, hz2⟩ := info_parts info_it
  have HI := Lib.hid hi
  obtain ⟨q0, q1, q2, q3, q4, q5⟩ := hp
  have hgl := h.lt
  have hN : pmN m ++ xs = m.id :: m.day :: m.amt :: (m.parts.length : Int) :: (m.parts.flatMap itN ++ ([m.rest, revN m.rev] ++ xs)) := by unfold pmN; simp
  rw [hN] at h
  have hb0 : Below w.heap.size w (w.alloc (pm6O 0 0 0 (.slice none 0 0) 0 false)) := (Below.refl _ _).alloc (Nat.le_refl _) _
  have HE0 := Lib.hid (Eat.below (gr := gr) hb0)
  have HB20 : Hid ((w.alloc (pm6O 0 0 0 (.slice none 0 0) 0 false)).heap[w.heap.size]? = some (pm6O 0 0 0 (.slice none 0 0) 0 false)) := Lib.hid (blk_new w _ rfl)
  have H1 := Lib.hid (rnumber_any B gr 1 1099511627776 m.id _ _ (h.below hb0) (by decide) q0 (by decide))
  obtain ⟨g2, hg2⟩ : ∃ g2, w.heap.size = g2 := ⟨_, rfl⟩
  have hgg : gr < g2 := by omega
  rw [hg2] at HB20
  have HGG := Lib.hid hg2
  have n1 : gr ≠ g2 := by omega
  clear h hb0 q0 hN hi
  go_enter Tryz.func86, Tryz.ntmps86
  go_wp2_with fail
  refine H1.out.mono ?_; rintro e w1 ⟨rfl, hr1, he1⟩
  have H2 := Lib.hid (rday_any B gr m.day _ w1 hr1 q1)
  have HE1 := Lib.hid (HE0.out.trans he1)
  have HB21 := Lib.hid (he1.blk HB20.out (by omega))
  clear hr1 he1 H1
  go_wp2_with fail
  refine H2.out.mono ?_; rintro e w2 ⟨rfl, hr2, he2⟩
  have H3 := Lib.hid (rnumber_any B gr 1 1125899906842624 m.amt _ w2 hr2 (by decide) q2 (by decide))
  have HE2 := Lib.hid (HE1.out.trans he2)
  have HB22 := Lib.hid (he2.blk HB21.out (by omega))
  clear hr2 he2 H2
  go_wp2_with fail
  refine H3.out.mono ?_; rintro e w3 ⟨rfl, hr3, he3⟩
  obtain ⟨np, hnp⟩ : ∃ np, m.parts.length = np := ⟨_, rfl⟩
  rw [hnp] at q3 hr3
  have HNP := Lib.hid hnp
  have hbz : Below w3.heap.size w3 (w3.alloc (pm6O m.id m.day m.amt (.slice none 0 0) 0 false)) := (Below.refl _ _).alloc (Nat.le_refl _) _
  have h4r := hr3.below hbz
  have H4 := Lib.hid (rnumber_any B gr 0 60 (np : Int) _ _ h4r (by decide) (by omega) (by decide))
  have hb23 := he3.blk HB22.out (by omega)
  have he3' := HE2.out.trans he3
  have h23 : g2 < w3.heap.size := blk_lt hb23
  have HQ4 := Lib.hid (show QS (w3.alloc (pm6O m.id m.day m.amt (.slice none 0 0) 0 false)) B g2 gr g2 w3.heap.size _ m.id m.day m.amt (.slice none 0 0) 0 false 0 [] from ⟨h4r, blk_alloc hb23 _, blk_new w3 _ rfl, World.ownsRow_nil _ _ _ _⟩)
  have HE4 := Lib.hid (he3'.trans (Eat.below hbz))
  obtain ⟨g3, hg3⟩ : ∃ g3, w3.heap.size = g3 := ⟨_, rfl⟩
  rw [hg3] at HQ4 h23
  have n2 : g2 ≠ g3 := by omega
  have n3 : gr ≠ g3 := by omega
  have HG3 := Lib.hid hg3
  clear hr3 he3 H3 hnp hbz h4r hb23 he3'
  go_wp2_with fail
  refine H4.out.mono ?_; rintro e w5 ⟨rfl, hr5, he5⟩
  have HQ5 := Lib.hid (HQ4.out.eat he5 hr5)
  have HE5 := Lib.hid (HE4.out.trans he5)
  clear hr5 he5 H4
  go_wp2_with fail
  clear hg3 hg2
  go_loopg [13] np (fun gh v13 wr => ∃ (j : Nat) (v : Value), gh = np - j ∧ j ≤ np ∧ v13 = .int .i64 j ∧ QS wr B g2 gr g2 g3 ((m.parts.drop j).flatMap itN ++ ([m.rest, revN m.rev] ++ xs)) m.id m.day m.amt v 0 false j (m.parts.take j) ∧ Eat w gr wr)
  case atStart => exact ⟨0, _, rfl, by omega, rfl, HQ5.out, HE5.out⟩
  case round =>
    obtain ⟨j, v, hgj, hj, rfl, hq, he⟩ := hrel
    have HGJ := Lib.hid hgj; have HQ := Lib.hid hq; have HE := Lib.hid he
    by_cases hlt : j < np
    · have hjl : j < m.parts.length := by have := HNP.out; omega
      have hd : m.parts.drop j = m.parts[j] :: m.parts.drop (j + 1) := List.drop_eq_getElem_cons hjl
      obtain ⟨hx1, hx2⟩ := q4 _ (List.getElem_mem hjl)
      have hxb := okI_yes hx1
      have HTK : Hid (itCs (m.parts.take (j + 1)) = itCs (m.parts.take j) ++ [.int .i64 m.parts[j].due, .int .i64 m.parts[j].kind, .int .i64 m.parts[j].per, .int .i64 m.parts[j].opn]) := Lib.hid (by
        rw [List.take_succ_eq_append_getElem hjl, itCs_app]; rfl)
      rw [hd] at hq
      generalize m.parts[j] = x at *
      have hr := hq.r
      have hr' : RdrN wr B gr (x.due :: x.kind :: x.per :: x.opn :: ((m.parts.drop (j + 1)).flatMap itN ++ ([m.rest, revN m.rev] ++ xs))) := by
        have : (x :: m.parts.drop (j + 1)).flatMap itN ++ ([m.rest, revN m.rev] ++ xs) = x.due :: x.kind :: x.per :: x.opn :: ((m.parts.drop (j + 1)).flatMap itN ++ ([m.rest, revN m.rev] ++ xs)) := by simp [itN]
        rw [← this]; exact hr
      have hqx : QS wr.drew B g2 gr g2 g3 (x.due :: x.kind :: x.per :: x.opn :: ((m.parts.drop (j + 1)).flatMap itN ++ ([m.rest, revN m.rev] ++ xs))) m.id m.day m.amt v 0 false j (m.parts.take j) := hq.eat (Eat.refl wr gr).drew (hr'.below (Below.refl _ _).drew)
      obtain ⟨ys, hys⟩ : ∃ ys, (m.parts.drop (j + 1)).flatMap itN ++ ([m.rest, revN m.rev] ++ xs) = ys := ⟨_, rfl⟩
      rw [hys] at hqx
      have HYS := Lib.hid hys; have HQX := Lib.hid hqx
      have hrlt := hqx.r.lt
      have h3lt : g3 < wr.heap.size := blk_lt hqx.b3
      obtain ⟨c0, c1, c2, c3, c4, c5, c6⟩ := cells6U (w := wr) hqx.b3
      obtain ⟨A0, k0, rfl, _⟩ := own_form hqx.row
      have HHD := Lib.hid (rday_any B gr x.due _ wr.drew hqx.r (by omega))
      have i1 : (0 : Int) ≤ (j : Int) := by omega
      have i2 : (j : Int) < (np : Int) := by omega
      have HRA := Lib.hid True.intro; have HRB := Lib.hid True.intro; have HRC := Lib.hid True.intro; have HQD := Lib.hid True.intro
      clear hgj hq he hr hr' hqx hd hys hx1
      go_wp2_with fail
      go_region_law (first
        | (refine step_call1R rfl 80 (.tmp 17) 127 rfl (.pointer (some ⟨gr, 0, none⟩)) rfl (rday_enter _) ?_
           refine HHD.out.mono ?_; rintro e wa ⟨rfl, hra, hea⟩; refine ⟨_, rfl, ?_⟩
           have hqa := HQX.out.eat hea hra
           obtain ⟨a0, a1, a2, a3, a4, a5, a6⟩ := cells6U hqa.b3
           have a3lt : g3 < wa.heap.size := blk_lt hqa.b3
           have HRA := Lib.hid hqa; have HEA := Lib.hid ((Eat.refl wr gr).drew.trans hea)
           clear hra hea hqa)
        | (refine step_call3R rfl 81 (.tmp 19) (.const (.int .i64 0)) (.const (.int .i64 2)) 127 2 2 rfl (.pointer (some ⟨gr, 0, none⟩)) (.int .i64 0) (.int .i64 2) rfl rfl rfl (rnumber_enter _ _ _) ?_
           refine (rnumber_any B gr 0 2 x.kind _ _ HRA.out.r (by decide) (by omega) (by decide)).mono ?_; rintro e wb ⟨rfl, hrb, heb⟩; refine ⟨_, rfl, ?_⟩
           have hqb := HRA.out.eat heb hrb
           obtain ⟨b0, b1, b2, b3, b4, b5, b6⟩ := cells6U hqb.b3
           have b3lt : g3 < wb.heap.size := blk_lt hqb.b3
           have HRB := Lib.hid hqb; have HEB := Lib.hid (HEA.out.trans heb)
           clear hrb heb hqb)
        | (refine step_call3R rfl 81 (.tmp 21) (.const (.int .i64 1)) (.const (.int .i64 99999)) 127 2 2 rfl (.pointer (some ⟨gr, 0, none⟩)) (.int .i64 1) (.int .i64 99999) rfl rfl rfl (rnumber_enter _ _ _) ?_
           refine (rnumber_any B gr 1 99999 x.per _ _ HRB.out.r (by decide) (by omega) (by decide)).mono ?_; rintro e wd ⟨rfl, hrc, hec⟩; refine ⟨_, rfl, ?_⟩
           have hqc := HRB.out.eat hec hrc
           obtain ⟨d0, d1, d2, d3, d4, d5, d6⟩ := cells6U hqc.b3
           have d3lt : g3 < wd.heap.size := blk_lt hqc.b3
           have HRC := Lib.hid hqc; have HEC := Lib.hid (HEB.out.trans hec)
           clear hrc hec hqc)
        | (refine step_call3R rfl 81 (.tmp 23) (.const (.int .i64 1)) (.const (.int .i64 4611686018427387904)) 127 2 2 rfl (.pointer (some ⟨gr, 0, none⟩)) (.int .i64 1) (.int .i64 4611686018427387904) rfl rfl rfl (rnumber_enter _ _ _) ?_
           refine (rnumber_any B gr 1 4611686018427387904 x.opn _ _ HRC.out.r (by decide) (by omega) (by decide)).mono ?_; rintro e we ⟨rfl, hrd, hed⟩; refine ⟨_, rfl, ?_⟩
           have hqd := HRC.out.eat hed hrd
           obtain ⟨e0, e1, e2, e3, e4, e5, e6⟩ := cells6U hqd.b3
           have e3lt : g3 < we.heap.size := blk_lt hqd.b3
           have HQD := Lib.hid hqd; have HED := Lib.hid (HEC.out.trans hed)
           clear hrd hed hqd)
        | (refine step_app rfl (.tmp 16) (.tmp 26) 41 rfl g2 58 i0 _ 4 32 Tryz.underlying41 HI.out hz0 hz1 hz2 rfl (by omega) (.slice A0 j k0) j (itCs (m.parts.take j)) rfl (HQD.out.row.alloc _) _ (some ⟨_, 0, none⟩) 1 1 _ rfl (Rd.new (cs := #[.int .i64 x.due, .int .i64 x.kind, .int .i64 x.per, .int .i64 x.opn]) (t := 58) rfl rfl) (by intro u hu; simp at hu; rcases hu with rfl | rfl | rfl | rfl <;> rfl) (by unfold maxLen; omega) (by omega) (by have := blk_lt HQD.out.b2; simp; omega) ?_
           intro v5 w5 hO hgr hat
           rw [← HTK.out] at hO
           have hE := qs_app HQD.out n2 (by have := blk_lt HQD.out.b2; omega) hgr hO
           have hb35 := own_far_type (HQD.out.row.alloc _) hgr (blk_alloc HQD.out.b3 _) (by decide)
           obtain ⟨f0, f1, f2, f3, f4, f5, f6⟩ := cells6U hb35
           have f3lt := blk_lt hb35
           obtain ⟨A5, k5, rfl, _⟩ := own_form hO
           have HEND := Lib.hid hE
           clear hO hgr hat hE hb35))
      all_goals go_wp2_with fail
      all_goals go_roundg (np - (j + 1))
      all_goals first
        | exact ⟨j + 1, _, rfl, by omega, by go_num, by rw [HYS.out]; exact HEND.out.1, HED.out.app HE.out HGG.out HEND.out (by omega)⟩
        | (have := HGJ.out; omega)
    · have hjn : j = np := by omega
      subst hjn
      have hd : m.parts.drop j = [] := List.drop_of_length_le (by rw [HNP.out]; exact Nat.le_refl _)
      have ht : m.parts.take j = m.parts := List.take_of_length_le (by rw [HNP.out]; exact Nat.le_refl _)
      rw [hd, ht] at hq
      have hr : RdrN wr B gr (m.rest :: revN m.rev :: xs) := hq.r
      have HA := Lib.hid (ramount_any B gr m.rest _ wr hr q5)
      have HQ6 := Lib.hid hq
      clear hgj hq he hd ht hr HQ
      go_wp2_with fail
      refine HA.out.mono ?_; rintro e w6 ⟨rfl, hr6, he6⟩
      have hq6 := HQ6.out.eat he6 hr6
      obtain ⟨c0, c1, c2, c3, c4, c5, c6⟩ := cells6U hq6.b3
      have c3l := blk_lt hq6.b3
      obtain ⟨p1, p2, p3, p4⟩ := hq6.put n2 (i := 4) (u := .int .i64 m.rest)
      have HQ7 : Hid (QS (w6.setCell ⟨g3, 4, none⟩ (.int .i64 m.rest)) B g2 gr g2 g3 (revN m.rev :: xs) m.id m.day m.amt v m.rest false j m.parts) := Lib.hid ⟨p1, p2, p3, p4⟩
      have HE7 : Hid (Eat w gr (w6.setCell ⟨g3, 4, none⟩ (.int .i64 m.rest))) := Lib.hid ((HE.out.trans he6).setN (by have := HGG.out; omega) 4 _)
      have H8 := Lib.hid (rnumber_any B gr 0 1 (revN m.rev) xs _ p1 (by decide) (by unfold revN; split <;> omega) (by decide))
      clear hr6 he6 hq6 p1 p2 p3 p4 HQ6 HA
      go_wp2_with fail
      clear c0 c1 c2 c3 c4 c5 c6 c3l
      generalize w6.setCell ⟨g3, 4, none⟩ (.int .i64 m.rest) = X7 at *
      refine H8.out.mono ?_; rintro e w8 ⟨rfl, hr8, he8⟩
      have hq8 := HQ7.out.eat he8 hr8
      obtain ⟨c0, c1, c2, c3, c4, c5, c6⟩ := cells6U hq8.b3
      have c3l := blk_lt hq8.b3
      obtain ⟨y0, y1, y2, y3, y4, y5, y6⟩ := cells6U hq8.b2
      have y3l := blk_lt hq8.b2
      have hrev : (revN m.rev == 1) = m.rev := by unfold revN; cases m.rev <;> rfl
      have HQ8 := Lib.hid hq8
      have HE8 := Lib.hid (HE7.out.trans he8)
      obtain ⟨A9, k9, rfl, _⟩ := own_form hq8.row
      clear hr8 he8 H8 hq8 HQ7 HE7
      go_wp2_with fail
      have HF := qs_last (rev := m.rev) HQ8.out n2
      have hel := ((HE8.out.setN (gb := g3) (by have := HGG.out; omega) 5 (.bool m.rev)).setN (gb := g2) (by have := HGG.out; omega) 0 (.int .i64 m.id))
      have HEL := (((((hel.setN (gb := g2) (by have := HGG.out; omega) 1 (.int .i64 m.day)).setN (gb := g2) (by have := HGG.out; omega) 2 (.int .i64 m.amt)).setN (gb := g2) (by have := HGG.out; omega) 3 (.slice A9 j k9)).setN (gb := g2) (by have := HGG.out; omega) 4 (.int .i64 m.rest)).setN (gb := g2) (by have := HGG.out; omega) 5 (.bool m.rev))
      refine bodyPost_ret (results_row_1 rfl _ _ g2 110 #[.int .i64 m.id, .int .i64 m.day, .int .i64 m.amt, .slice A9 j k9, .int .i64 m.rest, .bool m.rev] (0, 0) _ rfl HF.1 Tryz.underlying110 rfl (by kernel_rfl)) rfl ⟨⟨_, rfl, ?_⟩, HF.2.1, HEL⟩
      rw [HNP.out, HGG.out]
      exact HF.2.2
end Go.Proofs.YtbjjgnaojoaoiaaGreat
/- Load: words on the account that is being read. -/
namespace Go.Proofs.YtbjjgnaojoaoiaaGreat
open Go.RowKit Go
set_option linter.unusedVariables false
set_option linter.unusedSimpArgs false

theorem form_yes (w : World) : Calls Tryz.prog 85 #[.bool true] w fun e w' => e = .returned (.tuple #[]) ∧ w' = w := by
  go_enter Tryz.func85, Tryz.ntmps85
  go_wp2_with fail
  go_end0
  exact ⟨rfl, rfl⟩
theorem form_enter (u : Value) (w : World) : (callFunc 85 #[u]).run Tryz.prog w = .ok (.enter 85 #[u]) w := by kernel_rfl
theorem catchL_idle (ga ge : Nat) (w : World) :
    CallsD Tryz.prog 79 #[.pointer (some ⟨ga, 0, none⟩), .pointer (some ⟨ge, 0, none⟩)] .returning w fun e u' w' => e = .returned (.tuple #[]) ∧ u' = .returning ∧ w' = w := by
  refine callsD_of_wpS Tryz.func79 rfl fun c₀ cs hu => ?_
  apply wpS_seq
  apply wpS_region
  simp [wpOpsS, go_sem, recoverD, hu, Tryz.ntmps79, Exit.thenS]
  rw [show (#[Value.pointer (some { block := ga, off := 0 }), Value.pointer (some { block := ge, off := 0 })] ++ ((Array.replicate 6 undef).setIfInBounds 1 Value.nilIface).setIfInBounds 0 Value.nilIface : Array Value) = #[Value.pointer (some { block := ga, off := 0 }), Value.pointer (some { block := ge, off := 0 }), .nilIface, .nilIface, undef, undef, undef, undef] from rfl]
  refine wpS_of_wp ?_
  go_wp2_with fail
  cases c₀
  simp_all [bodyPostS, results, Tryz.results79]
theorem results_load {P : Program} {fn : Func} {p q : Tmp} {ty te : TypeId} (h : fn.results = #[.cell p ty, .cell q te]) (tmps : Array Value) (w : World) (ga ge : Nat) (u v : Value)
    (hp : tmps.getD p undef = .pointer (some ⟨ga, 0, none⟩)) (hq : tmps.getD q undef = .pointer (some ⟨ge, 0, none⟩)) (hl : (loadVar ty ⟨ga, 0, none⟩).run P w = .ok u w) (hl2 : (loadVar te ⟨ge, 0, none⟩).run P w = .ok v w) :
    (results fn tmps).run P w = .ok (.tuple #[u, v]) w := by
  have hp' : tmps[p]?.getD undef = .pointer (some ⟨ga, 0, none⟩) := by simpa using hp
  have hq' : tmps[q]?.getD undef = .pointer (some ⟨ge, 0, none⟩) := by simpa using hq
  simp [results, h, hp', hq', asAddr, hl, hl2]
theorem load_acptr (ga g : Nat) (w : World) (h : w.heap[ga]? = some (.cells #[.pointer (some ⟨g, 0, none⟩)] 27 (0, 0))) : (loadVar 27 ⟨ga, 0, none⟩).run Tryz.prog w = .ok (.pointer (some ⟨g, 0, none⟩)) w := by
  have hc : w.cell? ⟨ga, 0, none⟩ = some (.pointer (some ⟨g, 0, none⟩)) := (blk_cell h 0).trans rfl
  simp [go_sem, hc]
/-- Blocks of an account are of these types. -/
theorem OwnV.types {w w' : World} {B g : Nat} {S : Ac} {vp vq : Value} {qs : List PmE} (h : OwnV w B g S vp vq qs)
    (hk : ∀ (k : Nat) (cs : Array Value) (t : TypeId), w.heap[k]? = some (.cells cs t (0, 0)) → (t = 83 ∨ t = 92 ∨ t = 110 ∨ t = 58) → w'.heap[k]? = some (.cells cs t (0, 0))) : OwnV w' B g S vp vq qs :=
  ⟨hk _ _ _ h.hg (.inl rfl), h.hB, own_keep h.hp fun b cs hb => (hk _ _ _ hb (.inr (.inl rfl))).trans hb.symm, own_keep h.hq fun b cs hb => (hk _ _ _ hb (.inr (.inr (.inl rfl)))).trans hb.symm, h.hm, fun q hq => (h.parts q hq).keep fun b cs hb => (hk _ _ _ hb (.inr (.inr (.inr rfl)))).trans hb.symm⟩
/-- An account, and the reader that it is read by; the results' cells. -/
structure LS (w : World) (B gr g ga : Nat) (xs : List Int) (S : Ac) (vp vq : Value) (qs : List PmE) : Prop where
  r : RdrN w 0 gr xs
  own : OwnV w B g S vp vq qs
  ba : w.heap[ga]? = some (.cells #[.pointer (some ⟨g, 0, none⟩)] 27 (0, 0))
  be : w.heap[ga + 1]? = some (.cells #[.int .i64 0] 28 (0, 0))
theorem LS.eat {w w' : World} {B gr g ga : Nat} {xs ys : List Int} {S : Ac} {vp vq : Value} {qs : List PmE} (h : LS w B gr g ga xs S vp vq qs) (he : Eat w gr w') (hr : RdrN w' 0 gr ys) : LS w' B gr g ga ys S vp vq qs := by
  obtain ⟨A, c, hv⟩ := h.r
  refine ⟨hr, h.own.types fun k cs t hk ht => he.blk hk (ne_of_type' hk hv.hg (by rcases ht with rfl | rfl | rfl | rfl <;> decide)), he.blk h.ba (ne_of_type' h.ba hv.hg (by decide)), he.blk h.be (ne_of_type' h.be hv.hg (by decide))⟩
theorem LS.below {w w' : World} {B gr g ga : Nat} {xs : List Int} {S : Ac} {vp vq : Value} {qs : List PmE} (h : LS w B gr g ga xs S vp vq qs) (hb : Below w.heap.size w w') : LS w' B gr g ga xs S vp vq qs :=
  ⟨h.r.below hb, h.own.below hb, blk_below h.ba hb (blk_lt h.ba), blk_below h.be hb (blk_lt h.be)⟩
/-- A period was appended. -/
theorem ls_per {X Y : World} {B gr g ga : Nat} {xs : List Int} {S : Ac} {vp vq v5 : Value} {qs : List PmE} {p : Per} {o : Obj} (h : LS X B gr g ga xs S vp vq qs) (hB : B ≤ X.heap.size) (hg : (X.alloc o).grownBy Y vp.ownBlock)
    (ho : Y.ownsRow B 92 11 v5 (S.ps.length + 1) (perCs S.ps ++ perC p)) :
    LS (Y.setCell ⟨g, 3, none⟩ v5) B gr g ga xs { S with ps := S.ps ++ [p] } v5 vq qs ∧ Below B X (Y.setCell ⟨g, 3, none⟩ v5) := by
  have hp' := h.own.hp.alloc o
  have keep : ∀ {k : Nat} {cs : Array Value} {t : TypeId} {fr : Nat × Nat}, X.heap[k]? = some (.cells cs t fr) → t ≠ 92 → Y.heap[k]? = some (.cells cs t fr) := fun hk ht => own_far_type hp' hg (blk_alloc hk o) ht
  have hgY := keep h.own.hg (by decide)
  have p3 : Puts Y g [(3, v5)] (Y.setCell ⟨g, 3, none⟩ v5) := (Puts.start (Below.refl _ _)).set 3 v5
  have hbY : Below B X Y := ((Below.refl B X).alloc hB o).grown hg (by simp; omega) (fun k hk => (own_block_type h.own.hp hk).1)
  have far : ∀ {k : Nat} {cs : Array Value} {t : TypeId} {fr : Nat × Nat}, X.heap[k]? = some (.cells cs t fr) → t ≠ 92 → t ≠ 83 → (Y.setCell ⟨g, 3, none⟩ v5).heap[k]? = some (.cells cs t fr) := fun hk ht ht2 =>
    (p3.far _ (blk_lt (keep hk ht)) (ne_of_type' (keep hk ht) hgY ht2)).trans (keep hk ht)
  refine ⟨⟨h.r.keep fun k cs t fr hk ht => far hk (by rcases ht with rfl | rfl <;> decide) (by rcases ht with rfl | rfl <;> decide), ⟨p3.near _ _ _ hgY, h.own.hB, ?_, ?_, h.own.hm, fun q hq => ?_⟩, far h.ba (by decide) (by decide), far h.be (by decide) (by decide)⟩, hbY.setCell h.own.hB _⟩
  · show (Y.setCell ⟨g, 3, none⟩ v5).ownsRow B 92 11 v5 (S.ps ++ [p]).length (perCs (S.ps ++ [p]))
    have e1 : (S.ps ++ [p]).length = S.ps.length + 1 := by simp
    rw [e1, perCs_app, show perCs [p] = perC p by simp [perCs]]
    exact own_apart ho p3 (fun e => by obtain ⟨_, cs, hcs⟩ := own_block_type ho e; exact ne_of_type' hgY hcs (by decide) rfl)
  · exact own_keep h.own.hq fun b cs hb => (far hb (by decide) (by decide)).trans hb.symm
  · exact (h.own.parts q hq).keep fun b cs hb => (far hb (by decide) (by decide)).trans hb.symm
/-- A payment was appended. -/
theorem ls_pm {X Y : World} {B gr g ga : Nat} {xs : List Int} {S : Ac} {vp vq v5 v : Value} {qs : List PmE} {pm : Pm} {o : Obj} (h : LS X B gr g ga xs S vp vq qs) (hpt : PartsAt X v pm.parts) (hB : B ≤ X.heap.size) (hg : (X.alloc o).grownBy Y vq.ownBlock)
    (ho : Y.ownsRow B 110 6 v5 (S.ms.length + 1) (pmCs qs ++ pmC ⟨pm, v⟩)) :
    LS (Y.setCell ⟨g, 4, none⟩ v5) B gr g ga xs { S with ms := S.ms ++ [pm] } vp v5 (qs ++ [⟨pm, v⟩]) ∧ Below B X (Y.setCell ⟨g, 4, none⟩ v5) := by
  have hq' := h.own.hq.alloc o
  have keep : ∀ {k : Nat} {cs : Array Value} {t : TypeId} {fr : Nat × Nat}, X.heap[k]? = some (.cells cs t fr) → t ≠ 110 → Y.heap[k]? = some (.cells cs t fr) := fun hk ht => own_far_type hq' hg (blk_alloc hk o) ht
  have hgY := keep h.own.hg (by decide)
  have p3 : Puts Y g [(4, v5)] (Y.setCell ⟨g, 4, none⟩ v5) := (Puts.start (Below.refl _ _)).set 4 v5
  have hbY : Below B X Y := ((Below.refl B X).alloc hB o).grown hg (by simp; omega) (fun k hk => (own_block_type h.own.hq hk).1)
  have far : ∀ {k : Nat} {cs : Array Value} {t : TypeId} {fr : Nat × Nat}, X.heap[k]? = some (.cells cs t fr) → t ≠ 110 → t ≠ 83 → (Y.setCell ⟨g, 4, none⟩ v5).heap[k]? = some (.cells cs t fr) := fun hk ht ht2 =>
    (p3.far _ (blk_lt (keep hk ht)) (ne_of_type' (keep hk ht) hgY ht2)).trans (keep hk ht)
  refine ⟨⟨h.r.keep fun k cs t fr hk ht => far hk (by rcases ht with rfl | rfl <;> decide) (by rcases ht with rfl | rfl <;> decide), ⟨p3.near _ _ _ hgY, h.own.hB, ?_, ?_, by rw [List.map_append, h.own.hm]; rfl, fun q hq => ?_⟩, far h.ba (by decide) (by decide), far h.be (by decide) (by decide)⟩, hbY.setCell h.own.hB _⟩
  · exact own_keep h.own.hp fun b cs hb => (far hb (by decide) (by decide)).trans hb.symm
  · show (Y.setCell ⟨g, 4, none⟩ v5).ownsRow B 110 6 v5 (S.ms ++ [pm]).length (pmCs (qs ++ [⟨pm, v⟩]))
    have e1 : (S.ms ++ [pm]).length = S.ms.length + 1 := by simp
    rw [e1, pmCs_app, show pmCs [⟨pm, v⟩] = pmC ⟨pm, v⟩ by simp [pmCs]]
    exact own_apart ho p3 (fun e => by obtain ⟨_, cs, hcs⟩ := own_block_type ho e; exact ne_of_type' hgY hcs (by decide) rfl)
  · have h1 : PartsAt X q.v q.p.parts := by
      rcases List.mem_append.1 hq with hq | hq
      · exact h.own.parts q hq
      · rw [List.mem_singleton.1 hq]; exact hpt
    exact h1.keep fun b cs hb => (far hb (by decide) (by decide)).trans hb.symm
end Go.Proofs.YtbjjgnaojoaoiaaGreat
