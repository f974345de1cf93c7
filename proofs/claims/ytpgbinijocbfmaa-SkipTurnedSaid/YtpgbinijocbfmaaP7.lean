/- much, awake; the items that come in. -/
import Derived.Test.YtpgbinijocbfmaaP6
import Derived.Lib.SlBytesConst
namespace Go.Proofs.Ytpgbinijocbfmaa
open Go.RowKit Go
set_option linter.unusedVariables false
set_option linter.unusedSimpArgs false

structure It where
  kv : Value
  vv : Value
  r : Rc
  draw : Int
def It.ok (w : World) (i : It) : Prop := Bs w w.heap.size i.kv i.r.key ∧ Bs w w.heap.size i.vv i.r.val ∧ -9223372036854775808 ≤ i.draw ∧ i.draw ≤ 9223372036854775807
/-- The items lie from this address on. -/
def ItemsAt (w : World) (A : Option Addr) (its : List It) : Prop := (0 < its.length → ∃ b off, A = some ⟨b, off, none⟩ ∧ b < w.heap.size ∧
  ∀ k (hk : k < its.length), w.cell? ⟨b, off + k * 5, none⟩ = some its[k].kv ∧ w.cell? ⟨b, off + k * 5 + 1, none⟩ = some (.int .i64 its[k].r.seq) ∧ w.cell? ⟨b, off + k * 5 + 2, none⟩ = some (.bool its[k].r.del) ∧ w.cell? ⟨b, off + k * 5 + 3, none⟩ = some its[k].vv ∧ w.cell? ⟨b, off + k * 5 + 4, none⟩ = some (.int .i64 its[k].draw)) ∧ ∀ i ∈ its, i.ok w
theorem It.ok.up {w w' : World} {i : It} (h : i.ok w) (hb : Below w.heap.size w w') : i.ok w' := ⟨h.1.up hb, h.2.1.up hb, h.2.2⟩
theorem ItemsAt.up {w w' : World} {A : Option Addr} {its : List It} (h : ItemsAt w A its) (hb : Below w.heap.size w w') : ItemsAt w' A its := by
  refine ⟨fun h0 => ?_, fun i hi => (h.2 i hi).up hb⟩
  obtain ⟨b, off, e, hlt, hc⟩ := h.1 h0
  refine ⟨b, off, e, Nat.lt_of_lt_of_le hlt hb.size, fun k hk => ?_⟩
  obtain ⟨c0, c1, c2, c3, c4⟩ := hc k hk
  exact ⟨(hb.cell (p := ⟨b, _, none⟩) hlt).trans c0, (hb.cell (p := ⟨b, _, none⟩) hlt).trans c1, (hb.cell (p := ⟨b, _, none⟩) hlt).trans c2, (hb.cell (p := ⟨b, _, none⟩) hlt).trans c3, (hb.cell (p := ⟨b, _, none⟩) hlt).trans c4⟩

/-- Some answer; where it is no, the length is small. -/
def SomeMuch (N : Nat) (w : World) (e : Ending) (w' : World) : Prop := ∃ m : Bool, e = .returned (.bool m) ∧ (m = false → N ≤ 1000) ∧ ∃ n, w' = w.drewN n

set_option maxHeartbeats 1600000 in
theorem much_any (A : Option Addr) (its : List It) (c : Nat) (w : World) (h : ItemsAt w A its) :
    Calls Try.prog 8 #[.slice A its.length c] w (SomeMuch its.length w) := by
  by_cases hl : 1000 < its.length
  · have hl' : (1000 : Int) < (its.length : Int) := by omega
    go_enter Try.func8, Try.ntmps8
    go_wp2_with fail
    go_ret
    exact ⟨true, rfl, by simp, 0, rfl⟩
  · have hl' : (its.length : Int) ≤ 1000 := by omega
    have HI := Lib.hid h; clear h
    obtain ⟨N, hN⟩ : ∃ N, its.length = N := ⟨_, rfl⟩
    have HN := Lib.hid hN
    rw [hN] at hl hl' ⊢
    clear hN
    go_enter Try.func8, Try.ntmps8
    go_wp2_with fail
    go_loopg [3, 4] N (fun g vn vi wr => ∃ (k s : Nat), g = N - k ∧ k ≤ N ∧ vi = .int .i64 k ∧ vn = .int .i64 s ∧ s ≤ 100000 ∧ ∃ n, wr = w.drewN n)
    case atStart => exact ⟨0, 0, rfl, by omega, rfl, rfl, by omega, 0, rfl⟩
    case round =>
      obtain ⟨k, s, hgk, hk, rfl, rfl, hs, n, rfl⟩ := hrel
      have HG := Lib.hid hgk; clear hgk
      by_cases hlt : k < N
      · have hlt' : k < its.length := by have := HN.out; omega
        obtain ⟨b, off, rfl, hb, hc⟩ := HI.out.1 (by omega)
        obtain ⟨c0, c1, c2, c3, c4⟩ := hc k hlt'
        obtain ⟨⟨Ak, ck, ek, _⟩, ⟨Av, cv, ev, _⟩, _⟩ := HI.out.2 _ (List.getElem_mem hlt')
        rw [ek] at c0; rw [ev] at c3
        obtain ⟨kl, hkl⟩ : ∃ m, its[k].r.key.length = m := ⟨_, rfl⟩
        obtain ⟨vl, hvl⟩ : ∃ m, its[k].r.val.length = m := ⟨_, rfl⟩
        rw [hkl] at c0; rw [hvl] at c3
        clear hc ek ev hkl hvl c1 c2 c4
        have i1 : (0 : Int) ≤ (k : Int) := by omega
        have i2 : (k : Int) < (N : Int) := by omega
        by_cases hk2 : 2000 < kl
        · have hk3 : (2000 : Int) < (kl : Int) := by omega
          go_wp2_with fail
          go_ret
          exact ⟨true, rfl, by simp, n, rfl⟩
        · have hk3 : (kl : Int) ≤ 2000 := by omega
          by_cases hv2 : 10000 < vl
          · have hv3 : (10000 : Int) < (vl : Int) := by omega
            go_wp2_with fail
            go_ret
            exact ⟨true, rfl, by simp, n, rfl⟩
          · have hv3 : (vl : Int) ≤ 10000 := by omega
            have e1 : IntKind.i64.wrap ((s : Int) + (kl : Int)) = (s : Int) + (kl : Int) := IntWalk.i64_in _ (by omega)
            have e2 : IntKind.i64.wrap ((s : Int) + (kl : Int) + (vl : Int)) = (s : Int) + (kl : Int) + (vl : Int) := IntWalk.i64_in _ (by omega)
            go_wp2_with fail
            go_quiet (fail)
            clear e1 e2
            by_cases hb2 : 100000 < s + kl + vl
            · have hb3 : (100000 : Int) < (s : Int) + (kl : Int) + (vl : Int) := by omega
              go_wp2_with fail
              go_ret
              exact ⟨true, rfl, by simp, _, rfl⟩
            · have hb3 : (s : Int) + (kl : Int) + (vl : Int) ≤ 100000 := by omega
              go_wp2_with fail
              go_roundg (N - (k + 1))
              case measure => have := HG.out; omega
              case rel => exact ⟨k + 1, s + kl + vl, rfl, by omega, by go_num, by go_num, by omega, _, rfl⟩
      · have hkN : k = N := by omega
        subst hkN
        go_wp2_with fail
        go_ret
        exact ⟨false, rfl, fun _ => by omega, n, rfl⟩

theorem Rd.marked (w : World) (cs : Array Value) (t : TypeId) (fr : Nat × Nat) (n s : Nat) (h : cs.size = n * s) : Rd (w.alloc (.cells cs t fr)) (w.alloc (.cells cs t fr)).heap.size s (some ⟨w.heap.size, 0, none⟩) n cs.toList :=
  ⟨by simpa using h, fun _ => ⟨_, _, rfl, by simp, fun j _ => by
    have : (w.alloc (.cells cs t fr)).heap[w.heap.size]? = some (.cells cs t fr) := heap_alloc_new w _
    unfold World.cell?; simp only [this]; simp⟩⟩
set_option maxHeartbeats 1600000 in
theorem awake_any (w : World) : Calls Try.prog 7 #[] w fun e w' => e = .returned (.bool true) ∧ Below w.heap.size w w' := by
  have kc := fun (w : World) (C : Array Value) (n c : Nat) => Lib.run_convert_bytes_const (P := Try.prog) w 33 5 C n c Try.underlying33 Try.underlying5
  go_enter Try.func7, Try.ntmps7
  go_wp2_with fail
  refine (new_any _).mono ?_; rintro e w1 ⟨L, rfl, hs, hb⟩
  have HS := Lib.hid hs; have HB := Lib.hid hb; clear hs hb
  unfold ptr
  go_wp2_with fail
  have bb : Bs (w1.alloc (.cells #[.int .u8 97] 5 (1, 2))) (w1.alloc (.cells #[.int .u8 97] 5 (1, 2))).heap.size (.slice (some ⟨w1.heap.size, 0, none⟩) 1 1) [97] :=
    ⟨_, 1, rfl, Rd.marked w1 #[.int .u8 97] 5 (1, 2) 1 1 rfl⟩
  refine (put_any (New w.heap.size w1) L [] 0 _ _ ⟨[97], 1, false, []⟩ 0 _ (HS.out.below ((Below.refl _ _).alloc (Nat.le_refl _) _)) bb Bs.nil (by omega) (by simp) (by simp [sizeS]) (by omega)).mono ?_
  rintro e w2 ⟨c, ns', high', rfl, hp, hs2, hc⟩
  have hp' : (c, ns'.map Nd.r, high') = (0, [⟨[97], 1, false, []⟩], 12) := by rw [← hp]; decide +kernel
  simp only [Prod.mk.injEq] at hp'
  obtain ⟨rfl, hns, rfl⟩ := hp'
  have HB2 : Hid (Below w.heap.size w w2) := hc.to_below (HB.out.trans (((Below.refl _ _).alloc (Nat.le_refl _) _).mono HB.out.size)) (fun b hb => hb.1) (Nat.le_refl _)
  have HS2 := Lib.hid hs2
  have hlen : ns'.length = 1 := by have := congrArg List.length hns; simpa using this
  have HL := Lib.hid hlen
  clear hp hs2 hc hns hlen bb
  go_wp2_with fail
  refine (len_any _ L ns' 12 _ HS2.out).mono ?_; rintro e w3 ⟨rfl, rfl⟩
  rw [HL.out]
  go_wp2_with fail
  refine (height_any _ L ns' 12 _ HS2.out).mono ?_; rintro e w4 ⟨rfl, rfl⟩
  go_wp2_with fail
  go_ret
  exact ⟨rfl, HB2.out⟩
end Go.Proofs.Ytpgbinijocbfmaa
