/- Copy: the reference's record in memory of its own. -/
import Derived.Test.YtpgbinijocbfmaaN
namespace Go.Proofs.Ytpgbinijocbfmaa
open Go.RowKit Go
set_option linter.unusedVariables false
set_option linter.unusedSimpArgs false

/-- append([]byte{}, x...): x in memory of its own. -/
theorem wpList_dup {ops : Array Oper} {rest : List Oper} {o : Oper} {a : Act} {w : World} {Q : Exit → Act → World → Prop} (hgd : o.guard = none) (s x : Operand) (ho : o.op = .call { callee := .builtin .append, args := #[s, x], argTypes := #[33, 33] })
    (g : Nat) (hs : a.eval s = .slice (some ⟨g, 0, none⟩) 0 0) (hg : w.heap[g]? = some (.cells #[] 5 (0, 0))) (v : Value) (l : List UInt8) (hx : a.eval x = v) (hv : Bs w w.heap.size v l) (hl : l.length ≤ 1099511627776)
    (h : ∀ A c w', Mine g w' (.slice A l.length c) l → Below g w w' → wpList Try.prog ops Q rest (a.put o.dst (.slice A l.length c)) w') : wpList Try.prog ops Q (o :: rest) a w := by
  obtain ⟨i0, hi, hz0, hz1, hz2⟩ := info_parts u8_info
  obtain ⟨Av, cv, rfl, hr⟩ := hv
  have hm := maxLen_le
  have hgl := blk_lt hg
  refine wpList_app hgd s x _ ho g 5 i0 _ 1 1 Try.underlying33 hi hz0 hz1 hz2 rfl (by omega) (.slice (some ⟨g, 0, none⟩) 0 0) 0 [] hs ⟨by simp, .inr ⟨g, 0, #[], rfl, Nat.le_refl _, hg, Nat.le_refl _, by omega, by simp, by simp⟩⟩
    w.heap.size Av l.length cv (u8s l) hx hr (u8s_one l) (by omega) (by omega) (by omega) ?_
  intro v1 w1 hO hgr _
  have hO' : w1.ownsRow g 5 1 v1 l.length (u8s l) := by simpa using hO
  obtain ⟨A, c, rfl, _⟩ := own_form hO'
  refine h A c w1 ⟨BsU.of_own hO', fun _ => hO'⟩ ((Below.refl g w).grown hgr (by omega) (fun k hk => by simp [Value.ownBlock] at hk; omega))

theorem Mine.later {B : Nat} {w2 w3 : World} {v : Value} {l : List UInt8} (h : Mine B w2 v l) (hb : Below w2.heap.size w2 w3) : Mine B w3 v l := h.move (Nat.le_refl _) hb.size (fun b hb' => hb.block b hb'.2)
set_option maxHeartbeats 1600000 in
theorem copy_ref (kv vv : Value) (r : Rc) (w : World) (hk : Bs w w.heap.size kv r.key) (hv : Bs w w.heap.size vv r.val) (hkl : r.key.length ≤ 1099511627776) (hvl : r.val.length ≤ 1099511627776) :
    Calls Try.prog 22 #[.agg #[kv, .int .i64 r.seq, .bool r.del, vv]] w fun e w' => ∃ A c A' c', e = .returned (.agg #[.slice A r.key.length c, .int .i64 r.seq, .bool r.del, .slice A' r.val.length c']) ∧ Mine w.heap.size w' (.slice A r.key.length c) r.key ∧ Mine w.heap.size w' (.slice A' r.val.length c') r.val ∧ Below w.heap.size w w' := by
  have tok1 : True := trivial
  have tok2 : True := trivial
  go_enter Try.func22, Try.ntmps22
  go_wp2_with (first
    | (at_builtin; have _t := tok1; refine wpList_dup rfl (.tmp 3) (.tmp 5) rfl _ rfl (blk_new _ _ (by simp)) kv r.key rfl (hk.up (by repeat' (first | (with_reducible exact Below.refl _ _) | (with_reducible refine Below.alloc ?_ ?_ _) | (with_reducible refine below_drewN ?_ _) | (with_reducible refine Below.drew ?_) | (with_reducible refine Below.setCell ?_ ?_ _) | (with_reducible refine Below.trans ?_ (Below.mono HW0.out ?_)) | (with_reducible refine Below.trans ?_ (Below.mono HW1.out ?_)) | (with_reducible refine Below.trans ?_ (Below.mono HW2.out ?_)) | (with_reducible refine Below.trans ?_ (Below.mono HW3.out ?_)) | (with_reducible refine Below.trans ?_ (Below.mono HW4.out ?_)) | (with_reducible refine Below.trans ?_ (Below.mono HW5.out ?_)) | (with_reducible refine Below.trans ?_ (Below.mono HW6.out ?_)) | (with_reducible refine Below.trans ?_ (Below.mono HW7.out ?_)) | (with_reducible exact Nat.le_refl _) | omega | (simp only [World.size_alloc, World.size_setCell, World.size_drew, size_drewN]; omega) | (simp; done) | (simp; omega)))) hkl ?_; intro A1 c1 w1 hm1 hw1; clear tok1
       have b1 := blk_below (blk_alloc (blk_alloc (blk_new w (.cells #[kv, .int .i64 r.seq, .bool r.del, vv] 35) rfl) (.cells #[.slice none 0 0, .int .i64 0, .bool false, .slice none 0 0] 35)) (.cells #[] 5)) hw1 (by omega)
       have d1 := blk_below (blk_alloc (blk_new (w.alloc (.cells #[kv, .int .i64 r.seq, .bool r.del, vv] 35)) (.cells #[.slice none 0 0, .int .i64 0, .bool false, .slice none 0 0] 35) (g := w.heap.size + 1) (by simp)) (.cells #[] 5)) hw1 (by omega)
       have z1 : w.heap.size + 1 < w1.heap.size := blk_lt d1
       have z1' : w.heap.size < w1.heap.size := by omega
       obtain ⟨q0, q1, q2, q3, q4⟩ := cells4 b1
       have HW1 := Lib.hid hw1; have HB1 := Lib.hid b1; have HD1 := Lib.hid d1; have HM1 := Lib.hid hm1; clear hw1 b1 d1 hm1)
    | (at_builtin; have _t := tok2; refine wpList_dup rfl (.tmp 8) (.tmp 10) rfl _ rfl (blk_new _ _ (by simp)) vv r.val rfl (hv.up (by repeat' (first | (with_reducible exact Below.refl _ _) | (with_reducible refine Below.alloc ?_ ?_ _) | (with_reducible refine below_drewN ?_ _) | (with_reducible refine Below.drew ?_) | (with_reducible refine Below.setCell ?_ ?_ _) | (with_reducible refine Below.trans ?_ (Below.mono HW0.out ?_)) | (with_reducible refine Below.trans ?_ (Below.mono HW1.out ?_)) | (with_reducible refine Below.trans ?_ (Below.mono HW2.out ?_)) | (with_reducible refine Below.trans ?_ (Below.mono HW3.out ?_)) | (with_reducible refine Below.trans ?_ (Below.mono HW4.out ?_)) | (with_reducible refine Below.trans ?_ (Below.mono HW5.out ?_)) | (with_reducible refine Below.trans ?_ (Below.mono HW6.out ?_)) | (with_reducible refine Below.trans ?_ (Below.mono HW7.out ?_)) | (with_reducible exact Nat.le_refl _) | omega | (simp only [World.size_alloc, World.size_setCell, World.size_drew, size_drewN]; omega) | (simp; done) | (simp; omega)))) hvl ?_; intro A2 c2 w2 hm2 hw2; clear tok2
       have b2 := blk_below (blk_alloc (blk_set HB1.out 0 (.slice A1 r.key.length c1)) (.cells #[] 5)) hw2 (by omega)
       have d2 := blk_below (blk_alloc (blk_far HD1.out (p := ⟨w.heap.size, 0, none⟩) (by show w.heap.size + 1 ≠ w.heap.size; omega) (.slice A1 r.key.length c1)) (.cells #[] 5)) hw2 (by omega)
       clear q0 q1 q2 q3 q4
       have z2 : w.heap.size + 1 < w2.heap.size := blk_lt d2
       have z2' : w.heap.size < w2.heap.size := by omega
       obtain ⟨q0, q1, q2, q3, q4⟩ := cells4 b2
       obtain ⟨p0, p1, p2, p3, p4⟩ := cells4 d2
       have HW2 := Lib.hid hw2; have HB2 := Lib.hid b2; have HD2 := Lib.hid d2; have HM2 := Lib.hid hm2; clear hw2 b2 d2 hm2))
  have hb := blk_set (blk_set (blk_set (blk_set (blk_far HD2.out (p := ⟨w.heap.size, 3, none⟩) (by show w.heap.size + 1 ≠ w.heap.size; omega) (.slice A2 r.val.length c2)) 0 (.slice A1 r.key.length c1)) 1 (.int .i64 r.seq)) 2 (.bool r.del)) 3 (.slice A2 r.val.length c2)
  refine bodyPost_ret (results_cell_row rfl _ _ (w.heap.size + 1) 35 #[.slice A1 r.key.length c1, .int .i64 r.seq, .bool r.del, .slice A2 r.val.length c2] (0, 0) _ (by rfl) hb Try.underlying35 rfl (by kernel_rfl)) rfl ?_
  have far : ∀ b, w.heap.size + 1 + 1 ≤ b → (((((w2.setCell ⟨w.heap.size, 3, none⟩ (.slice A2 r.val.length c2)).setCell ⟨w.heap.size + 1, 0, none⟩ (.slice A1 r.key.length c1)).setCell ⟨w.heap.size + 1, 1, none⟩ (.int .i64 r.seq)).setCell ⟨w.heap.size + 1, 2, none⟩ (.bool r.del)).setCell ⟨w.heap.size + 1, 3, none⟩ (.slice A2 r.val.length c2)).heap[b]? = w2.heap[b]? := fun b hb => by
    have h1 : b ≠ w.heap.size + 1 := by omega
    have h2 : b ≠ w.heap.size := by omega
    rw [Below.heap_setCell _ _ _ _ h1, Below.heap_setCell _ _ _ _ h1, Below.heap_setCell _ _ _ _ h1, Below.heap_setCell _ _ _ _ h1, Below.heap_setCell _ _ _ _ h2]
  have s2 : w1.heap.size ≤ w2.heap.size := by have := HW2.out.size; simp at this; omega
  refine ⟨A1, c1, A2, c2, rfl, HM1.out.move (by omega) (by simp; exact s2) (fun b hb => ?_), HM2.out.move (by omega) (by simp) (fun b hb => far b (by have := hb.1; omega)), (by repeat' (first | (with_reducible exact Below.refl _ _) | (with_reducible refine Below.alloc ?_ ?_ _) | (with_reducible refine below_drewN ?_ _) | (with_reducible refine Below.drew ?_) | (with_reducible refine Below.setCell ?_ ?_ _) | (with_reducible refine Below.trans ?_ (Below.mono HW0.out ?_)) | (with_reducible refine Below.trans ?_ (Below.mono HW1.out ?_)) | (with_reducible refine Below.trans ?_ (Below.mono HW2.out ?_)) | (with_reducible refine Below.trans ?_ (Below.mono HW3.out ?_)) | (with_reducible refine Below.trans ?_ (Below.mono HW4.out ?_)) | (with_reducible refine Below.trans ?_ (Below.mono HW5.out ?_)) | (with_reducible refine Below.trans ?_ (Below.mono HW6.out ?_)) | (with_reducible refine Below.trans ?_ (Below.mono HW7.out ?_)) | (with_reducible exact Nat.le_refl _) | omega | (simp only [World.size_alloc, World.size_setCell, World.size_drew, size_drewN]; omega) | (simp; done) | (simp; omega)))⟩
  rw [far b hb.1, HW2.out.block b (by simpa using hb.2)]
  rw [Below.heap_alloc _ _ _ (by simpa using hb.2), Below.heap_setCell _ _ _ _ (by have := hb.1; show b ≠ w.heap.size; omega)]
end Go.Proofs.Ytpgbinijocbfmaa
