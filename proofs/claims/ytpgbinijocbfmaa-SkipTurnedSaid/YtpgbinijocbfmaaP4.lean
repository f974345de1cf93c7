/- From: so many records from a key on. -/
import Derived.Test.YtpgbinijocbfmaaP3
import Derived.Test.YtpgbinijocbfmaaE
namespace Go.Proofs.Ytpgbinijocbfmaa
open Go.RowKit Go
set_option linter.unusedVariables false
set_option linter.unusedSimpArgs false

def fromS (rs : List Rc) (key : List UInt8) (most : Int) : List Rc := (rs.filter fun r => !decide (Lib.compareBytes r.key key < 0)).take most.toNat
theorem fromS_eq {A B : List Nd} {key : List UInt8} {most : Int} {top : Int} (hA : ∀ a ∈ A, ordS a.r key top < 0) (hB : ∀ b ∈ B, 0 ≤ ordS b.r key top) (ht : ∀ a ∈ A, a.r.seq ≤ top) :
    fromS ((A ++ B).map Nd.r) key most = (B.map Nd.r).take most.toNat := by
  unfold fromS
  rw [List.map_append, List.filter_append]
  have h1 : (A.map Nd.r).filter (fun r => !decide (Lib.compareBytes r.key key < 0)) = [] := by
    rw [List.filter_eq_nil_iff]
    intro x hx
    obtain ⟨a, ha, rfl⟩ := List.mem_map.1 hx
    have h2 := hA a ha
    rw [ordS_lt] at h2
    rcases h2 with h2 | h2
    · simp [h2]
    · have := ht a ha; omega
  have h2 : (B.map Nd.r).filter (fun r => !decide (Lib.compareBytes r.key key < 0)) = B.map Nd.r := by
    rw [List.filter_eq_self]
    intro x hx
    obtain ⟨b, hb, rfl⟩ := List.mem_map.1 hx
    have h3 : ¬ ordS b.r key top < 0 := Int.not_lt.2 (hB b hb)
    rw [ordS_lt] at h3
    have : ¬ Lib.compareBytes b.r.key key < 0 := fun h => h3 (.inl h)
    simp [this]
  rw [h1, h2, List.nil_append]

/-- The row so far: so many records are told. -/
def Told (w wr : World) (v : Value) (rs : List Rc) : Prop := ∃ qs : List El, qs.map El.r = rs ∧ wr.ownsRow w.heap.size 35 4 v qs.length (elCells qs) ∧ ElsOk wr (New w.heap.size wr) qs ∧ Below w.heap.size w wr
theorem Told.below {w wr w' : World} {v : Value} {rs : List Rc} (h : Told w wr v rs) (hb : Below wr.heap.size wr w') : Told w w' v rs := by
  obtain ⟨qs, e, h1, h2, h3⟩ := h
  exact ⟨qs, e, own_below h1 hb, h2.keepT (fun b cs hb' _ => hb.block b hb'.2) (fun b hb' => ⟨hb'.1, Nat.lt_of_lt_of_le hb'.2 hb.size⟩), h3.trans (hb.mono h3.size)⟩

theorem told_step {w wr w3 w4 : World} {U : Nat → Prop} {L : Nd} {ns D : List Nd} {high : Nat} {v v1 : Value} {qs : List El} {r : Rc} {A5 A6 : Option Addr} {c5 c6 : Nat}
    (hO : w3.ownsRow w.heap.size 35 4 v qs.length (elCells qs)) (hE : ElsOk w3 (New w.heap.size w3) qs) (hB : Below w.heap.size w w3)
    (hm1 : Mine wr.heap.size w3 (.slice A5 r.key.length c5) r.key) (hm2 : Mine wr.heap.size w3 (.slice A6 r.val.length c6) r.val) (s3 : w.heap.size ≤ wr.heap.size) (s4 : wr.heap.size ≤ w3.heap.size)
    (hO4 : w4.ownsRow w.heap.size 35 4 v1 (qs.length + 1) (elCells qs ++ (#[.slice A5 r.key.length c5, .int .i64 r.seq, .bool r.del, .slice A6 r.val.length c6] : Array Value).toList))
    (hgr : (w3.alloc (.cells #[.slice A5 r.key.length c5, .int .i64 r.seq, .bool r.del, .slice A6 r.val.length c6] 35)).grownBy w4 v.ownBlock) (hq : qs.map El.r = D.map Nd.r)
    (hS : Sk w3 U L ns high) (hU : ∀ b, U b → b < w.heap.size) : Told w w4 v1 (D.map Nd.r ++ [r]) ∧ Sk w4 U L ns high := by
  have sz : w3.heap.size + 1 ≤ w4.heap.size := by simpa using hgr.size
  have own := hO.alloc (.cells #[.slice A5 r.key.length c5, .int .i64 r.seq, .bool r.del, .slice A6 r.val.length c6] 35)
  have keep : ∀ b : Nat, b < w3.heap.size → some b ≠ v.ownBlock → w4.heap[b]? = w3.heap[b]? := fun b hb hne => (hgr.block b (by simp; omega) hne).trans (Below.heap_alloc _ _ _ hb)
  have keepU : ∀ (b : Nat) (cs : Array Value), w3.heap[b]? = some (Obj.cells cs 5 (0, 0)) → w4.heap[b]? = w3.heap[b]? := fun b cs hb => by
    refine keep b (blk_lt hb) (fun e => ?_)
    obtain ⟨_, cs', h'⟩ := own_block_type hO e.symm
    exact ne_of_type hb h' (by decide) rfl
  have below : ∀ b : Nat, b < w.heap.size → w4.heap[b]? = w3.heap[b]? := fun b hb => by
    refine keep b (by have := hB.size; omega) (fun e => ?_)
    have := (own_block_type hO e.symm).1
    omega
  refine ⟨⟨qs ++ [⟨.slice A5 r.key.length c5, .slice A6 r.val.length c6, r⟩], by simp [hq], ?_, ?_, ?_⟩, hS.keep (by omega) fun b hb => below b (hU b hb)⟩
  · rw [elCells_app, List.length_append]
    exact hO4
  · intro q hq'
    rcases List.mem_append.1 hq' with h | h
    · exact ⟨((hE q h).1.keepT fun b cs _ hb => keepU b cs hb).wider fun b hb => ⟨hb.1, by have := hb.2; omega⟩, ((hE q h).2.keepT fun b cs _ hb => keepU b cs hb).wider fun b hb => ⟨hb.1, by have := hb.2; omega⟩⟩
    · rw [List.mem_singleton] at h
      subst h
      exact ⟨(hm1.1.keepT fun b cs _ hb => keepU b cs hb).wider fun b hb => ⟨by have := hb.1; omega, by have := hb.2; omega⟩, (hm2.1.keepT fun b cs _ hb => keepU b cs hb).wider fun b hb => ⟨by have := hb.1; omega, by have := hb.2; omega⟩⟩
  · exact ⟨hgr.os.trans hB.os, hgr.tape.trans hB.tape, hgr.output.trans hB.output, by have := hB.size; omega, fun b hb => (below b hb).trans (hB.block b hb)⟩

set_option maxHeartbeats 1600000 in
set_option maxRecDepth 100000 in
theorem from_any (U : Nat → Prop) (L : Nd) (ns : List Nd) (high : Nat) (key : List UInt8) (most : Int) (u : Value) (w : World) (h : Sk w U L ns high) (hu : Bs w w.heap.size u key) (hv : ∀ n ∈ ns, n.r.key.length ≤ 1099511627776 ∧ n.r.val.length ≤ 1099511627776 ∧ n.r.seq ≤ 1099511627777) (hn : ns.length ≤ 1048576)
    (hm : -9223372036854775808 ≤ most ∧ most ≤ 9223372036854775807) :
    Calls Try.prog 17 #[ptr L.g, u, .int .i64 most] w fun e w' => ∃ v, e = .returned v ∧ Told w w' v (fromS (ns.map Nd.r) key most) := by
  obtain ⟨A, B, rfl, hA, hB⟩ := sorted_split key 1099511627777 ns h.sorted
  have HH := Lib.hid h; clear h
  have HF := Lib.hid (fromS_eq (most := most) hA (fun b hb => Int.not_lt.1 (hB b hb)) (fun a ha => (hv a (by simp [ha])).2.2))
  have HA := Lib.hid hA; have HB : Hid (∀ b ∈ B, 0 ≤ ordS b.r key 1099511627777) := fun b hb => Int.not_lt.1 (hB b hb)
  clear hA hB
  have HV := Lib.hid hv; clear hv
  have HM := maxLen_le
  unfold ptr
  go_enter Try.func17, Try.ntmps17
  go_wp2_with fail
  refine (behind_any U L A B high key 1099511627777 u _ HH.out hu HA.out (fun b hb => Int.not_lt.2 (HB.out b hb))).mono ?_
  rintro e w1 ⟨rfl, hw1⟩
  have hI : ∀ W, (Instr.index 57 (.agg (rowF (fun l => ptr (lastOn l L A).g) 12)) (.int .i64 0)).run Try.prog W = .ok (.pointer (some ⟨(lastOn 0 L A).g, 0, none⟩)) W := fun W => run_index_row W _ _ (rowF_get _ (by omega))
  generalize rowF (fun l => ptr (lastOn l L A).g) 12 = R7 at hI ⊢
  have HB1 := Lib.hid hw1
  clear hw1
  have HS := Lib.hid (HH.out.below HB1.out)
  obtain ⟨P0, S0, e0, h01, h02⟩ := lastOn_parts 0 L A (by rw [HS.out.hh]; omega)
  obtain ⟨l1, l2⟩ := HS.out.lead (show L :: (A ++ B) = P0 ++ lastOn 0 L A :: (S0 ++ B) by rw [← List.cons_append, e0]; simp)
  have l3 := l2 0 h01
  rw [hd_skip _ h02] at l3
  clear e0 h02 l2
  generalize lastOn 0 L A = a0 at *
  clear P0 S0
  go_wp2_with fail
  clear l1 l3 hI
  obtain ⟨i0, hi, hz0, hz1, hz2⟩ := info_parts rec_info
  have hi' : Hid _ := hi
  go_loopg [7, 8] B.length (fun k v n wr => ∃ D S : List Nd, B = D ++ S ∧ k = S.length ∧ D.length ≤ most.toNat ∧ n = hd 0 S ∧ Told w wr v (D.map Nd.r) ∧ Sk wr U L (A ++ B) high)
  case atStart => exact ⟨[], B, rfl, rfl, by simp, rfl, ⟨[], rfl, by simp [elCells, World.ownsRow], by intro q hq; simp at hq, HB1.out⟩, HS.out⟩
  case round =>
    obtain ⟨D, S, hDS, hgk, hDm, rfl, hT, hSk⟩ := hrel
    have HDS := Lib.hid hDS; have HG := Lib.hid hgk; have HT := Lib.hid hT; have HSK := Lib.hid hSk
    clear hDS hgk hT hSk
    obtain ⟨qs, hq1, hq2, hq3, hq4⟩ := HT.out
    obtain ⟨Av, cv, rfl, hvm⟩ := own_form hq2
    have HQ := Lib.hid (And.intro hq1 (And.intro hq2 (And.intro hq3 hq4)))
    have hlen : qs.length = D.length := by have := congrArg List.length hq1; simpa using this
    have HLEN := Lib.hid hlen
    clear hq1 hq2 hq3 hq4 hlen
    rcases S with _ | ⟨b, S⟩
    · rw [show hd 0 ([] : List Nd) = .pointer none from rfl]
      go_wp2_with fail
      go_ret
      exact ⟨_, rfl, by rw [HF.out, HDS.out, List.append_nil, List.take_of_length_le (by simpa using hDm)]; exact HT.out⟩
    · by_cases hlt : (qs.length : Int) < most
      · have hbB : b ∈ B := by rw [HDS.out]; simp
        have nb := HSK.out.node b (by simp [hbB])
        have e3 : hd 0 (b :: S) = .pointer (some ⟨b.g, 0, none⟩) := hd_at _ (by have := nb.2.2.2.1; omega)
        rw [e3]
        have HKB := Lib.hid (nb.2.1.bs HSK.out.lt); have HVB := Lib.hid (nb.2.2.1.bs HSK.out.lt)
        have HKV := Lib.hid (HV.out b (by simp [hbB]))
        obtain ⟨z0, z1, z2, z3, z4, z5⟩ := cells5 nb.1
        clear e3 nb
        have hdl : D.length < B.length := by rw [HDS.out]; simp
        have hbn : B.length ≤ 1048576 := by simp at hn; omega
        have hql : qs.length < 1048576 := by have := HLEN.out; omega
        go_wp2_with fail
        refine (copied_any b.kv b.vv b.r _ HKB.out HVB.out HKV.out.1 HKV.out.2.1).mono ?_
        rintro e w3 ⟨A5, c5, A6, c6, rfl, hm1, hm2, hw3⟩
        have HT3 := Lib.hid (HT.out.below hw3)
        have HSK3 := Lib.hid (HSK.out.below hw3)
        have HO3 := Lib.hid (own_below HQ.out.2.1 hw3)
        have HE3 := Lib.hid (HQ.out.2.2.1.keepT (w' := w3) (V := New w.heap.size w3) (fun b cs hb' _ => hw3.block b hb'.2) (fun b hb' => ⟨hb'.1, Nat.lt_of_lt_of_le hb'.2 hw3.size⟩))
        have HB3 := Lib.hid (HQ.out.2.2.2.trans (hw3.mono HQ.out.2.2.2.size))
        have HM1 := Lib.hid hm1; have HM2 := Lib.hid hm2
        have s3 : w.heap.size ≤ wr.heap.size := HQ.out.2.2.2.size
        have s4 : wr.heap.size ≤ w3.heap.size := hw3.size
        clear hm1 hm2 hw3 z0 z1 z2 z3 z4 z5
        obtain ⟨q, hq⟩ : ∃ q : El, q = ⟨.slice A5 b.r.key.length c5, .slice A6 b.r.val.length c6, b.r⟩ := ⟨_, rfl⟩
        have HQE := Lib.hid hq; clear hq
        have H1c : Hid (∀ u ∈ (#[.slice A5 b.r.key.length c5, .int .i64 b.r.seq, .bool b.r.del, .slice A6 b.r.val.length c6] : Array Value).toList, u.oneCell' = true) := by intro u hu; simp at hu; rcases hu with rfl | rfl | rfl | rfl <;> rfl
        go_wp2_with (at_builtin; refine wpList_app rfl (.tmp 32) (.tmp 38) _ rfl w.heap.size 35 i0 _ 4 64 Try.underlying28 hi'.out hz0 hz1 hz2 rfl (by omega) _ _ _ rfl (HO3.out.alloc _) _ (some ⟨w3.heap.size, 0, none⟩) 1 1 _ rfl (Rd.fresh w3 #[.slice A5 b.r.key.length c5, .int .i64 b.r.seq, .bool b.r.del, .slice A6 b.r.val.length c6] 35 1 4 rfl) H1c.out (by omega) (by omega) (by simp; omega) ?_; intro v1 w4 hO hgr hat
                     have hfin := told_step HO3.out HE3.out HB3.out HM1.out HM2.out s3 s4 hO hgr HQ.out.1 HSK3.out HH.out.lt
                     clear hO hgr hat
                     have HT4 := Lib.hid hfin.1; have HSK4 := Lib.hid hfin.2; clear hfin
                     obtain ⟨l1, l2⟩ := HSK4.out.lead (show L :: (A ++ B) = (L :: (A ++ D)) ++ b :: S by rw [HDS.out]; simp)
                     have hbh : 0 < b.h := by have := (HSK4.out.node b (by simp [hbB])).2.2.2.1; omega
                     have l3 := l2 0 hbh
                     clear l2)
        go_roundg S.length
        case measure => rw [HG.out]; simp
        case rel => exact ⟨D ++ [b], S, by rw [HDS.out]; simp, rfl, by have := HLEN.out; simp; omega, rfl, by rw [List.map_append]; exact HT4.out, HSK4.out⟩
      · have hlen : most.toNat ≤ D.length := by have := HLEN.out; omega
        have hbB : b ∈ B := by rw [HDS.out]; simp
        have nb := HSK.out.node b (by simp [hbB])
        have e3 : hd 0 (b :: S) = .pointer (some ⟨b.g, 0, none⟩) := hd_at _ (by have := nb.2.2.2.1; omega)
        rw [e3]
        clear e3 nb
        go_wp2_with fail
        go_ret
        exact ⟨_, rfl, by (try rw [← List.map_append]); rw [HF.out, HDS.out, List.map_append, List.take_append_of_le_length (by simp; omega), List.take_of_length_le (by simp; omega)]; exact HT.out⟩
end Go.Proofs.Ytpgbinijocbfmaa
