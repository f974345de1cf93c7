/- Reverse: the step. -/
import Derived.Test.YtbjjgnaojoaoiaaGreatK26
namespace Go.Proofs.YtbjjgnaojoaoiaaGreat
open Go.RowKit Go
set_option linter.unusedVariables false
set_option linter.unusedSimpArgs false

def Pm.back (m : Pm) : Pm := { m with rev := true }
def reverse1 (S : Ac) (i : Nat) (m : Pm) : Ac × Mv × Int := match giveS S.day 1 S.ps m.parts with
  | some ps => ({ S with ps := ps, cr := S.cr - m.rest, ms := S.ms.set i m.back }, ⟨0, 0, 0, m.rest - m.amt, -m.rest, -m.amt⟩, 0)
  | none => (S, Mv.zero, 2)
def noPm : Pm := ⟨0, 0, 0, [], 0, false⟩
def reverseS (S : Ac) (id : Int) : Ac × Mv × Int := if S.pay id < 0 then (S, Mv.zero, 4) else
  if (S.ms.getD (S.pay id).toNat noPm).rev = true then (S, Mv.zero, 5) else
  if S.cr < (S.ms.getD (S.pay id).toNat noPm).rest then (S, Mv.zero, 2) else reverse1 S (S.pay id).toNat (S.ms.getD (S.pay id).toNat noPm)
/-- A payment's cells are put. -/
theorem OwnV.putq {w w' : World} {B g gq cap : Nat} {S : Ac} {vp : Value} {qs qs' : List PmE} {us : List (Nat × Value)} {ms : List Pm} (h : OwnV w B g S vp (.slice (some ⟨gq, 0, none⟩) S.ms.length cap) qs) (hp : Puts w gq us w')
    (hl : ms.length = S.ms.length) (hm : qs'.map PmE.p = ms) (hu : us.foldl (fun a u => a.set u.1 u.2) (pmCs qs) = pmCs qs') (hq : ∀ q ∈ qs', PartsAt w q.v q.p.parts) (hn : 0 < S.ms.length) : OwnV w' B g { S with ms := ms } vp (.slice (some ⟨gq, 0, none⟩) S.ms.length cap) qs' := by
  obtain ⟨b1, cs, hcs⟩ := own_block_type h.hq (b := gq) rfl
  refine ⟨(hp.far g (blk_lt h.hg) (ne_of_type' h.hg hcs (by decide))).trans h.hg, h.hB, own_apart h.hp hp (fun e => ?_), by rw [hl, ← hu]; exact own_puts h.hq hp, hm, fun q hqq => (hq q hqq).keep fun b cs' hb => hp.far b (blk_lt hb) (ne_of_type' hb hcs (by decide))⟩
  obtain ⟨_, cs', hcs'⟩ := own_block_type h.hp e
  exact ne_of_type' hcs' hcs (by decide) rfl
theorem OwnV.pmAt {w : World} {B g : Nat} {S : Ac} {vp vq : Value} {qs : List PmE} (h : OwnV w B g S vp vq qs) {i : Nat} (hi : i < S.ms.length) : ∃ gq cap, ∃ hq : i < qs.length, vq = .slice (some ⟨gq, 0, none⟩) S.ms.length cap ∧ gq < w.heap.size ∧ B ≤ gq ∧ qs[i].p = S.ms[i] ∧ PartsAt w qs[i].v S.ms[i].parts ∧
    (w.cell? ⟨gq, i * 6, none⟩ = some (.int .i64 S.ms[i].id) ∧ w.cell? ⟨gq, i * 6 + 2, none⟩ = some (.int .i64 S.ms[i].amt) ∧ w.cell? ⟨gq, i * 6 + 3, none⟩ = some qs[i].v ∧ w.cell? ⟨gq, i * 6 + 4, none⟩ = some (.int .i64 S.ms[i].rest) ∧ w.cell? ⟨gq, i * 6 + 5, none⟩ = some (.bool S.ms[i].rev)) ∧ ∀ j, w.frozen? ⟨gq, j, none⟩ = false := by
  obtain ⟨gq, cap, e, hb, hlt⟩ := h.hq.form (by omega)
  have hl : qs.length = S.ms.length := h.len
  have hq : i < qs.length := by omega
  have hp : qs[i].p = S.ms[i] := by
    have := h.hm
    simp only [← this, List.getElem_map]
  subst e
  have key : ∀ j u, j < 6 → (pmC qs[i])[j]? = some u → w.cell? ⟨gq, i * 6 + j, none⟩ = some u := fun j u hj hu => (own_cell h.hq ((pmCs_at hq hj).trans hu)).1
  have k0 := key 0 _ (by omega) rfl; have k2 := key 2 _ (by omega) rfl; have k3 := key 3 _ (by omega) rfl; have k4 := key 4 _ (by omega) rfl; have k5 := key 5 _ (by omega) rfl
  rw [hp] at k0 k2 k4 k5
  have hpt := h.parts _ (List.getElem_mem hq)
  rw [hp] at hpt
  exact ⟨gq, cap, hq, rfl, hlt, hb, hp, hpt, ⟨k0, k2, k3, k4, k5⟩, fun j => by obtain ⟨_, cs, hcs⟩ := own_block_type h.hq (b := gq) rfl; exact blk_free hcs j⟩
theorem reverse_facts {S : Ac} (h : Good S) {i : Nat} (hi : i < S.ms.length) : ∀ k ps (hk : k < S.ms[i].parts.length), giveS S.day 1 S.ps (S.ms[i].parts.take k) = some ps → GoodAt S.day S.bp 1 ps S.ms[i].parts[k] := fun k ps hk hg =>
  good_at h.day h.bp h.rise h.per (fun x hx => ((h.pm _ (List.getElem_mem hi)).placed x hx).1) (fun x hx => by have := ((h.pm _ (List.getElem_mem hi)).placed x hx).2.2; omega) (.inl rfl) k ps hk hg
end Go.Proofs.YtbjjgnaojoaoiaaGreat
