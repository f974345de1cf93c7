/- AccrueRuns, its steps as they come in. -/
import Derived.Test.YtpfcajekbkpabaaWRuns
import Derived.Test.YtpfcajekbkpabaaF
namespace Go.Proofs.Ytpfcajekbkpabaa
open Go.RowKit Go

theorem accrueRuns_q (o d p b : Int) (A : Option Addr) (c : Nat) (l : List (Int × Int × Int × Int)) (w : World) (hm : l.length ≤ maxLen)
    (hcell : 0 < l.length → ∃ b off, A = some ⟨b, off, none⟩ ∧ b < w.heap.size ∧ ∀ k (hk : k < l.length), w.cell? ⟨b, off + k * 4, none⟩ = some (.int .i64 l[k].1) ∧ w.cell? ⟨b, off + k * 4 + 1, none⟩ = some (.int .i64 l[k].2.1) ∧
        w.cell? ⟨b, off + k * 4 + 2, none⟩ = some (.int .i64 l[k].2.2.1) ∧ w.cell? ⟨b, off + k * 4 + 3, none⟩ = some (.int .i64 l[k].2.2.2)) :
    Calls Try.prog 7 #[.agg #[.int .i64 o, .int .i64 d, .int .i64 p, .int .i64 b], .slice A l.length c] w fun e w' => e = .returned (.bool true) ∧ Below w.heap.size w w' := by
  have := accrueRuns_walk o d p b A (l.map fun q => (⟨q.1, q.2.1, q.2.2.1, q.2.2.2⟩ : Stp)) c w (fun h0 => by
    obtain ⟨b', off, e, hb, hc⟩ := hcell (by simpa using h0)
    refine ⟨b', off, e, hb, fun k hk => ?_⟩
    simpa using hc k (by simpa using hk)) (by simpa using hm)
  rwa [List.length_map] at this
end Go.Proofs.Ytpfcajekbkpabaa
