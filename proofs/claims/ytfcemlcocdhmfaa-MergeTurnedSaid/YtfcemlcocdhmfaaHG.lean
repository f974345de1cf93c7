/- container/heap: the methods behind the interface. -/
import Derived.Test.YtfcemlcocdhmfaaHF
namespace Go.Proofs.Ytfcemlcocdhmfaa
open Go.RowKit Go
set_option linter.unusedVariables false
set_option linter.unusedSimpArgs false

theorem method_push (gh : Nat) (w : World) : (method 195 42 (.pointer (some ⟨gh, 0, none⟩)) "Push").run Try.prog w = .ok (67, .pointer (some ⟨gh, 0, none⟩)) w := by kernel_rfl
theorem method_pop (gh : Nat) (w : World) : (method 195 42 (.pointer (some ⟨gh, 0, none⟩)) "Pop").run Try.prog w = .ok (66, .pointer (some ⟨gh, 0, none⟩)) w := by kernel_rfl
theorem row_less : (Try.prog.info? 42).bind (fun i => (i.methods.find? (·.name == "Less")).map (fun m => (m.path.toList, m.func))) = some ([], some (65, false)) := by kernel_rfl
theorem row_swap : (Try.prog.info? 42).bind (fun i => (i.methods.find? (·.name == "Swap")).map (fun m => (m.path.toList, m.func))) = some ([], some (68, false)) := by kernel_rfl
theorem row_len : (Try.prog.info? 42).bind (fun i => (i.methods.find? (·.name == "Len")).map (fun m => (m.path.toList, m.func))) = some ([], some (22, false)) := by kernel_rfl
theorem nilchk (P : Program) (w : World) (a : Addr) (t : TypeId) (x y : String) : (Builtin.ssaWrapNilChk_ #[t] t #[.pointer (some a), strVal x, strVal y]).run P w = .ok (.pointer (some a)) w := rfl
theorem method_val {name : String} {f : FuncId} (hr : (Try.prog.info? 42).bind (fun i => (i.methods.find? (·.name == name)).map (fun m => (m.path.toList, m.func))) = some ([], some (f, false)))
    (gh fuel : Nat) (v : Value) (w : World) (h : (loadVar 44 ⟨gh, 0, none⟩).run Try.prog w = .ok v w) : (method (fuel + 1) 42 (.pointer (some ⟨gh, 0, none⟩)) name).run Try.prog w = .ok (f, v) w := by
  cases hi : Try.prog.info? 42 with
  | none => rw [hi] at hr; cases hr
  | some i =>
    rw [hi] at hr
    simp only [Option.bind_some] at hr
    cases hm : i.methods.find? (·.name == name) with
    | none => rw [hm] at hr; cases hr
    | some m =>
      rw [hm] at hr
      simp only [Option.map_some, Option.some.injEq, Prod.mk.injEq] at hr
      obtain ⟨h1, h2⟩ := hr
      have hp : m.path = #[] := by apply Array.ext'; simpa using h1
      simp [go_sem] at h
      simp [method, typeInfo, hi, hm, hp, h2, follow, receiverAt, Place.get, asAddr, Try.underlying42, go_sem, nilchk, h]
theorem load_runs {w : World} {gh : Nat} {A : Option Addr} {n c : Nat} (h : w.cell? ⟨gh, 0, none⟩ = some (.slice A n c)) : (loadVar 44 ⟨gh, 0, none⟩).run Try.prog w = .ok (.slice A n c) w := by
  simp [go_sem, Try.isAgg44, h]
theorem method_less (gh fuel : Nat) {A : Option Addr} {n c : Nat} {w : World} (h : w.cell? ⟨gh, 0, none⟩ = some (.slice A n c)) : (method (fuel + 1) 42 (.pointer (some ⟨gh, 0, none⟩)) "Less").run Try.prog w = .ok (65, .slice A n c) w := method_val row_less gh fuel _ w (load_runs h)
theorem method_swap (gh fuel : Nat) {A : Option Addr} {n c : Nat} {w : World} (h : w.cell? ⟨gh, 0, none⟩ = some (.slice A n c)) : (method (fuel + 1) 42 (.pointer (some ⟨gh, 0, none⟩)) "Swap").run Try.prog w = .ok (68, .slice A n c) w := method_val row_swap gh fuel _ w (load_runs h)
theorem method_len (gh fuel : Nat) {A : Option Addr} {n c : Nat} {w : World} (h : w.cell? ⟨gh, 0, none⟩ = some (.slice A n c)) : (method (fuel + 1) 42 (.pointer (some ⟨gh, 0, none⟩)) "Len").run Try.prog w = .ok (22, .slice A n c) w := method_val row_len gh fuel _ w (load_runs h)
end Go.Proofs.Ytfcemlcocdhmfaa
