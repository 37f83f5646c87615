/- The parser's whole: the closure that catches a wrong word. -/
import Derived.Test.YtoggcdldoinbnaaSynE
import Derived.Defers
import Derived.Recover
namespace Go.Proofs.Ytoggcdldoinbnaa
open Go.RowKit
open syn (Tok Nd PS)
set_option linter.unusedVariables false
set_option linter.unusedSimpArgs false

theorem catch_idle (p : Addr) (w : World) :
    CallsD Try.prog 12 #[.pointer (some p)] .returning w fun e u' w' => e = .returned (.tuple #[]) ∧ u' = .returning ∧ w' = w := by
  refine callsD_of_wpS Try.func12 rfl fun c₀ cs hu => ?_
  apply wpS_seq
  apply wpS_region
  simp [wpOpsS, go_sem, recoverD, hu, Try.ntmps12, Exit.thenS]
  have hnil : (binOp BinOp.eql 20 .nilIface .nilIface).run Try.prog w = .ok (.bool true) w := by kernel_rfl
  refine wpS_of_wp ?_
  simp only [show #[Value.pointer (some p)] ++ (Array.replicate 9 undef).setIfInBounds 3 Value.nilIface = #[Value.pointer (some p), undef, undef, undef, .nilIface, undef, undef, undef, undef, undef] from rfl]
  go_wp2
  cases c₀
  simp_all [bodyPostS, results, Try.results12, Exit.thenS]
theorem catch_wrong (n : Nat) (x : Bool) (older : List PanicEntry) (w : World) (hc : w.cell? ⟨n, 0, none⟩ = some (.bool x)) (hz : w.frozen? ⟨n, 0, none⟩ = false) (hn : n < w.heap.size) :
    CallsD Try.prog 12 #[.pointer (some ⟨n, 0, none⟩)] (.panicking ({ v := .iface 45 (.agg #[]), recovered := false } :: older)) w fun e u' w' =>
      e = .returned (.tuple #[]) ∧ u' = .panicking ({ v := .iface 45 (.agg #[]), recovered := true } :: older) ∧ ∃ o, w' = (w.setCell ⟨n, 0, none⟩ (.bool false)).alloc o := by
  have hc2 : ∀ c t, (w.alloc (Obj.cells c t)).cell? ⟨n, 0, none⟩ = some (.bool x) := fun c t => (World.cell?_alloc_past _ n 0 hn).trans hc
  have hz2 : ∀ c t, (w.alloc (Obj.cells c t)).frozen? ⟨n, 0, none⟩ = false := fun c t => (frozen?_alloc_cells w c t _).trans hz
  refine callsD_of_wpS Try.func12 rfl fun c₀ cs hu => ?_
  apply wpS_seq
  apply wpS_region
  simp [wpOpsS, go_sem, recoverD, hu, Try.ntmps12, Exit.thenS]
  have hnil : (binOp BinOp.eql 20 (.iface 45 (.agg #[])) .nilIface).run Try.prog w = .ok (.bool false) w := by kernel_rfl
  have hta : (Instr.typeAssert (.iface 45 (.agg #[])) 20 45 true).run Try.prog w = .ok (.tuple #[.agg #[], .bool true]) w := by kernel_rfl
  refine wpS_of_wp ?_
  simp only [show #[Value.pointer (some ⟨n, 0, none⟩)] ++ (Array.replicate 9 undef).setIfInBounds 3 (.iface 45 (.agg #[])) = #[Value.pointer (some ⟨n, 0, none⟩), undef, undef, undef, .iface 45 (.agg #[]), undef, undef, undef, undef, undef] from rfl]
  go_wp2
  simp [bodyPostS, results, Try.results12, Exit.thenS]
  exact ⟨_, rfl⟩
end Go.Proofs.Ytoggcdldoinbnaa
