/-
  The walks of ar.Read's deferred closure: entered by a frame that panics with a fault, and by one that returns.
  Conditions: none.
-/
import Derived.Test.YtnpfnjkghlgooaaGreatDoorArMembs
import Derived.Defers
import Derived.Recover
import Derived.Laws.Pointers
import Derived.WideLaws
namespace Go.Proofs.YtnpfnjkghlgooaaGreatDoor
set_option linter.unusedVariables false
set_option linter.unusedSimpArgs false
open Go Go.RowKit

theorem bel_frozen {w a : World} (h : Below w.heap.size w a) {p : Addr} {u : Value} (hc : w.cell? p = some u) (hf : w.frozen? p = false) : a.frozen? p = false := by
  have e := h.block p.block (World.block_lt_of_cell? w _ hc)
  unfold World.frozen? at *
  rw [e]; exact hf
theorem ta_fault (w : World) : (Instr.typeAssert (.iface 56 (.agg #[])) 20 56 true).run Tryz.prog w = .ok (.tuple #[.agg #[], .bool true]) w := by
  simp [Instr.typeAssert, go_sem, Tryz.underlying56]

theorem catch_fault (L E : Nat) (w : World) (ul ue : Value) (hl : w.cell? ⟨L, 0, none⟩ = some ul) (he : w.cell? ⟨E, 0, none⟩ = some ue) (fl : w.frozen? ⟨L, 0, none⟩ = false) (fe : w.frozen? ⟨E, 0, none⟩ = false) (hne : ¬ E = L) (hne2 : ¬ L = E) :
    CallsD Tryz.prog 28 #[.pointer (some ⟨L, 0, none⟩), .pointer (some ⟨E, 0, none⟩)] (.panicking [{ v := .iface 56 (.agg #[]), recovered := false }]) w fun e u' w' =>
      e = .returned (.tuple #[]) ∧ u' = .panicking [{ v := .iface 56 (.agg #[]), recovered := true }] ∧ w' = ((w.alloc (.cells #[] 56)).setCell ⟨L, 0, none⟩ (.slice none 0 0)).setCell ⟨E, 0, none⟩ (.int .i64 4) := by
  refine callsD_of_wpS Tryz.func28 rfl fun c₀ cs hu => ?_
  simp only [Tryz.ntmps28, List.size_toArray, List.length_cons, List.length_nil, Nat.reduceAdd, Nat.reduceSub, Array.replicate_succ,
     Array.replicate_zero, List.push_toArray, List.append_toArray, List.nil_append, List.cons_append]
  apply wpS_seq
  apply wpS_region
  simp [wpOpsS, go_sem, recoverD, hu, Tryz.ntmps28, Exit.thenS]
  refine wpS_of_wp ?_
  have hta := ta_fault w
  have hl2 := bel_cell (bel_alloc (Below.refl _ w) (.cells #[] 56)) hl
  have he2 := bel_cell (bel_alloc (Below.refl _ w) (.cells #[] 56)) he
  have fl2 := bel_frozen (bel_alloc (Below.refl _ w) (.cells #[] 56)) hl fl
  have fe2 := bel_frozen (bel_alloc (Below.refl _ w) (.cells #[] 56)) he fe
  have Hu := Lib.hid hu
  clear hu
  repeat go_step
  have hu := Hu.out
  cases c₀
  simp_all [bodyPostS, results, Tryz.results28]

theorem catch_idle (L E : Nat) (w : World) :
    CallsD Tryz.prog 28 #[.pointer (some ⟨L, 0, none⟩), .pointer (some ⟨E, 0, none⟩)] .returning w fun e u' w' =>
      e = .returned (.tuple #[]) ∧ u' = .returning ∧ w' = w := by
  refine callsD_of_wpS Tryz.func28 rfl fun c₀ cs hu => ?_
  simp only [Tryz.ntmps28, List.size_toArray, List.length_cons, List.length_nil, Nat.reduceAdd, Nat.reduceSub, Array.replicate_succ,
     Array.replicate_zero, List.push_toArray, List.append_toArray, List.nil_append, List.cons_append]
  apply wpS_seq
  apply wpS_region
  simp [wpOpsS, go_sem, recoverD, hu, Tryz.ntmps28, Exit.thenS]
  refine wpS_of_wp ?_
  go_wp2
  cases c₀
  simp_all [bodyPostS, results, Tryz.results28]

end Go.Proofs.YtnpfnjkghlgooaaGreatDoor
