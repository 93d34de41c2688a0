/-
  The walks of foundrylaw1.Twin and Kept.
  Conditions: lengths below 10^9.
-/
import Derived.Test.YtnpfnjkghlgooaaGreatDoorArSame
namespace Go.Proofs.YtnpfnjkghlgooaaGreatDoor
set_option linter.unusedVariables false
set_option linter.unusedSimpArgs false
open Go Go.RowKit

/-- A twin of these bytes: the bytes, and the mark behind them. -/
def TwinV (w : World) (v : Value) (b : List UInt8) : Prop := ∃ a c, v = .slice a b.length c ∧ b.length + 1 ≤ c ∧ c ≤ maxLen ∧ Cells w a ((b ++ [90]).map BV)
theorem TwinV.below {w w' : World} {v : Value} {b : List UInt8} (h : TwinV w v b) (hb : Below w.heap.size w w') : TwinV w' v b := by
  obtain ⟨a, c, hv, h1, h2, hc⟩ := h
  exact ⟨a, c, hv, h1, h2, hc.below hb⟩
theorem TwinV.rdB {w : World} {v : Value} {b : List UInt8} (h : TwinV w v b) : RdB w v b := by
  obtain ⟨a, c, hv, h1, h2, hc⟩ := h
  refine ⟨a, c, hv, by omega, h2, fun j u hj => hc j u ?_⟩
  rw [List.map_append, List.getElem?_append_left (List.getElem?_eq_some_iff.1 hj).1]
  exact hj

set_option maxHeartbeats 1000000 in
set_option maxRecDepth 20000 in
theorem law_Twin (v : Value) (b : List UInt8) (w : World) (hv : RdB w v b) (hl : b.length ≤ 1000000000) :
    Calls Tryz.prog 14 #[v] w fun e w' => ∃ v', e = .returned v' ∧ TwinV w' v' b ∧ Below w.heap.size w w' := by
  obtain ⟨a, c, rfl, hc1, hc2, -⟩ := id hv
  have Hv := Lib.hid hv; clear hv
  go_enter Tryz.func14, Tryz.ntmps14
  go_wp2_with (at_builtin; refine stop_here ?_)
  refine stop_out ?_
  refine wpList_app _ _ _ _ rfl rfl TB w.heap.size (Own.nil _ _ _ _) rfl (Src.rdB TB.und Hv.out) rfl ?ab1a ?ab1b ?ab1c ?_
  case ab1a => (first | omega | (simp only [List.length_append, List.length_map, List.length_cons, List.length_nil, List.length_reverse]; omega))
  case ab1b => (unfold maxLen; first | omega | (simp only [List.length_append, List.length_map, List.length_cons, List.length_nil, List.length_reverse]; omega))
  case ab1c => (first | omega | (simp only [World.size_alloc]; omega) | (simp; done) | exact (Hid.out ‹Hid (Below _ _ _)›).size | (refine Nat.le_trans (Hid.out ‹Hid (Below _ _ _)›).size ?_; simp))
  intro v1 w1 h1 h1g h1k
  have H1 := Lib.hid h1; clear h1
  have H1g := Lib.hid h1g; clear h1g
  have H1k := Lib.hid h1k; clear h1k
  have hb1 : Below w.heap.size w w1 := below_own (Below.refl _ _) (Nat.le_refl _) (Own.nil w w.heap.size 5 1) H1g.out
  have Hb1 := Lib.hid hb1; clear hb1
  have Ho1 := Lib.hid (H1.out.to (l := b) (by simp))
  clear H1 H1g H1k
  obtain ⟨a1, c1, rfl, -, -, -⟩ := Ho1.out.cells
  have hz1 := Hb1.out.size
  go_wp2_with (at_builtin; refine stop_here ?_)
  refine stop_out ?_
  refine wpList_app _ _ _ _ rfl rfl TB w.heap.size (Ho1.out.alloc _) rfl (Src.one1 TB.und _ rfl) rfl ?ab2ba ?ab2b ?ab2c ?_
  case ab2ba => (first | omega | (simp only [List.length_append, List.length_map, List.length_cons, List.length_nil, List.length_reverse]; omega))
  case ab2b => (unfold maxLen; first | omega | (simp only [List.length_append, List.length_map, List.length_cons, List.length_nil, List.length_reverse]; omega))
  case ab2c => (first | omega | (simp only [World.size_alloc]; omega) | (simp; done) | exact (Hid.out ‹Hid (Below _ _ _)›).size | (refine Nat.le_trans (Hid.out ‹Hid (Below _ _ _)›).size ?_; simp))
  intro v2 w2 h2 h2g h2k
  have H2 := Lib.hid h2; clear h2
  have H2g := Lib.hid h2g; clear h2g
  have H2k := Lib.hid h2k; clear h2k
  have hb2 := below_own (Hb1.out.alloc hz1 _) (by rw [World.size_alloc]; omega) (Ho1.out.alloc _) H2g.out
  have Hb2 := Lib.hid hb2; clear hb2
  obtain ⟨a2, c2, rfl, h3, h4, hc⟩ := H2.out.cells
  have hT : TwinV w2 (.slice a2 b.length c2) b := ⟨a2, c2, rfl, h3, h4, by rw [List.map_append]; exact hc⟩
  have HT := Lib.hid hT; clear hT hc H2 H2g H2k
  go_wp2_with fail
  go_ret
  exact ⟨_, rfl, HT.out, Hb2.out⟩

set_option maxHeartbeats 1000000 in
set_option maxRecDepth 20000 in
theorem law_Kept (v v2 : Value) (b : List UInt8) (w : World) (hv : TwinV w v b) (hv2 : RdB w v2 b) (hl : b.length ≤ 1000000000) :
    Calls Tryz.prog 18 #[v, v2] w fun e w' => e = .returned (.bool true) ∧ w = w' := by
  have hcv := run_str (P := Tryz.prog) TB.und Tryz.underlying5 Tryz.underlying9 hv.rdB
  have hcv2 := run_str (P := Tryz.prog) TB.und Tryz.underlying5 Tryz.underlying9 hv2
  obtain ⟨a, c, rfl, hc1, hc2, hc⟩ := id hv
  obtain ⟨a2, c2, rfl, hc3, hc4, -⟩ := id hv2
  obtain ⟨bl, o, rfl, hcell⟩ := hc b.length (BV 90) (by rw [List.map_append, List.getElem?_append_right (by simp)]; simp)
  unfold BV at hcell
  have hlc : (b.length : Int) + 1 ≤ c := by omega
  clear hc hv hv2
  go_enter Tryz.func18, Tryz.ntmps18
  go_wp2_with fail
  go_ret
  exact ⟨by simp, rfl⟩

end Go.Proofs.YtnpfnjkghlgooaaGreatDoor
