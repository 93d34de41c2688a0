/-
  The walk of foundrylaw7.ArWrites.
  Conditions: members that memory can bear.
-/
import Derived.Test.YtnpfnjkghlgooaaGreatDoorArLaw1
namespace Go.Proofs.YtnpfnjkghlgooaaGreatDoor
set_option linter.unusedVariables false
set_option linter.unusedSimpArgs false
open Go Go.RowKit

theorem light_parts {ms : List Mem} (h : lightB ms = true) : ms.length ≤ 80 ∧ weight ms ≤ 16384 := by
  unfold lightB at h
  rw [Bool.and_eq_true, decide_eq_true_eq, decide_eq_true_eq] at h
  exact h
theorem arWrite_le {ms : List Mem} (hw : weight ms ≤ 16384) : (arWrite ms).1.length ≤ 60000 := by
  by_cases h : (arWrite ms).2 = 0
  · exact (light_is hw h).2
  · unfold arWrite at h ⊢
    by_cases h1 : faultOf ms = 0
    · rw [if_pos h1] at h ⊢
      by_cases h2 : 4194304 < (arBytes ms).length
      · rw [if_pos h2]; exact Nat.zero_le _
      · rw [if_neg h2] at h; exact (h rfl).elim
    · rw [if_neg h1]; exact Nat.zero_le _

set_option maxHeartbeats 0 in
set_option maxRecDepth 20000 in
theorem law_ArWrites (v : Value) (ms : List Mem) (sym : ByteArray) (w : World) (hv : RdM w v ms) (hf : Fit ms) (hw : weight ms ≤ 1000000000000) (hG : GlobE w) :
    Calls Tryz.prog 3 #[v, .string sym] w fun e w' => e = .returned (.bool true) ∧ Below w.heap.size w w' := by
  obtain ⟨a, c, rfl, hc1, hc2, -⟩ := id hv
  have Hv := Lib.hid hv; clear hv
  have HF := Lib.hid hf; clear hf
  have HG := Lib.hid hG; clear hG
  go_enter Tryz.func3, Tryz.ntmps3
  go_wp2_with fail
  refine (law_begun _ HG.out).mono ?_
  rintro _ w1 ⟨rfl, hb1⟩
  have Hb1 := Lib.hid hb1; clear hb1
  go_wp2_with fail
  refine (law_light _ ms w1 (Hv.out.below Hb1.out) HF.out hw).mono ?_
  rintro _ w2 ⟨rfl, hb2⟩
  have Hb2 := Lib.hid (bel_trans Hb1.out hb2); clear hb2 Hb1
  cases hL : lightB ms with
  | false =>
    go_wp2_with fail
    go_ret
    exact ⟨rfl, Hb2.out⟩
  | true =>
    obtain ⟨-, hwt⟩ := light_parts hL
    clear hL hw
    have hns := light_nsy hwt
    have hle := arWrite_le hwt
    clear hwt
    go_wp2_with fail
    go_loopw [5, 6, 7, 8, 9, 10, 11, 12, 13] (fun i _ _ _ _ _ _ _ _ wr => ∃ k : Nat, k ≤ 2 ∧ i = .int .i64 k ∧ Below w.heap.size w wr) (fun i _ _ _ _ _ _ _ _ _ => 2 - (intOf i).toNat)
    case atStart => exact ⟨0, by omega, rfl, Hb2.out⟩
    case round =>
      obtain ⟨k, hk, rfl, hb⟩ := hrel
      have Hb := Lib.hid hb; clear hb Hb2
      by_cases hlt : k < 2
      · go_wp2_with fail
        refine (ar_Write _ ms _ (Hv.out.below Hb.out) HF.out hns (HG.out.below Hb.out).glob).mono ?_
        rintro _ w3 ⟨bv, rfl, hbv, hb3⟩
        obtain ⟨ba, bc, rfl, -, -, -⟩ := id hbv.cells
        rw [List.length_map] at hbv ⊢
        have Hb3 := Lib.hid (bel_trans Hb.out hb3); clear hb3
        have Hbv := Lib.hid (hbv.mono Hb.out.size); clear hbv
        go_wp2_with fail
        refine (ref_Write _ ms _ (Hv.out.below Hb3.out) HF.out hns).mono ?_
        rintro _ w4 ⟨cv, rfl, hcv, hb4⟩
        obtain ⟨ca, cc, rfl, -, -, -⟩ := id hcv.cells
        have Hb4 := Lib.hid (bel_trans Hb3.out hb4)
        have Hbv4 := Lib.hid (Hbv.out.below hb4); clear hb4 Hbv
        have Hcv := Lib.hid (hcv.mono Hb3.out.size); clear hcv
        go_wp2_with fail
        refine (ar_Find _ ms sym _ (Hv.out.below Hb4.out) HF.out).mono ?_
        rintro _ w5 ⟨rfl, hb5⟩
        have Hb5 := Lib.hid (bel_trans Hb4.out hb5)
        have Hbv5 := Lib.hid (Hbv4.out.below hb5)
        have Hcv5 := Lib.hid (Hcv.out.below hb5); clear hb5 Hbv4 Hcv
        go_wp2_with fail
        refine (ref_Find _ ms sym _ (Hv.out.below Hb5.out) HF.out).mono ?_
        rintro _ _ ⟨rfl, rfl⟩
        have hcv1 := run_str (P := Tryz.prog) TB.und Tryz.underlying5 Tryz.underlying9 (OwnL.rdB Hbv5.out)
        have hcv2 := run_str (P := Tryz.prog) TB.und Tryz.underlying5 Tryz.underlying9 (Own.rdB Hcv5.out)
        generalize (arWrite ms).2 = E at *
        generalize (arWrite ms).1 = l1 at *
        generalize (findAt ms sym).1 = n1 at *
        generalize (findAt ms sym).2 = f1 at *
        go_wp2_with fail
        refine (law_Spoil _ l1.length _ _ w.heap.size Hb5.out.size (Hbv5.out.cast (by rw [List.length_map]) rfl) (by omega)).mono ?_
        rintro _ w6 ⟨rfl, hf6⟩
        have Hb6 := Lib.hid (Below.own_fr Hb5.out Hb5.out.size Hbv5.out hf6 (fun k h => h))
        clear hcv1 hcv2 hf6
        go_wp2_with fail
        go_roundw
        case rel => exact ⟨k + 1, by omega, by go_num, Hb6.out⟩
        case measure => simp [intOf]; omega
      · go_wp2_with fail
        go_ret
        exact ⟨rfl, Hb.out⟩

end Go.Proofs.YtnpfnjkghlgooaaGreatDoor
