/-
  The walk of foundryref7.Write.
  Conditions: members that memory can bear; a million names at most.
-/
import Derived.Test.YtnpfnjkghlgooaaGreatDoorArRefW
namespace Go.Proofs.YtnpfnjkghlgooaaGreatDoor
set_option linter.unusedVariables false
set_option linter.unusedSimpArgs false
open Go Go.RowKit

theorem all_mAt {ms : List Mem} {p : Mem → Bool} (h : ms.all p = true) (k : Nat) (hk : k < ms.length) : p (mAt ms k) = true := by
  rw [mAt_lt ms k hk]; exact List.all_eq_true.1 h _ (List.getElem_mem hk)
theorem lim_of {ms : List Mem} (h : faultOf ms = 0) (hn : nsyms ms ≤ 1000000) : Lim ms := by
  unfold faultOf at h
  split at h
  · rename_i h1
    split at h
    · cases h
    · rename_i h2
      split at h
      · cases h
      · rename_i h3
        refine ⟨by omega, fun k hk => ?_, hn⟩
        have ho := all_mAt h1 k hk
        have hd : ¬ 1048576 < (mAt ms k).data.length := by
          intro hc
          apply h2
          rw [List.any_eq_true]
          exact ⟨mAt ms k, by rw [mAt_lt ms k hk]; exact List.getElem_mem hk, by simpa using hc⟩
        unfold okMem at ho
        rw [Bool.and_eq_true] at ho
        refine ⟨?_, by omega, fun j hj => ?_⟩
        · have := ho.1
          unfold okName at this
          simp only [Bool.and_eq_true, decide_eq_true_eq] at this
          rw [dl] at this
          omega
        · have := List.all_eq_true.1 ho.2 _ (List.getElem_mem hj)
          unfold okSym at this
          simp only [Bool.and_eq_true, decide_eq_true_eq] at this
          rw [dl] at this
          omega
  · cases h
theorem arBytes_le {ms : List Mem} (h : Lim ms) : (arBytes ms).length ≤ 1000000000 := by
  have h1 := bodyTo_le (front ms (placesOf ms (List.replicate ms.length 0))) ms h ms.length (Nat.le_refl _)
  have h2 := front_le ms (placesOf ms (List.replicate ms.length 0)) h
  have h3 := h.nsy
  have h4 := h.len
  unfold arBytes write
  omega
theorem placesOf_lt {ms : List Mem} (h : Lim ms) (ps : List Nat) : ∀ (i : Nat) (hi : i < (placesOf ms ps).length), (placesOf ms ps)[i] < 4294967296 := by
  intro i hi
  simp only [placesOf, placesTo, List.getElem_map, List.getElem_range, placeAt]
  simp only [placesOf, placesTo, List.length_map, List.length_range] at hi
  have h1 := bodyTo_le (front ms ps) ms h i (by omega)
  have h2 := front_le ms ps h
  have h3 := h.nsy
  have h4 := h.len
  omega
theorem run_mkI (n : Nat) (h : n ≤ 1000000) (w : World) : (Instr.makeSlice 52 (.int .i64 (n : Int)) (.int .i64 (n : Int))).run Tryz.prog w = .ok (.slice (some ⟨w.heap.size, 0, none⟩) n n) (w.alloc (.cells (mkC (.int .i64 0) n) 3)) := by
  obtain ⟨i, h1, h2, h3, h4⟩ := info_parts (show (Tryz.prog.info? 3).map (fun i => (i.zero, i.size, i.bytes)) = some (some (.int .i64 0), 1, 8) by kernel_rfl)
  exact run_mk Tryz.underlying52 h1 h2 h3 rfl n (by rw [h4]; omega) (by omega) w
theorem zeros_map (n : Nat) : (List.replicate n 0).map (fun (p : Nat) => (p : Int)) = List.replicate n (0 : Int) := by simp

set_option maxHeartbeats 1000000 in
theorem ref_Write (v : Value) (ms : List Mem) (w : World) (hv : RdM w v ms) (hf : Fit ms) (hn : nsyms ms ≤ 1000000) :
    Calls Tryz.prog 10 #[v] w fun e w' => ∃ bv, e = .returned (.tuple #[bv, .int .i64 (arWrite ms).2]) ∧ Own w' w.heap.size 5 1 bv (arWrite ms).1.length ((arWrite ms).1.map BV) ∧ Below w.heap.size w w' := by
  have hv' := hv
  obtain ⟨a, c, rfl, hc1, hc2, -⟩ := hv'
  have Hv := Lib.hid hv; clear hv
  have Hf := Lib.hid hf; clear hf
  by_cases hz : faultOf ms = 0
  · have hL := lim_of hz hn
    have hl := hL.len
    have HL := Lib.hid hL; clear hL
    have Hz := Lib.hid hz
    have hz' : (faultOf ms != 0) = false := by rw [hz]; rfl
    clear hz
    have hmk := run_mkI ms.length (by omega)
    go_enter Tryz.func10, Tryz.ntmps10
    go_wp2_with fail
    refine (ref_May _ ms _ Hv.out Hf.out).mono ?_
    rintro _ w1 ⟨rfl, rfl⟩
    go_wp2_with fail
    have hrz : RdI (w.alloc (.cells (mkC (.int .i64 0) ms.length) 3)) (.slice (some ⟨w.heap.size, 0, none⟩) ms.length ms.length) ((List.replicate ms.length 0).map fun (p : Nat) => (p : Int)) := by
      have h1 := own_mk w w.heap.size (Nat.le_refl _) 3 (.int .i64 0) ms.length (by unfold maxLen; omega)
      have h2 := Own.cells h1
      rw [List.length_replicate] at h2
      obtain ⟨a, c, e, k1, k2, k3⟩ := h2
      cases e
      rw [zeros_map]
      refine ⟨_, _, by rw [List.length_replicate], by rw [List.length_replicate]; exact k1, k2, by simpa using k3⟩
    have hba := (Below.refl w.heap.size w).alloc (Nat.le_refl _) (.cells (mkC (.int .i64 0) ms.length) 3)
    have Hba := Lib.hid hba; clear hba
    refine (ref_write _ _ ms (List.replicate ms.length 0) _ (Hv.out.below Hba.out) HL.out hrz (by simp) (by simp)).mono ?_
    rintro _ w1 ⟨bv, qv, rfl, hob, hoq, hb1⟩
    have Hob := Lib.hid hob; clear hob
    have Hoq := Lib.hid hoq; clear hoq
    have Hb1 := Lib.hid (Hba.out.trans (hb1.mono Hba.out.size)); clear hb1
    clear hmk
    go_wp2_with fail
    have hpl : (placesOf ms (List.replicate ms.length 0)).length = ms.length := by simp [placesOf, placesTo]
    have hrq : RdI w1 qv ((placesOf ms (List.replicate ms.length 0)).map fun (p : Nat) => (p : Int)) := by
      have h2 := Own.cells Hoq.out
      obtain ⟨a, c, e, k1, k2, k3⟩ := h2
      refine ⟨a, c, by rw [List.length_map, hpl]; exact e, by rw [List.length_map, hpl]; exact k1, k2, by rw [List.map_map]; exact k3⟩
    refine (ref_write _ _ ms _ _ (Hv.out.below Hb1.out) HL.out hrq hpl (placesOf_lt HL.out _)).mono ?_
    rintro _ w2 ⟨bv2, qv2, rfl, hob2, -, hb2⟩
    have hb2' := bel_trans Hb1.out hb2
    have Hob2 := Lib.hid (hob2.mono Hb1.out.size); clear hob2
    have Hb2 := Lib.hid hb2'; clear hb2' hb2 hrq
    have Hpl := Lib.hid hpl; clear hpl
    obtain ⟨ba, bc, rfl, _, _, _⟩ := Hob2.out.cells
    have hle := arBytes_le HL.out
    have e1 : (arWrite ms) = if 4194304 < (arBytes ms).length then ([], 6) else (arBytes ms, 0) := by
      unfold arWrite; rw [if_pos Hz.out]
    have E1 := Lib.hid e1; clear e1
    by_cases hbig : (4194304 : Int) < (arBytes ms).length
    · have hbig' : (4194304 : Int) < (write ms (placesOf ms (List.replicate ms.length 0))).length := hbig
      have e2 : arWrite ms = ([], 6) := by rw [E1.out, if_pos (by omega)]
      have E2 := Lib.hid e2; clear e2
      go_wp2_with fail
      go_ret2
      exact ⟨.slice none 0 0, by rw [E2.out]; rfl, by rw [E2.out]; exact Own.nil _ _ _ _, Hb2.out⟩
    · have hbig' : ¬ (4194304 : Int) < (write ms (placesOf ms (List.replicate ms.length 0))).length := hbig
      have e2 : arWrite ms = (arBytes ms, 0) := by rw [E1.out, if_neg (by omega)]
      have E2 := Lib.hid e2; clear e2
      go_wp2_with fail
      go_ret2
      exact ⟨_, by rw [E2.out]; rfl, by rw [E2.out]; exact Hob2.out, Hb2.out⟩
  · have hz' : (faultOf ms != 0) = true := by simpa using hz
    have e2 : arWrite ms = ([], faultOf ms) := by unfold arWrite; rw [if_neg hz]
    have E2 := Lib.hid e2; clear e2
    clear hz
    go_enter Tryz.func10, Tryz.ntmps10
    go_wp2_with fail
    refine (ref_May _ ms _ Hv.out Hf.out).mono ?_
    rintro _ w1 ⟨rfl, rfl⟩
    go_wp2_with fail
    go_ret2
    exact ⟨.slice none 0 0, by rw [E2.out]; rfl, by rw [E2.out]; exact Own.nil _ _ _ _, Below.refl _ _⟩

end Go.Proofs.YtnpfnjkghlgooaaGreatDoor
