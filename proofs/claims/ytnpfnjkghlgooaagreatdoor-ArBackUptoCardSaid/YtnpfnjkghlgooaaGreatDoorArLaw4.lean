/-
  The walk of foundrylaw7.ArBack.
  Conditions: members that memory can bear.
-/
import Derived.Test.YtnpfnjkghlgooaaGreatDoorArLaw2
import Derived.Test.YtnpfnjkghlgooaaGreatDoorArSame
namespace Go.Proofs.YtnpfnjkghlgooaaGreatDoor
set_option linter.unusedVariables false
set_option linter.unusedSimpArgs false
open Go Go.RowKit

theorem arWrite_err {ms : List Mem} (h : ¬ (arWrite ms).2 = 0) : (arWrite ms).1 = [] := by
  unfold arWrite at h ⊢
  by_cases h1 : faultOf ms = 0
  · rw [if_pos h1] at h ⊢
    by_cases h2 : 4194304 < (arBytes ms).length
    · rw [if_pos h2]
    · rw [if_neg h2] at h; exact (h rfl).elim
  · rw [if_neg h1]
theorem is_empty {b : List UInt8} (h : Is [] b) : b.length % 2 = 0 := by
  rw [← h.2]; rfl
theorem findAt_le (ms : List Mem) (i : Nat) (hi : i < ms.length) (k : Nat) (hk : k < ms[i].syms.length) : ∃ n, findAt ms ms[i].syms[k] = (n, true) ∧ n ≤ i := by
  have hp : hasSym ms[i].syms[k] ms[i] = true := by
    unfold hasSym
    rw [List.any_eq_true]
    exact ⟨_, List.getElem_mem hk, beq_self_eq_true _⟩
  unfold findAt
  cases h : ms.findIdx? (hasSym ms[i].syms[k]) with
  | none =>
    rw [List.findIdx?_eq_none_iff] at h
    have := h _ (List.getElem_mem hi)
    rw [hp] at this; cases this
  | some n =>
    refine ⟨n, rfl, ?_⟩
    rw [List.findIdx?_eq_some_iff_getElem] at h
    obtain ⟨h1, h2, h3⟩ := h
    rcases Nat.lt_or_ge i n with h4 | h4
    · exact (h3 i h4 hp).elim
    · exact h4

set_option maxHeartbeats 0 in
set_option maxRecDepth 20000 in
theorem law_ArBack (v : Value) (ms : List Mem) (w : World) (hv : RdM w v ms) (hf : Fit ms) (hw : weight ms ≤ 1000000000000) (hG : GlobE w) :
    Calls Tryz.prog 5 #[v] w fun e w' => e = .returned (.bool true) ∧ Below w.heap.size w w' := by
  obtain ⟨a, c, rfl, hc1, hc2, -⟩ := id hv
  have Hv := Lib.hid hv; clear hv
  have HF := Lib.hid hf; clear hf
  have HG := Lib.hid hG; clear hG
  go_enter Tryz.func5, Tryz.ntmps5
  go_wp2_with fail
  refine (law_begun _ HG.out).mono ?_
  rintro _ w1 ⟨rfl, hb1⟩
  have Hb1 := Lib.hid hb1; clear hb1
  go_wp2_with fail
  refine (law_light _ ms w1 (Hv.out.below Hb1.out) HF.out hw).mono ?_
  rintro _ w2 ⟨rfl, hb2⟩
  have Hb2 := Lib.hid (bel_trans Hb1.out hb2); clear hb2 Hb1
  cases hL : lightB ms with
  | false =>
    go_wp2_with fail
    go_ret
    exact ⟨rfl, Hb2.out⟩
  | true =>
    obtain ⟨-, hwt⟩ := light_parts hL
    clear hL hw
    have hns := light_nsy hwt
    have Hli := Lib.hid (fun h => light_is hwt h)
    have Her := Lib.hid (fun h => arWrite_err (ms := ms) h)
    have hlt0 : ms.length ≤ 1000000000 := HF.out.len
    clear hwt
    go_wp2_with fail
    refine (ar_Write _ ms _ (Hv.out.below Hb2.out) HF.out hns (HG.out.below Hb2.out).glob).mono ?_
    rintro _ w3 ⟨bv, rfl, hbv, hb3⟩
    obtain ⟨ba, bc, rfl, -, -, -⟩ := id hbv.cells
    have hrb := OwnL.rdB hbv
    rw [List.length_map] at hrb ⊢
    have Hb3 := Lib.hid (bel_trans Hb2.out hb3); clear hb3 hbv
    have Hrb := Lib.hid hrb; clear hrb
    by_cases hE : (arWrite ms).2 = 0
    · obtain ⟨his, hle⟩ := Hli.out hE
      have Hwr := Lib.hid (fun (v : Value) (w : World) hv hG => ar_Write v ms w hv HF.out hns hG)
      rw [hE] at Hwr ⊢
      generalize (arWrite ms).1 = l1 at *
      clear Hli Her hE
      have HIs := Lib.hid his; clear his
      go_wp2_with fail
      refine (ar_Read _ l1 w3 Hrb.out hle (HG.out.below Hb3.out)).mono ?_
      rintro _ w4 ⟨h4, hb4⟩
      have Hb4 := Lib.hid (bel_trans Hb3.out hb4)
      have Hrb4 := Lib.hid (Hrb.out.below hb4); clear hb4 Hrb
      rcases h4 with ⟨rfl, hno⟩ | ⟨v4, ms4, xs, rfl, hr4, -, -, -, hun⟩
      · exact (hno _ HIs.out).elim
      · have hms := hun _ HIs.out
        subst hms
        have hm := hr4.rdM
        clear hr4 hun
        obtain ⟨sa, sc, rfl, -, -, -⟩ := id hm
        have Hm := Lib.hid hm; clear hm
        go_wp2_with fail
        refine (Hwr.out _ w4 Hm.out (HG.out.below Hb4.out).glob).mono ?_
        rintro _ w5 ⟨cv, rfl, hcv, hb5⟩
        obtain ⟨ca, cc, rfl, -, -, -⟩ := id hcv.cells
        have hrc := OwnL.rdB hcv
        rw [List.length_map] at hrc ⊢
        have Hb5 := Lib.hid (bel_trans Hb4.out hb5)
        have Hrb5 := Lib.hid (Hrb4.out.below hb5)
        have Hm5 := Lib.hid (Hm.out.below hb5)
        have Hrc := Lib.hid hrc
        clear hrc hcv hb5 Hrb4 Hm
        go_wp2_with fail
        refine (law_Same _ _ ms4 ms4 w5 (Hv.out.below Hb5.out) Hm5.out HF.out HF.out).mono ?_
        rintro _ w6 ⟨⟨r, rfl, hr⟩, hb6⟩
        obtain rfl : r = true := hr.2 rfl
        have Hb6 := Lib.hid (bel_trans Hb5.out hb6)
        have Hm6 := Lib.hid (Hm5.out.below hb6)
        have hcv1 := run_str (P := Tryz.prog) TB.und Tryz.underlying5 Tryz.underlying9 (Hrb5.out.below hb6)
        have hcv2 := run_str (P := Tryz.prog) TB.und Tryz.underlying5 Tryz.underlying9 (Hrc.out.below hb6)
        clear hb6 hr Hm5 Hrb5 Hrc
        have hodd : (((l1.length : Int) % 2 == 1) = false) ∨ ((((l1.length : Int) % 2 == 1) = true) ∧ ((ms4.length : Int) == 0) = false) := by
          rcases Nat.mod_two_eq_zero_or_one l1.length with h | h
          · left; rw [beq_eq_false_iff_ne]; omega
          · right
            refine ⟨by rw [beq_iff_eq]; omega, ?_⟩
            rw [beq_eq_false_iff_ne]
            intro h0
            have h1 : ms4 = [] := List.eq_nil_of_length_eq_zero (by omega)
            have h2 := HIs.out
            rw [h1] at h2
            have := is_empty h2
            omega
        have goal_rest : True := trivial
        rcases hodd with h1 | ⟨h1, h2⟩
        all_goals
          go_wp2_with fail
          clear hcv1 hcv2
          go_loopw [9, 10, 11, 12] (fun i _ _ _ wr => ∃ k : Nat, k ≤ ms4.length ∧ i = .int .i64 k ∧ Below w6.heap.size w6 wr) (fun i _ _ _ _ => ms4.length - (intOf i).toNat)
          case atStart => exact ⟨0, Nat.zero_le _, rfl, Below.refl _ _⟩
          case round =>
            obtain ⟨k, hk, rfl, hb⟩ := hrel
            have Hb := Lib.hid hb; clear hb
            obtain ⟨wo, rfl⟩ : ∃ wo : World, wo = wr := ⟨_, rfl⟩
            by_cases hlt : k < ms4.length
            · have Hfa := Lib.hid (findAt_le ms4 k hlt)
              have hsl := (HF.out.each k hlt).2.2.1
              go_wp2_with fail
              go_loopw [10, 11, 12] (fun j _ _ wx => ∃ i : Nat, i ≤ ms4[k].syms.length ∧ j = .int .i64 i ∧ Below w6.heap.size w6 wx) (fun j _ _ _ => ms4[k].syms.length - (intOf j).toNat)
              case atStart => exact ⟨0, Nat.zero_le _, rfl, Hb.out⟩
              case round =>
                obtain ⟨i, hi, rfl, hbx⟩ := hrel
                have Hbx := Lib.hid hbx; clear hbx
                obtain ⟨b0, o0, da, dc, sa0, sc0, rfl, -, -, c2, -, hs⟩ := ((Hv.out.below Hb6.out).below Hbx.out).at k hlt
                by_cases hlt2 : i < ms4[k].syms.length
                · obtain ⟨b1, o1, rfl, c1⟩ := hs.at i hlt2
                  obtain ⟨n, hfa, hnk⟩ := Hfa.out i hlt2
                  have Hs := Lib.hid hs; clear hs
                  go_wp2_with fail
                  refine (ar_Find _ ms4 ms4[k].syms[i] _ (Hm6.out.below Hbx.out) HF.out).mono ?_
                  rintro _ w7 ⟨rfl, hb7⟩
                  rw [hfa]
                  have Hb7 := Lib.hid (bel_trans Hbx.out hb7); clear hb7
                  clear c1 c2
                  go_wp2_with fail
                  go_roundw
                  case rel => exact ⟨i + 1, by omega, by go_num, Hb7.out⟩
                  case measure => simp [intOf]; omega
                · have Hs := Lib.hid hs; clear hs
                  go_wp2_with fail
                  go_roundw
                  case rel => exact ⟨k + 1, by omega, by go_num, Hbx.out⟩
                  case measure => simp [intOf]; omega
            · go_wp2_with fail
              go_ret
              exact ⟨rfl, bel_trans Hb6.out Hb.out⟩
    · have hem := Her.out hE
      have hE' : ((arWrite ms).2 == 0) = false := by rw [beq_eq_false_iff_ne]; exact hE
      rw [hem] at Hrb ⊢
      generalize (arWrite ms).2 = E at *
      clear Her Hli hem
      go_wp2_with fail
      go_ret
      exact ⟨rfl, Hb3.out⟩

end Go.Proofs.YtnpfnjkghlgooaaGreatDoor
