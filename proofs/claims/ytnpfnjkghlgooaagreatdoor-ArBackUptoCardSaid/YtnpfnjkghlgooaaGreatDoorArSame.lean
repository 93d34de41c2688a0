/-
  The walks of foundrylaw7.Same, foundrylaw1.Twin, foundrylaw1.Kept.
  Conditions: lengths below 10^9.
-/
import Derived.Test.YtnpfnjkghlgooaaGreatDoorArSpoil
namespace Go.Proofs.YtnpfnjkghlgooaaGreatDoor
set_option linter.unusedVariables false
set_option linter.unusedSimpArgs false
open Go Go.RowKit

theorem str_eq (a b : ByteArray) : (a.toList == b.toList) = true ↔ a = b := by
  rw [beq_iff_eq, ByteArray.toList_eq, ByteArray.toList_eq]
  exact ⟨fun h => ByteArray.ext (Array.toList_inj.1 h), fun h => by rw [h]⟩
/-- The first k of two rows are the same. -/
def sameTo {α : Type} (a b : List α) (k : Nat) : Prop := a.take k = b.take k
theorem sameTo_step {α : Type} {a b : List α} {k : Nat} (h : sameTo a b k) (ha : k < a.length) (hb : k < b.length) (he : a[k] = b[k]) : sameTo a b (k + 1) := by
  unfold sameTo at *
  rw [List.take_succ_eq_append_getElem ha, List.take_succ_eq_append_getElem hb, h, he]
theorem sameTo_end {α : Type} {a b : List α} {k : Nat} (h : sameTo a b k) (ha : a.length ≤ k) (hl : a.length = b.length) : a = b := by
  unfold sameTo at h
  rwa [List.take_of_length_le ha, List.take_of_length_le (by omega)] at h
theorem ne_at {α : Type} {a b : List α} {k : Nat} (ha : k < a.length) (hb : k < b.length) (he : ¬ a[k] = b[k]) : ¬ a = b := fun h => by
  subst h; exact he rfl

set_option maxHeartbeats 2000000 in
set_option maxRecDepth 20000 in
theorem law_Same (v v2 : Value) (ms ms2 : List Mem) (w : World) (hv : RdM w v ms) (hv2 : RdM w v2 ms2) (hf : Fit ms) (hf2 : Fit ms2) :
    Calls Tryz.prog 17 #[v, v2] w fun e w' => (∃ r, e = .returned (.bool r) ∧ (r = true ↔ ms = ms2)) ∧ Below w.heap.size w w' := by
  obtain ⟨a, c, rfl, hc1, hc2, -⟩ := id hv
  obtain ⟨a2, c2, rfl, hc3, hc4, -⟩ := id hv2
  have Hv := Lib.hid hv; clear hv
  have Hv2 := Lib.hid hv2; clear hv2
  have hl := hf.len
  have hl2 := hf2.len
  have Hf := Lib.hid hf; clear hf
  have Hf2 := Lib.hid hf2; clear hf2
  go_enter Tryz.func17, Tryz.ntmps17
  by_cases hlen : ms.length = ms2.length
  · have hlen' : ((ms.length : Int) == (ms2.length : Int)) = true := by rw [beq_iff_eq]; omega
    go_wp2_with fail
    go_loopw [5, 6] (fun i _ wr => ∃ k : Nat, k ≤ ms.length ∧ i = .int .i64 k ∧ sameTo ms ms2 k ∧ Below w.heap.size w wr) (fun i _ _ => ms.length - (intOf i).toNat)
    case atStart => exact ⟨0, Nat.zero_le _, rfl, rfl, Below.refl _ _⟩
    case round =>
      obtain ⟨k, hk, rfl, hs, hb⟩ := hrel
      obtain ⟨wo, rfl⟩ : ∃ wo : World, wo = wr := ⟨_, rfl⟩
      have Hs := Lib.hid hs; clear hs
      have Hb := Lib.hid hb; clear hb
      by_cases hlt : k < ms.length
      · have hlt2 : k < ms2.length := by omega
        obtain ⟨b, o, da, dc, sa, sc, rfl, c0, c1, c2, hd, hsy⟩ := (Hv.out.below Hb.out).at k hlt
        obtain ⟨b2, o2, da2, dc2, sa2, sc2, rfl, d0, d1, d2, hd2, hsy2⟩ := (Hv2.out.below Hb.out).at k hlt2
        have hcv := run_str (P := Tryz.prog) TB.und Tryz.underlying5 Tryz.underlying9 (hd.below (Below.drew (Below.refl _ _)))
        have hcv2 := run_str (P := Tryz.prog) TB.und Tryz.underlying5 Tryz.underlying9 (hd2.below (Below.drew (Below.refl _ _)))
        have Hsy := Lib.hid hsy; clear hsy
        have Hsy2 := Lib.hid hsy2; clear hsy2
        clear hd hd2
        have hne := fun h => ne_at hlt hlt2 h
        obtain ⟨m, hm⟩ : ∃ m, m = ms[k] := ⟨_, rfl⟩
        obtain ⟨m2, hm2⟩ : ∃ m2, m2 = ms2[k] := ⟨_, rfl⟩
        have hF := Hf.out.each k hlt
        have hF2 := Hf2.out.each k hlt2
        rw [← hm] at c0 c1 c2 hcv Hsy hF hne
        rw [← hm2] at d0 d1 d2 hcv2 Hsy2 hF2 hne
        have Hne := Lib.hid hne; clear hne
        have Hm := Lib.hid hm; clear hm
        have Hm2 := Lib.hid hm2; clear hm2
        have hs1 : m.syms.length ≤ 1000000000 := hF.2.2.1
        have hs2 : m2.syms.length ≤ 1000000000 := hF2.2.2.1
        have HF := Lib.hid hF; clear hF
        have HF2 := Lib.hid hF2; clear hF2
        go_upto_region 6 with (fail)
        cases e1 : (m.name.toList == m2.name.toList) with
        | false =>
          have HN := Lib.hid (Hne.out fun h => by rw [h] at e1; simp at e1)
          go_region
          all_goals
            go_wp2_with fail
            go_ret
            exact ⟨⟨_, rfl, by simpa using HN.out⟩, below_drewN Hb.out 1⟩
        | true =>
          cases e2 : (m.data == m2.data) with
          | false =>
            have HN := Lib.hid (Hne.out fun h => by rw [h] at e2; simp at e2)
            go_region
            all_goals
              go_wp2_with fail
              go_ret
              exact ⟨⟨_, rfl, by simpa using HN.out⟩, below_drewN Hb.out 1⟩
          | true =>
            cases e3 : ((m.syms.length : Int) == (m2.syms.length : Int)) with
            | false =>
              have HN := Lib.hid (Hne.out fun h => by rw [h] at e3; simp at e3)
              go_region
              all_goals
                go_wp2_with fail
                go_ret
                exact ⟨⟨_, rfl, by simpa using HN.out⟩, below_drewN Hb.out 1⟩
            | true =>
              go_cut [58] (fun tv wx => tv = .bool false ∧ wx = wo.drew)
              case first =>
                go_region
                all_goals
                  go_wp2_with fail
                  go_meet
                  exact ⟨congrArg Value.bool (by simp only [bne, e3]; rfl), rfl⟩
              case rest =>
                obtain ⟨rfl, rfl⟩ := hcut
                have E1 := Lib.hid ((str_eq _ _).1 e1)
                have E2 := Lib.hid (show m.data = m2.data by simpa using e2)
                have hsl : m.syms.length = m2.syms.length := by rw [beq_iff_eq] at e3; omega
                clear e1 e2 e3 hcv hcv2
                have HbD := Lib.hid (below_drewN Hb.out 1)
                have HSy := Lib.hid (Hsy.out.below (Below.drew (Below.refl _ _)))
                have HSy2 := Lib.hid (Hsy2.out.below (Below.drew (Below.refl _ _)))
                clear d0 d1 c0 c1
                go_wp2_with fail
                go_loopw [6] (fun jv wx => ∃ i : Nat, i ≤ m.syms.length ∧ jv = .int .i64 i ∧ sameTo m.syms m2.syms i ∧ Below wo.heap.size wo wx) (fun jv _ => m.syms.length - (intOf jv).toNat)
                case atStart => exact ⟨0, Nat.zero_le _, rfl, rfl, Below.drew (Below.refl _ _)⟩
                case round =>
                  obtain ⟨i, hi, rfl, hss, hb3⟩ := hrel
                  have Hss := Lib.hid hss; clear hss
                  have f2 := bel_cell hb3 c2
                  have f3 := bel_cell hb3 d2
                  have Hb3 := Lib.hid hb3; clear hb3
                  by_cases hlt3 : i < m.syms.length
                  · obtain ⟨b3, o3, rfl, g1⟩ := (Hsy.out.below Hb3.out).at i hlt3
                    obtain ⟨b4, o4, rfl, g2⟩ := (Hsy2.out.below Hb3.out).at i (by omega)
                    have hlt4 : i < m2.syms.length := by omega
                    cases e4 : (m.syms[i].toList == m2.syms[i].toList) with
                    | false =>
                      have HN := Lib.hid (Hne.out fun h => by
                        have h9 : m.syms[i] = m2.syms[i] := by subst h; rfl
                        rw [h9] at e4; simp at e4)
                      go_upto_region 11 with (fail)
                      go_region
                      all_goals
                        go_wp2_with fail
                        go_ret
                        exact ⟨⟨_, rfl, by simpa using HN.out⟩, below_drewN (bel_trans Hb.out Hb3.out) 1⟩
                    | true =>
                      have E4 := Lib.hid ((str_eq _ _).1 e4)
                      go_upto_region 11 with (fail)
                      go_region
                      all_goals
                        go_wp2_with fail
                        go_roundw
                        case rel => exact ⟨i + 1, by omega, by go_num, sameTo_step Hss.out hlt3 hlt4 E4.out, below_drewN Hb3.out 1⟩
                        case measure => simp [intOf]; omega
                  · have hse := sameTo_end Hss.out (by omega) hsl
                    have hmm : m = m2 := by
                      have g1 := E1.out
                      have g2 := E2.out
                      cases m; cases m2
                      simp only at g1 g2 hse
                      subst g1; subst g2; subst hse; rfl
                    have Hst := Lib.hid (sameTo_step Hs.out hlt hlt2 (by rw [← Hm.out, ← Hm2.out]; exact hmm))
                    clear hse hmm
                    go_wp2_with fail
                    go_roundw
                    case rel => exact ⟨k + 1, by omega, by go_num, Hst.out, bel_trans Hb.out Hb3.out⟩
                    case measure => simp [intOf]; omega
      · go_wp2_with fail
        go_ret
        have := sameTo_end Hs.out (by omega) hlen
        exact ⟨⟨_, rfl, by simpa using this⟩, Hb.out⟩
  · have hlen' : ((ms.length : Int) == (ms2.length : Int)) = false := by rw [beq_eq_false_iff_ne]; omega
    have HN := Lib.hid (show ¬ ms = ms2 from fun h => hlen (by rw [h]))
    go_wp2_with fail
    go_ret
    exact ⟨⟨_, rfl, by simpa using HN.out⟩, Below.refl _ _⟩

end Go.Proofs.YtnpfnjkghlgooaaGreatDoor
