/-
  The walk of foundrylaw7.ArReads.
  Conditions: none.
-/
import Derived.Test.YtnpfnjkghlgooaaGreatDoorArLaw1
import Derived.Test.YtnpfnjkghlgooaaGreatDoorArRefR
import Derived.Test.YtnpfnjkghlgooaaGreatDoorArTwin
namespace Go.Proofs.YtnpfnjkghlgooaaGreatDoor
set_option linter.unusedVariables false
set_option linter.unusedSimpArgs false
open Go Go.RowKit

/-- What is left of members whose bytes are written over, one by one. -/
structure Left (w : World) (B n : Nat) (v : Value) (xs : List Value) (i : Nat) : Prop where
  own : Own w B 40 3 v n xs
  dat : ∀ (j : Nat) (vd : Value), i ≤ j → xs[3 * j + 1]? = some vd → ∃ m ys, Own w B 5 1 vd m ys ∧ m ≤ 1000000
  sepv : ∀ (j : Nat) (vd : Value), xs[3 * j + 1]? = some vd → Sep vd v
  sep : ∀ (j k : Nat) (vd vd' : Value), xs[3 * j + 1]? = some vd → xs[3 * k + 1]? = some vd' → j ≠ k → Sep vd vd'
theorem Left.step {w w' : World} {B n i : Nat} {v vd : Value} {xs : List Value} (h : Left w B n v xs i) (hi : xs[3 * i + 1]? = some vd) (hf : Fr (fun k => vd.ownBlock = some k) w w') : Left w' B n v xs (i + 1) := by
  refine ⟨h.own.keepFr hf (fun k hk => hk) (h.sepv i vd hi), fun j vd' hj hx => ?_, h.sepv, h.sep⟩
  obtain ⟨m, ys, h1, h2⟩ := h.dat j vd' (by omega) hx
  exact ⟨m, ys, h1.keepFr hf (fun k hk => hk) (h.sep i j vd vd' hi hx (by omega)), h2⟩

set_option maxHeartbeats 0 in
set_option maxRecDepth 20000 in
theorem law_ArReads (v : Value) (b : List UInt8) (w : World) (hv : RdB w v b) (hG : GlobE w) :
    Calls Tryz.prog 4 #[v] w fun e w' => e = .returned (.bool true) ∧ Below w.heap.size w w' := by
  obtain ⟨a, c, rfl, hc1, hc2, -⟩ := id hv
  have Hv := Lib.hid hv; clear hv
  have HG := Lib.hid hG; clear hG
  unfold maxLen at hc2
  go_enter Tryz.func4, Tryz.ntmps4
  go_wp2_with fail
  refine (law_begun _ HG.out).mono ?_
  rintro _ w1 ⟨rfl, hb1⟩
  have Hb1 := Lib.hid hb1; clear hb1
  by_cases hbig : (16384 : Int) < b.length
  · go_wp2_with fail
    go_ret
    exact ⟨rfl, Hb1.out⟩
  · have hsm : b.length ≤ 16384 := by omega
    go_wp2_with fail
    refine (law_Twin _ b w1 (Hv.out.below Hb1.out) (by omega)).mono ?_
    rintro _ wt ⟨tv, rfl, htw, hbt⟩
    obtain ⟨ta, tc, rfl, htc1, htc2, -⟩ := id htw
    have HT := Lib.hid htw; clear htw
    have Hbt := Lib.hid (bel_trans Hb1.out hbt); clear hbt
    go_wp2_with fail
    go_loopw [4, 5, 6, 7, 8, 9] (fun i _ _ _ _ _ wr => ∃ k : Nat, k ≤ 2 ∧ i = .int .i64 k ∧ Below wt.heap.size wt wr) (fun i _ _ _ _ _ _ => 2 - (intOf i).toNat)
    case atStart => exact ⟨0, by omega, rfl, Below.refl _ _⟩
    case round =>
      obtain ⟨k, hk, rfl, hb⟩ := hrel
      obtain ⟨wo, rfl⟩ : ∃ wo : World, wo = wr := ⟨_, rfl⟩
      have Hb := Lib.hid hb; clear hb
      have HbW := Lib.hid (Hbt.out.trans (Hb.out.mono Hbt.out.size))
      by_cases hlt : k < 2
      · go_wp2_with fail
        refine (ar_Read _ b wo (HT.out.below Hb.out).rdB (by omega) (HG.out.below HbW.out)).mono ?_
        rintro _ w3 ⟨h3, hb3⟩
        have Hb3 := Lib.hid (bel_trans Hb.out hb3)
        have Hb3r := Lib.hid hb3; clear hb3
        rcases h3 with ⟨rfl, hno⟩ | ⟨v3, ms, xs, rfl, hr3, ho3, h64, his, hun⟩
        · go_wp2_with fail
          refine (ref_Read _ b w3 ((Hv.out.below HbW.out).below Hb3r.out) (by omega)).mono ?_
          rintro _ w4 ⟨h4, hb4⟩
          have Hb4 := Lib.hid (bel_trans Hb3.out hb4)
          have Hb4r := Lib.hid (bel_trans Hb3r.out hb4); clear hb4
          rcases h4 with ⟨rfl, -⟩ | ⟨v4, ms4, xs4, rfl, -, -, -, his4, -⟩
          · have HNo := Lib.hid hno; clear hno
            go_wp2_with fail
            refine (law_Same _ _ [] [] w4 ⟨none, 0, rfl, Nat.zero_le _, Nat.zero_le _, fun i m h => by simp at h⟩ ⟨none, 0, rfl, Nat.zero_le _, Nat.zero_le _, fun i m h => by simp at h⟩ ⟨Nat.zero_le _, fun i h => by simp at h⟩ ⟨Nat.zero_le _, fun i h => by simp at h⟩).mono ?_
            rintro _ w5 ⟨⟨r, rfl, hr⟩, hb5⟩
            obtain rfl : r = true := hr.2 rfl
            have Hb5 := Lib.hid (bel_trans Hb4.out hb5)
            have Hb5r := Lib.hid (bel_trans Hb4r.out hb5); clear hb5 hr
            go_wp2_with fail
            refine (law_Kept _ _ b w5 (HT.out.below Hb5.out) ((Hv.out.below HbW.out).below Hb5r.out) (by omega)).mono ?_
            rintro _ _ ⟨rfl, rfl⟩
            go_wp2_with fail
            refine wp_loop_rounds 1 ?_
            rw [rounds_succ]
            go_wp2_with fail
            go_roundw
            case rel => exact ⟨k + 1, by omega, by go_num, Hb5.out⟩
            case measure => simp [intOf]; omega
          · exact (hno _ his4).elim
        · obtain ⟨sa, sc, rfl, -, -, -⟩ := hr3.own.cells
          have Hr3 := Lib.hid hr3; clear hr3
          have HO3 := Lib.hid ho3
          have hfit := ho3.fit (by omega) (by omega)
          have HF := Lib.hid hfit; clear hfit ho3
          go_wp2_with fail
          refine (ref_Read _ b w3 ((Hv.out.below HbW.out).below Hb3r.out) (by omega)).mono ?_
          rintro _ w4 ⟨h4, hb4⟩
          have Hb4 := Lib.hid (bel_trans Hb3.out hb4)
          have Hr4 := Lib.hid (Hr3.out.below hb4)
          have Hb4r := Lib.hid (bel_trans Hb3r.out hb4); clear hb4
          rcases h4 with ⟨rfl, hno⟩ | ⟨v4, ms4, xs4, rfl, hq4, -, -, his4, -⟩
          · exact (hno _ his).elim
          · have hms := hun _ his4
            subst hms
            have hq := hq4.rdM
            clear hq4
            obtain ⟨qa, qc, rfl, -, -, -⟩ := id hq
            have Hq := Lib.hid hq; clear hq
            have HIs := Lib.hid his
            clear his his4 hun
            go_wp2_with fail
            refine (law_Same _ _ ms ms w4 Hr4.out.rdM Hq.out HF.out HF.out).mono ?_
            rintro _ w5 ⟨⟨r, rfl, hr⟩, hb5⟩
            obtain rfl : r = true := hr.2 rfl
            have Hb5 := Lib.hid (bel_trans Hb4.out hb5)
            have Hr5 := Lib.hid (Hr4.out.below hb5)
            have Hb5r := Lib.hid (bel_trans Hb4r.out hb5); clear hb5 hr
            go_wp2_with fail
            refine (law_Kept _ _ b w5 (HT.out.below Hb5.out) ((Hv.out.below HbW.out).below Hb5r.out) (by omega)).mono ?_
            rintro _ _ ⟨rfl, rfl⟩
            have hlf : Left w5 wo.heap.size ms.length (.slice sa ms.length sc) xs 0 := by
              refine ⟨Hr5.out.own, fun j vd _ hx => ?_, Hr5.out.dat.sepv, Hr5.out.dat.sep⟩
              obtain ⟨l, h1⟩ := Hr5.out.dat.own j vd hx
              have hj : j < ms.length := by
                have h2 := (List.getElem?_eq_some_iff.1 hx).1
                have h3 := Hr5.out.mem.1
                omega
              obtain ⟨g1, vd2, vs2, g2, g3, g4, g5⟩ := Hr5.out.mem.2 j ms[j] (List.getElem?_eq_getElem hj)
              rw [hx] at g2
              cases g2
              obtain ⟨a9, c9, e9, -, -, -⟩ := g4
              obtain ⟨a8, c8, e8, -, -, -⟩ := h1.cells
              rw [e9] at e8
              have h4 : ms[j].data.length = (l.map BV).length := by simp only [Value.slice.injEq] at e8; exact e8.2.1
              have h5 := (HO3.out.each ms[j] (List.getElem_mem hj)).2.1
              exact ⟨_, _, h1, by omega⟩
            have HL := Lib.hid hlf; clear hlf
            have Hxl := Hr5.out.mem.1
            have HMm := Lib.hid (fun (j : Nat) (hj : j < ms.length) => Hr5.out.mem.2 j ms[j] (List.getElem?_eq_getElem hj))
            clear Hr5 Hr4 Hr3 Hq
            go_wp2_with fail
            go_loopw [9] (fun i wx => ∃ j : Nat, j ≤ ms.length ∧ i = .int .i64 j ∧ Left wx wo.heap.size ms.length (.slice sa ms.length sc) xs j ∧ Below wt.heap.size wt wx ∧ wo.heap.size ≤ wx.heap.size) (fun i _ => ms.length - (intOf i).toNat)
            case atStart => exact ⟨0, Nat.zero_le _, rfl, HL.out, Hb5.out, Hb5r.out.size⟩
            case round =>
              obtain ⟨j, hj, rfl, hlf, hbx, hzx⟩ := hrel
              have HL2 := Lib.hid hlf; clear hlf
              have Hbx := Lib.hid hbx; clear hbx
              by_cases hlt2 : j < ms.length
              · obtain ⟨-, vd, -, g2, -, hd, -⟩ := HMm.out j hlt2
                obtain ⟨m, ys, ho, hm⟩ := HL2.out.dat j vd (Nat.le_refl _) g2
                obtain ⟨da, dc, rfl, -, -, -⟩ := id ho.cells
                obtain ⟨a9, c9, e9, h9, h10, hcs⟩ := HL2.out.own.cells
                cases e9
                obtain ⟨b9, o9, e8, hcell⟩ := hcs (3 * j + 1) _ g2
                subst e8
                rw [Nat.mul_comm 3 j, ← Nat.add_assoc] at hcell
                have Ho := Lib.hid ho; clear ho hcs hd
                have G2 := Lib.hid g2; clear g2
                go_wp2_with fail
                refine (law_Spoil _ m ys _ wo.heap.size hzx Ho.out (by omega)).mono ?_
                rintro _ w6 ⟨rfl, hf6⟩
                have HL3 := Lib.hid (HL2.out.step G2.out hf6)
                have Hb6 := Lib.hid (below_fr Hbx.out hf6 Hbx.out.size (fun i _ h => by have := (Ho.out.lt i h).1; have := Hb.out.size; omega))
                have hz6 := hf6.size
                clear hf6
                go_wp2_with fail
                go_roundw
                case rel => exact ⟨j + 1, by omega, by go_num, HL3.out, Hb6.out, by omega⟩
                case measure => simp [intOf]; omega
              · go_wp2_with fail
                go_roundw
                case rel => exact ⟨k + 1, by omega, by go_num, Hbx.out⟩
                case measure => simp [intOf]; omega
      · go_wp2_with fail
        go_ret
        exact ⟨rfl, HbW.out⟩

end Go.Proofs.YtnpfnjkghlgooaaGreatDoor
