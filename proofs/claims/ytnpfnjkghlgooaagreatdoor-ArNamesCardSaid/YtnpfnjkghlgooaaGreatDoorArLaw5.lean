/-
  The walk of foundrylaw7.ArNames.
  Conditions: none.
-/
import Derived.Test.YtnpfnjkghlgooaaGreatDoorArHead
namespace Go.Proofs.YtnpfnjkghlgooaaGreatDoor
set_option linter.unusedVariables false
set_option linter.unusedSimpArgs false
open Go Go.RowKit

theorem msN_rd (w : World) (N M : Nat) (dv : Value) (d : List UInt8) (hd : RdB w dv d) :
    RdM (w.alloc (.cells #[.string ⟨(nmA N).toArray⟩, dv, .slice none 0 0, .string ⟨(nmB M).toArray⟩, dv, .slice none 0 0] 40)) (.slice (some ⟨w.heap.size, 0, none⟩) 2 2) (msN N M d) := by
  have hd2 := hd.below (bel_alloc (Below.refl _ w) (.cells #[.string ⟨(nmA N).toArray⟩, dv, .slice none 0 0, .string ⟨(nmB M).toArray⟩, dv, .slice none 0 0] 40))
  refine ⟨_, 2, rfl, Nat.le_refl _, by decide, fun i m hi => ?_⟩
  have hi2 : i = 0 ∨ i = 1 := by
    have := (List.getElem?_eq_some_iff.1 hi).1
    simp [msN] at this; omega
  have hs : RdS (w.alloc (.cells #[.string ⟨(nmA N).toArray⟩, dv, .slice none 0 0, .string ⟨(nmB M).toArray⟩, dv, .slice none 0 0] 40)) (.slice none 0 0) [] := ⟨none, 0, rfl, Nat.zero_le _, Nat.zero_le _, Cells.nil _ _⟩
  have hc := fun j => cell_at (j := j) (heap_alloc_new w (.cells #[.string ⟨(nmA N).toArray⟩, dv, .slice none 0 0, .string ⟨(nmB M).toArray⟩, dv, .slice none 0 0] 40))
  rcases hi2 with rfl | rfl
  · have hm : m = ⟨⟨(nmA N).toArray⟩, d, []⟩ := (Option.some.inj hi).symm
    subst hm
    exact ⟨_, _, dv, _, rfl, hc 0, hc 1, hc 2, hd2, hs⟩
  · have hm : m = ⟨⟨(nmB M).toArray⟩, d, []⟩ := (Option.some.inj hi).symm
    subst hm
    exact ⟨_, _, dv, _, rfl, hc 3, hc 4, hc 5, hd2, hs⟩
theorem nmA_succ (k : Nat) : (⟨(nmA k).toArray⟩ : ByteArray) ++ ⟨#[97]⟩ = ⟨(nmA (k + 1)).toArray⟩ := by
  have := ba_app (nmA k) [97]
  refine this.trans ?_
  simp [nmA, List.replicate_succ']
theorem nmB_succ (k : Nat) : (⟨(nmB k).toArray⟩ : ByteArray) ++ ⟨#[98]⟩ = ⟨(nmB (k + 1)).toArray⟩ := by
  have := ba_app (nmB k) [98]
  refine this.trans ?_
  simp [nmB, List.replicate_succ']
theorem lgA_le (N : Nat) (h : N ≤ 128) : (lgA N).length ≤ 130 := by
  unfold lgA nmA; split <;> simp; omega
theorem lgN_le (N M : Nat) (h : N ≤ 128) (h2 : M ≤ 128) : (lgN N M).length ≤ 260 := by
  have := lgA_le N h
  unfold lgN nmB; split <;> simp <;> omega
theorem want0 (N : Nat) : wantOf ⟨(nmA N).toArray⟩ 0 = hnA N := by
  unfold wantOf hnA
  rw [ba_size, show (nmA N).length = N by simp [nmA]]
theorem want1 (N M : Nat) : wantOf ⟨(nmB M).toArray⟩ (lgA N).length = hnB N M := by
  unfold wantOf hnB
  rw [ba_size, show (nmB M).length = M by simp [nmB]]
theorem hnA_le (N : Nat) : (hnA N).length ≤ 16 := by
  unfold hnA
  split
  · simp [nmA]; omega
  · have := dig10 0 (by omega); simp; omega
theorem hnB_le (N M : Nat) (h : N ≤ 128) : (hnB N M).length ≤ 16 := by
  unfold hnB
  split
  · simp [nmB]; omega
  · have := lgA_le N h
    have := dig10 (lgA N).length (by omega); simp; omega

set_option maxHeartbeats 0 in
set_option maxRecDepth 20000 in
theorem law_ArNames (n m : Int) (v : Value) (d : List UInt8) (w : World) (hv : RdB w v d) (hG : GlobE w) :
    Calls Tryz.prog 6 #[.int .i64 n, .int .i64 m, v] w fun e w' => e = .returned (.bool true) ∧ Below w.heap.size w w' := by
  obtain ⟨a, c, rfl, hc1, hc2, -⟩ := id hv
  have Hv := Lib.hid hv; clear hv
  have HG := Lib.hid hG; clear hG
  unfold maxLen at hc2
  go_enter Tryz.func6, Tryz.ntmps6
  go_wp2_with fail
  refine (law_begun _ HG.out).mono ?_
  rintro _ w1 ⟨rfl, hb1⟩
  have Hb1 := Lib.hid hb1; clear hb1
  by_cases h1 : n < 1
  · go_wp2_with fail
    go_ret
    exact ⟨rfl, Hb1.out⟩
  by_cases h2 : 128 < n
  · go_wp2_with fail
    go_ret
    exact ⟨rfl, Hb1.out⟩
  by_cases h3 : m < 1
  · go_wp2_with fail
    go_ret
    exact ⟨rfl, Hb1.out⟩
  by_cases h4 : 128 < m
  · go_wp2_with fail
    go_ret
    exact ⟨rfl, Hb1.out⟩
  by_cases h5 : (300 : Int) < d.length
  · go_wp2_with fail
    go_ret
    exact ⟨rfl, Hb1.out⟩
  obtain ⟨N, rfl⟩ := Int.eq_ofNat_of_zero_le (show 0 ≤ n by omega)
  obtain ⟨M, rfl⟩ := Int.eq_ofNat_of_zero_le (show 0 ≤ m by omega)
  go_wp2_with fail
  go_loop [7] (fun s => ∃ k : Nat, k ≤ N ∧ s = .string ⟨(nmA k).toArray⟩) (fun s => N - (match s with | .string x => x.size | _ => 0))
  case atStart => exact ⟨0, Nat.zero_le _, rfl⟩
  case round =>
    obtain ⟨k, hk, rfl⟩ := hrel
    have hkl : (nmA k).length = k := by simp [nmA]
    by_cases hlt : k < N
    · go_wp2_with fail
      rw [nmA_succ]
      go_round
      case rel => exact ⟨k + 1, by omega, rfl⟩
      case measure =>
        show N - (⟨(nmA (k + 1)).toArray⟩ : ByteArray).size < N - (⟨(nmA k).toArray⟩ : ByteArray).size
        rw [ba_size, ba_size, hkl]
        simp only [nmA, List.length_replicate]; omega
    · obtain rfl : N = k := by omega
      clear hk hlt
      go_wp2_with fail
      go_loop [8] (fun s => ∃ k : Nat, k ≤ M ∧ s = .string ⟨(nmB k).toArray⟩) (fun s => M - (match s with | .string x => x.size | _ => 0))
      case atStart => exact ⟨0, Nat.zero_le _, rfl⟩
      case round =>
        obtain ⟨k, hk, rfl⟩ := hrel
        have hkl2 : (nmB k).length = k := by simp [nmB]
        by_cases hlt : k < M
        · go_wp2_with fail
          rw [nmB_succ]
          go_round
          case rel => exact ⟨k + 1, by omega, rfl⟩
          case measure =>
            show M - (⟨(nmB (k + 1)).toArray⟩ : ByteArray).size < M - (⟨(nmB k).toArray⟩ : ByteArray).size
            rw [ba_size, ba_size, hkl2]
            simp only [nmB, List.length_replicate]; omega
        · obtain rfl : M = k := by omega
          clear hk hlt
          have h5n : d.length ≤ 300 := by omega
          have hN1 : 1 ≤ N := by omega
          have hN2 : N ≤ 128 := by omega
          have hM1 : 1 ≤ M := by omega
          have hM2 : M ≤ 128 := by omega
          have HX := Lib.hid (msN_facts N M d hN1 hN2 hM1 hM2 h5n)
          have hflt := msN_fault N M d hN1 hN2 hM1 hM2 h5n
          have hwt := msN_weight N M d h5n
          have hlen := light_len (msN_lim N M d hN1 hN2 hM1 hM2 h5n) hwt
          have hfit := msN_fit N M d hN2 hM2 h5n
          have hns := light_nsy hwt
          have hE : arWrite (msN N M d) = (arBytes (msN N M d), 0) := by
            unfold arWrite
            rw [if_pos hflt, if_neg (by omega)]
          have HIs := Lib.hid (show Is (msN N M d) (arBytes (msN N M d)) from ⟨hflt, rfl⟩)
          have HF := Lib.hid hfit
          clear hflt hwt hfit
          go_wp2_with fail
          refine (ar_Write _ (msN N M d) _ (msN_rd w1 N M _ d (Hv.out.below Hb1.out)) HF.out hns (HG.out.below (bel_alloc Hb1.out _)).glob).mono ?_
          rintro _ w3 ⟨bv, rfl, hbv, hb3⟩
          rw [hE] at hbv ⊢
          have hrb := OwnL.rdB hbv
          generalize arBytes (msN N M d) = x at *
          obtain ⟨ba, bc, rfl, hbc1, hbc2, -⟩ := id hrb
          have Hb3 := Lib.hid (bel_trans (bel_alloc Hb1.out _) hb3); clear hb3 hbv hE
          have Hrb := Lib.hid hrb; clear hrb
          go_wp2_with fail
          refine (ar_Read _ x w3 Hrb.out hlen (HG.out.below Hb3.out)).mono ?_
          rintro _ w4 ⟨h4', hb4⟩
          have Hb4 := Lib.hid (bel_trans Hb3.out hb4)
          have Hrb4 := Lib.hid (Hrb.out.below hb4); clear hb4 Hrb
          rcases h4' with ⟨rfl, hno⟩ | ⟨v4, ms4, xs, rfl, hr4, -, -, -, hun⟩
          · exact (hno _ HIs.out).elim
          · have hms := hun _ HIs.out
            subst hms
            have hm := hr4.rdM
            clear hr4 hun
            obtain ⟨sa, sc, rfl, -, -, -⟩ := id hm
            obtain ⟨b0, o0, da0, dc0, sa0, sc0, rfl, c0x, -, -, -, -⟩ := hm.at 0 (by show 0 < 2; omega)
            obtain ⟨b1, o1, da1, dc1, sa1, sc1, e1, c1x, -, -, -, -⟩ := hm.at 1 (by show 1 < 2; omega)
            cases e1
            have c0 : w4.cell? ⟨b0, o0, none⟩ = some (.string ⟨(nmA N).toArray⟩) := by
              rw [Nat.zero_mul, Nat.add_zero] at c0x; exact c0x
            have c1 : w4.cell? ⟨b0, o0 + 3, none⟩ = some (.string ⟨(nmB M).toArray⟩) := by
              rw [Nat.one_mul] at c1x; exact c1x
            clear c0x c1x
            have Hm := Lib.hid hm; clear hm
            rw [show (msN N M d).length = 2 from rfl] at Hm ⊢
            go_upto_if 94 with fail
            go_cut [14] (fun sv wx => sv = .string ⟨(lgA N).toArray⟩ ∧ wx = w4)
            case first =>
              by_cases h15 : N ≤ 15
              · have h15' : ¬ (15 : Int) < N := by omega
                have e : lgA N = [] := by unfold lgA; rw [if_pos h15]
                go_wp2_with fail
                go_meet
                rw [e]
                exact ⟨rfl, rfl⟩
              · have h15' : (15 : Int) < N := by omega
                have e : lgA N = nmA N ++ [47, 10] := by unfold lgA; rw [if_neg h15]
                go_wp2_with fail
                go_meet
                rw [e]
                exact ⟨ret_strV (ba_app (nmA N) [47, 10]), rfl⟩
            case rest =>
              obtain ⟨rfl, rfl⟩ := hcut
              have hla := lgA_le N hN2
              obtain ⟨wl, rfl⟩ : ∃ wl : World, wl = wc := ⟨_, rfl⟩
              go_upto_if 100 with fail
              go_cut [14] (fun sv wx => sv = .string ⟨(lgN N M).toArray⟩ ∧ wx = wl)
              case first =>
                by_cases h15 : M ≤ 15
                · have h15' : ¬ (15 : Int) < M := by omega
                  have e : lgN N M = lgA N := by unfold lgN; rw [if_pos h15]
                  go_wp2_with fail
                  go_meet
                  rw [e]
                  exact ⟨rfl, rfl⟩
                · have h15' : (15 : Int) < M := by omega
                  have e : lgN N M = lgA N ++ nmB M ++ [47, 10] := by unfold lgN; rw [if_neg h15]
                  go_wp2_with fail
                  go_meet
                  rw [e]
                  refine ⟨ret_strV ?_, rfl⟩
                  have g1 := ba_app (lgA N) (nmB M)
                  have g2 := ba_app (lgA N ++ nmB M) [47, 10]
                  rw [g1]
                  exact g2
              case rest =>
                obtain ⟨rfl, hwx⟩ := hcut
                subst hwx
                have hln := lgN_le N M hN2 hM2
                obtain ⟨wl, rfl⟩ : ∃ wl : World, wl = wc := ⟨_, rfl⟩
                go_upto_if 106 with fail
                go_cut [13] (fun av wx => av = .int .i64 (atN N M : Nat) ∧ wx = wl)
                case first =>
                  by_cases hnil : lgN N M = []
                  · have e : atN N M = 8 := by unfold atN; rw [if_pos hnil]
                    have hnil' : (!(lgN N M).isEmpty) = false := by rw [hnil]; rfl
                    clear hnil
                    rw [hnil']
                    go_wp2_with fail
                    go_meet
                    rw [e]
                    exact ⟨rfl, rfl⟩
                  · have e : atN N M = 68 + (lgN N M).length + (lgN N M).length % 2 := by unfold atN; rw [if_neg hnil]
                    obtain ⟨q1, q2, q3⟩ := HX.out.lg hnil
                    have hpos : 0 < (lgN N M).length := List.length_pos_iff.2 hnil
                    have hnil' : (!(lgN N M).isEmpty) = true := by
                      cases hc : lgN N M with
                      | nil => exact (hnil hc).elim
                      | cons _ _ => rfl
                    obtain ⟨bx, ox, rfl, -⟩ := Hrb4.out.at 0 (by omega)
                    have hp1 := Hrb4.out.piece 8 10 (by omega) (by omega)
                    rw [show 10 - 8 = 2 from rfl, q1] at hp1
                    have hp2 := Hrb4.out.piece 68 (68 + (lgN N M).length) (by omega) (by omega)
                    rw [Nat.add_sub_cancel_left, q2] at hp2
                    have hcv1 := run_str (P := Tryz.prog) TB.und Tryz.underlying5 Tryz.underlying9 (hp1 (some ⟨bx, ox + 8, none⟩) 2 (bc - 8) (by (intro b o e he; cases e; first | rfl | (simp [Addr.add]; done) | (rw [if_neg (by omega)]; simp [Addr.add]; done) | (simp [Addr.add]; omega))) rfl rfl)
                    have hcv2 := run_str (P := Tryz.prog) TB.und Tryz.underlying5 Tryz.underlying9 (hp2 (some ⟨bx, ox + 68, none⟩) (lgN N M).length (bc - 68) (by (intro b o e he; cases e; first | rfl | (simp [Addr.add]; done) | (rw [if_neg (by omega)]; simp [Addr.add]; done) | (simp [Addr.add]; omega))) rfl rfl)
                    have hb8 : ¬ bc = 8 := by omega
                    have hb68 : ¬ bc = 68 := by omega
                    have hb10 : (10 : Int) ≤ bc := by omega
                    have hb69 : (68 : Int) + (lgN N M).length ≤ bc := by omega
                    have hlni : ((lgN N M).length : Int) ≤ 260 := by omega
                    have E := Lib.hid e
                    clear hp1 hp2 q1 q2 e hnil
                    rw [hnil']
                    clear hnil'
                    go_wp2_with fail
                    go_meet
                    rw [E.out]
                    exact ⟨by go_num, rfl⟩
                case rest =>
                  obtain ⟨rfl, hwx⟩ := hcut
                  subst hwx
                  have hx1 := HX.out.len
                  have hat : atN N M ≤ 400 := by unfold atN; split <;> omega
                  obtain ⟨wl, rfl⟩ : ∃ wl : World, wl = wc := ⟨_, rfl⟩
                  have H0 := Lib.hid (hd_of HX.out.h0 (by unfold nxN at hx1; omega) (hnA_le N) (by omega))
                  have H1 := Lib.hid (hd_of HX.out.h1 (by omega) (hnB_le N M hN2) (by omega))
                  rw [← want0 N] at H0
                  rw [← want1 N M] at H1
                  have hnx : ((atN N M : Nat) : Int) + 60 + (d.length : Int) + (d.length : Int) % 2 = ((nxN N M d : Nat) : Int) := by unfold nxN; omega
                  have hx2 : (x.length : Int) = ((nxN N M d : Nat) : Int) + 60 + d.length := by omega
                  have hnxl : ((nxN N M d : Nat) : Int) ≤ 1000 := by unfold nxN; omega
                  have hsA : (⟨(nmA N).toArray⟩ : ByteArray).size ≤ 200 := by rw [ba_size, hkl]; omega
                  have hsB : (⟨(nmB M).toArray⟩ : ByteArray).size ≤ 200 := by rw [ba_size, hkl2]; omega
                  have Hnx := Lib.hid hnx
                  have Hx2 := Lib.hid hx2
                  clear hnx hx2 hx1
                  go_upto_region 26 with (fail)
                  rw [Hnx.out]
                  go_wp2_with fail
                  refine (law_head _ x (atN N M) _ 0 _ Hrb4.out (by omega) hsA (by omega) H0.out).mono ?_
                  rintro _ w5 ⟨rfl, hb5⟩
                  have Hb5 := Lib.hid (bel_trans Hb4.out hb5)
                  have Hrb5 := Lib.hid (Hrb4.out.below hb5); clear hb5
                  go_wp2_with fail
                  refine (law_head _ x (nxN N M d) _ (lgA N).length _ Hrb5.out (by omega) hsB (by omega) H1.out).mono ?_
                  rintro _ w6 ⟨rfl, hb6⟩
                  have Hb6 := Lib.hid (bel_trans Hb5.out hb6); clear hb6
                  have hx2 := Hx2.out
                  go_wp2_with fail
                  go_ret
                  exact ⟨rfl, Hb6.out⟩

end Go.Proofs.YtnpfnjkghlgooaaGreatDoor
