/-
  The walk of ar.index.
  Conditions: members within the document's sizes.
-/
import Derived.Test.YtnpfnjkghlgooaaGreatDoorArRefV
namespace Go.Proofs.YtnpfnjkghlgooaaGreatDoor
set_option linter.unusedVariables false
set_option linter.unusedSimpArgs false
open Go Go.RowKit

theorem byte_cast (p d : Nat) : ((UInt8.ofNat (p / d % 256)).toNat : Int) = (p : Int) / d % 256 := by
  rw [UInt8.toNat_ofNat', Nat.mod_eq_of_lt (Nat.mod_lt _ (by decide))]; simp
theorem be4_cells (p : Nat) : (be4 p).map BV = [.int .u8 ((p : Int) / 16777216 % 256), .int .u8 ((p : Int) / 65536 % 256), .int .u8 ((p : Int) / 256 % 256), .int .u8 ((p : Int) % 256)] := by
  have h1 := byte_cast p 16777216
  have h2 := byte_cast p 65536
  have h3 := byte_cast p 256
  have h4 := byte_cast p 1
  rw [Nat.div_one] at h4
  simp only [be4, List.map_cons, List.map_nil, BV, h1, h2, h3, h4]
  simp

set_option maxHeartbeats 4000000 in
set_option maxRecDepth 100000 in
theorem ar_index (v : Value) (ms : List Mem) (at0 : Int) (w : World) (hv : RdM w v ms) (hf : Lim ms) (h0 : 0 ≤ at0) (h1 : at0 ≤ 1000000000) :
    Calls Tryz.prog 23 #[v, .int .i64 at0] w fun e w' => ∃ bv, e = .returned bv ∧ OwnL w' w.heap.size 5 bv ((index ms (plP at0.toNat ms)).map BV) ∧ Below w.heap.size w w' := by
  obtain ⟨A0, rfl⟩ := Int.eq_ofNat_of_zero_le h0
  simp only [Int.toNat_natCast]
  have hv' := hv
  obtain ⟨a, c, rfl, hc1, hc2, -⟩ := hv'
  have Hv := Lib.hid hv; clear hv
  have hl := hf.len
  have hn := hf.nsy
  have Hf := Lib.hid hf; clear hf
  go_enter Tryz.func23, Tryz.ntmps23
  go_wp2_with (at_builtin; refine stop_here ?_)
  go_loopw [5, 17] (fun n i wr => ∃ k : Nat, k ≤ ms.length ∧ i = .int .i64 k ∧ n = .int .i64 (nsyms (ms.take k) : Nat) ∧ Below w.heap.size w wr) (fun _ i _ => ms.length - (intOf i).toNat)
  case atStart => exact ⟨0, Nat.zero_le _, rfl, rfl, Below.refl _ _⟩
  case round =>
    obtain ⟨k, hk, rfl, rfl, hb⟩ := hrel
    have hz := hb.size
    have Hb := Lib.hid hb; clear hb
    have hs1 := nsyms_take_le ms k
    by_cases hlt : k < ms.length
    · obtain ⟨b, o, da, dc, sa, sc, rfl, c0, c1, c2, hd, hs⟩ := (Hv.out.below Hb.out).at' k hlt
      clear hd hs
      have hnk := nsyms_succ ms k hlt
      have hnk2 := nsyms_take_le ms (k + 1)
      have hsl : nsyms (ms.take k) + (mAt ms k).syms.length ≤ 1000000 := by omega
      have Hnk := Lib.hid hnk; clear hnk hnk2
      go_wp2_with fail
      go_roundw
      case rel => exact ⟨k + 1, by omega, by go_num, by rw [Hnk.out]; go_num, Hb.out.alloc hz _⟩
      case measure => simp [intOf]; omega
    · have hkk : k = ms.length := by omega
      have e1 : nsyms (ms.take k) = nsyms ms := by rw [hkk, List.take_length]
      rw [e1]
      clear e1 hs1 hkk
      go_wp2_with fail
      clear hk hlt
      refine (oct_Big4 _ _ (by omega) (by omega)).mono ?_
      rintro _ w1 ⟨v1, rfl, hv1, hb1⟩
      rw [Int.toNat_natCast, beB4] at hv1
      have Hv1 := Lib.hid (hv1.toL rfl); clear hv1
      have Hb1 := Lib.hid (Hb.out.trans (hb1.mono hz)); clear hb1
      go_wp2_with (at_builtin; refine stop_here ?_)
      go_loopw [1, 8, 10, 35] (fun p b t i wr => ∃ k : Nat, k ≤ ms.length ∧ i = .int .i64 k ∧ p = .int .i64 (atTo A0 ms k : Nat) ∧
        Tri w wr 5 5 5 b t (.slice none 0 0) ((be4 (nsyms ms) ++ idxTo ms (plP A0 ms) k).map BV) ((txtTo ms k).map BV) []) (fun _ _ _ i _ => ms.length - (intOf i).toNat)
      case atStart =>
        refine ⟨0, Nat.zero_le _, rfl, rfl, ⟨(Hv1.out.mono hz).toL (by simp [idxTo]), Own.nil _ _ _ _, Own.nil _ _ _ _, ?_, ?_, ?_, Hb1.out⟩⟩
        all_goals (intro k h1 h2; simp [Value.ownBlock] at h1 h2)
      case round =>
        obtain ⟨k, hk, rfl, rfl, hT⟩ := hrel
        have HT := Lib.hid hT; clear hT
        have hz2 := HT.out.be.size
        by_cases hlt : k < ms.length
        · obtain ⟨b, o, da, dc, sa, sc, rfl, c0, c1, c2, hd, hs⟩ := Hv.out.at' k hlt
          have hal := atTo_le A0 ms Hf.out k hk
          clear hd
          have Hs := Lib.hid hs; clear hs
          have c0' := bel_cell HT.out.be c0
          have c1' := bel_cell HT.out.be c1
          have c2' := bel_cell HT.out.be c2
          clear c0 c1 c2
          obtain ⟨wo, rfl⟩ : ∃ wo : World, wo = wr := ⟨_, rfl⟩
          have hnk := nsyms_succ ms k hlt
          have hnk2 := nsyms_take_le ms (k + 1)
          have hsl : nsyms (ms.take k) + (mAt ms k).syms.length ≤ 1000000 := by omega
          clear hnk2 hnk
          have hil := idxTo_length ms (plP A0 ms) k hk
          have Hil := Lib.hid hil; clear hil
          have htl := txtTo_le ms Hf.out k hk
          have hf2 := (Hf.out.each k hlt).2.2
          have hdl := (Hf.out.each k hlt).2.1
          have Hf2 := Lib.hid hf2; clear hf2
          have hev : evAt A0 ms k = atTo A0 ms k + atTo A0 ms k % 2 := rfl
          have hev2 : evAt A0 ms k ≤ 2000000000 := by omega
          have Hev := Lib.hid hev; clear hev
          go_wp2_with fail
          refine (ar_even _ _ (by omega) (by omega)).mono ?_
          rintro _ _ ⟨rfl, rfl⟩
          have ee : ((atTo A0 ms k : Nat) : Int) + ((atTo A0 ms k : Nat) : Int) % 2 = ((evAt A0 ms k : Nat) : Int) := by rw [Hev.out]; omega
          rw [ee]
          clear ee
          have TB0 := Lib.hid (HT.out.box (e := 40) #[.string (mAt ms k).name, .slice da (mAt ms k).data.length dc, .slice sa (mAt ms k).syms.length sc] 3 rfl (by omega))
          go_wp2_with fail
          clear c0' c1' c2'
          go_loopw [8, 10, 44] (fun b t j wr => ∃ i : Nat, i ≤ (mAt ms k).syms.length ∧ j = .int .i64 i ∧
            Tri w wr 5 5 40 b t (.slice (some ⟨wo.heap.size, 0, none⟩) 3 3) ((be4 (nsyms ms) ++ idxTo ms (plP A0 ms) k ++ (List.replicate i (be4 (evAt A0 ms k))).flatten).map BV) ((txtTo ms k ++ (((mAt ms k).syms.take i).map symText).flatten).map BV)
              [.string (mAt ms k).name, .slice da (mAt ms k).data.length dc, .slice sa (mAt ms k).syms.length sc]) (fun _ _ j _ => (mAt ms k).syms.length - (intOf j).toNat)
          case atStart => exact ⟨0, Nat.zero_le _, rfl, by simpa using TB0.out⟩
          case round =>
            obtain ⟨i, hi, rfl, hT⟩ := hrel
            have HT := Lib.hid hT; clear hT
            have hz3 := HT.out.be.size
            by_cases hlt2 : i < (mAt ms k).syms.length
            · obtain ⟨sb, so, rfl, hsc⟩ := (Hs.out.below HT.out.be).at i hlt2
              have hf3 : ((mAt ms k).syms[i].size : Int) ≤ 128 := by have := Hf2.out i hlt2; omega
              have hxl : (idxTo ms (plP A0 ms) k).length + (List.replicate i (be4 (evAt A0 ms k))).flatten.length ≤ 4000000 := by
                rw [Hil.out, rep4_length]; omega
              have htl2 : (txtTo ms k).length + (((mAt ms k).syms.take i).map symText).flatten.length ≤ 129000000 := by
                have := symTexts_le ((mAt ms k).syms.take i) (fun j hj => by rw [List.getElem_take]; exact Hf2.out j (by simp at hj; omega))
                rw [List.length_take] at this
                omega
              have htl3 : (mAt ms k).syms[i].data.toList.length ≤ 128 := by rw [dl]; omega
              have hb4 : (be4 (nsyms ms)).length ≤ 4 := Nat.le_refl _
              go_wp2_with (at_builtin; refine stop_here ?_)
              refine stop_out ?_
              refine wpList_app _ _ _ _ rfl rfl TB w.heap.size (HT.out.alloc _).oa rfl (Src.new TB.und _ 4 rfl (by intro u hu; simp at hu; rcases hu with rfl | rfl | rfl | rfl <;> rfl)) rfl ?ab1a ?ab1b ?ab1c ?_
              case ab1a => (first | omega | (simp only [List.length_append, List.length_map, List.length_cons, List.length_nil, List.length_reverse]; omega))
              case ab1b => (unfold maxLen; first | omega | (simp only [List.length_append, List.length_map, List.length_cons, List.length_nil, List.length_reverse]; omega))
              case ab1c => (first | omega | (simp only [World.size_alloc]; omega) | (simp; done) | exact (Hid.out ‹Hid (Below _ _ _)›).size | (refine Nat.le_trans (Hid.out ‹Hid (Below _ _ _)›).size ?_; simp))
              intro b2 w2 h2 h2g h2k
              have H2 := Lib.hid h2; clear h2
              have H2g := Lib.hid h2g; clear h2g
              have H2k := Lib.hid h2k; clear h2k
              have e2 : (be4 (nsyms ms) ++ idxTo ms (plP A0 ms) k ++ (List.replicate i (be4 (evAt A0 ms k))).flatten).map BV ++ [.int .u8 ((evAt A0 ms k : Nat) / 16777216), .int .u8 ((evAt A0 ms k : Nat) / 65536 % 256), .int .u8 ((evAt A0 ms k : Nat) / 256 % 256), .int .u8 ((evAt A0 ms k : Nat) % 256)] =
                  (be4 (nsyms ms) ++ idxTo ms (plP A0 ms) k ++ (List.replicate (i + 1) (be4 (evAt A0 ms k))).flatten).map BV := by
                have e0 : ((evAt A0 ms k : Nat) : Int) / 16777216 = ((evAt A0 ms k : Nat) : Int) / 16777216 % 256 := by omega
                rw [e0, ← be4_cells, ← List.map_append, List.replicate_succ']
                simp
              have T2 := Lib.hid ((HT.out.alloc _).app H2.out e2 H2g.out H2k.out)
              clear e2
              have hz4 := T2.out.be.size
              go_wp2_with (at_builtin; refine stop_here ?_)
              refine stop_out ?_
              refine wpList_app _ _ _ _ rfl rfl TB w.heap.size T2.out.ob rfl (Src.str Tryz.underlying9 _) rfl ?ab2ba ?ab2b ?ab2c ?_
              case ab2ba => (first | omega | (simp only [List.length_append, List.length_map, List.length_cons, List.length_nil, List.length_reverse]; omega))
              case ab2b => (unfold maxLen; first | omega | (simp only [List.length_append, List.length_map, List.length_cons, List.length_nil, List.length_reverse]; omega))
              case ab2c => (first | omega | (simp only [World.size_alloc]; omega) | (simp; done) | exact (Hid.out ‹Hid (Below _ _ _)›).size | (refine Nat.le_trans (Hid.out ‹Hid (Below _ _ _)›).size ?_; simp))
              intro t3 w3 h3 h3g h3k
              have H3 := Lib.hid h3; clear h3
              have H3g := Lib.hid h3g; clear h3g
              have H3k := Lib.hid h3k; clear h3k
              have T3 := Lib.hid ((T2.out.rot.app H3.out rfl H3g.out H3k.out).rot.rot)
              have hz5 := T3.out.be.size
              go_wp2_with (at_builtin; refine stop_here ?_)
              refine stop_out ?_
              refine wpList_app _ _ _ _ rfl rfl TB w.heap.size (T3.out.ob.alloc _) rfl (Src.one1 TB.und _ rfl) rfl ?ab3ca ?ab3cb ?ab3c ?_
              case ab3ca => (first | omega | (simp only [List.length_append, List.length_map, List.length_cons, List.length_nil, List.length_reverse]; omega))
              case ab3cb => (unfold maxLen; first | omega | (simp only [List.length_append, List.length_map, List.length_cons, List.length_nil, List.length_reverse]; omega))
              case ab3c => (first | omega | (simp only [World.size_alloc]; omega) | (simp; done) | exact (Hid.out ‹Hid (Below _ _ _)›).size | (refine Nat.le_trans (Hid.out ‹Hid (Below _ _ _)›).size ?_; simp))
              intro t4 w4 h4 h4g h4k
              have H4 := Lib.hid h4; clear h4
              have H4g := Lib.hid h4g; clear h4g
              have H4k := Lib.hid h4k; clear h4k
              have T4 := Lib.hid (((T3.out.alloc _).rot.app H4.out (txt_step _ _ i hlt2) H4g.out H4k.out).rot.rot)
              go_wp2_with (at_builtin; refine stop_here ?_)
              go_roundw
              case rel => exact ⟨i + 1, by omega, by go_num, T4.out⟩
              case measure => simp [intOf]; omega
            · have hii : i = (mAt ms k).syms.length := by omega
              obtain ⟨g1, -⟩ := HT.out.cellC rfl 1 _ rfl
              have T2 := HT.out.drop (e := 5)
              have e4 : (txtTo ms k ++ (((mAt ms k).syms.take i).map symText).flatten) = txtTo ms (k + 1) := by
                rw [hii, List.take_length]; rfl
              have e5 : (be4 (nsyms ms) ++ idxTo ms (plP A0 ms) k ++ (List.replicate i (be4 (evAt A0 ms k))).flatten) = be4 (nsyms ms) ++ idxTo ms (plP A0 ms) (k + 1) := by
                rw [hii, idxTo, plP_at A0 ms k hlt, List.append_assoc]
              rw [e4, e5] at T2
              have HT2 := Lib.hid T2
              clear e4 e5 T2 hii
              go_wp2_with (at_builtin; refine stop_here ?_)
              go_roundw
              case rel => exact ⟨k + 1, by omega, by go_num, by rw [atTo_succ]; go_num, HT2.out⟩
              case measure => simp [intOf]; omega
        · have hkk : k = ms.length := by omega
          subst hkk
          go_wp2_with (at_builtin; refine stop_here ?_)
          have hil := idxTo_length ms (plP A0 ms) ms.length (Nat.le_refl _)
          have htl := txtTo_le ms Hf.out ms.length (Nat.le_refl _)
          rw [List.take_length] at hil htl
          have hb4 : (be4 (nsyms ms)).length ≤ 4 := Nat.le_refl _
          refine stop_out ?_
          refine wpList_app _ _ _ _ rfl rfl TB w.heap.size HT.out.oa rfl (Src.rdB TB.und (OwnL.rdB HT.out.ob)) rfl ?_a ?_b ?_c ?_
          case _a => (first | omega | (simp only [List.length_append, List.length_map, List.length_cons, List.length_nil, List.length_reverse]; omega))
          case _b => (unfold maxLen; first | omega | (simp only [List.length_append, List.length_map, List.length_cons, List.length_nil, List.length_reverse]; omega))
          case _c => (first | omega | (simp only [World.size_alloc]; omega) | (simp; done) | exact (Hid.out ‹Hid (Below _ _ _)›).size | (refine Nat.le_trans (Hid.out ‹Hid (Below _ _ _)›).size ?_; simp))
          intro v2 w2 h2 h2g h2k
          have H2 := Lib.hid h2; clear h2
          have H2g := Lib.hid h2g; clear h2g
          have H2k := Lib.hid h2k; clear h2k
          go_wp2_with (at_builtin; refine stop_here ?_)
          go_ret
          exact ⟨_, rfl, H2.out.toL (by simp [index]), below_own HT.out.be hz2 HT.out.oa H2g.out⟩

end Go.Proofs.YtnpfnjkghlgooaaGreatDoor
