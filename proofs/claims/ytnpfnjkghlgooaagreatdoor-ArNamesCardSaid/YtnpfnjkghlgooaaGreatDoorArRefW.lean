/-
  The walk of foundryref7.write, and of foundryref7.Write.
  Conditions: members within the document's sizes.
-/
import Derived.Test.YtnpfnjkghlgooaaGreatDoorArMem
import Derived.StillTailTactics
namespace Go.Proofs.YtnpfnjkghlgooaaGreatDoor
set_option linter.unusedVariables false
set_option linter.unusedSimpArgs false
open Go Go.RowKit

theorem RdM.at' {w : World} {a : Option Addr} {n c : Nat} {ms : List Mem} (h : RdM w (.slice a n c) ms) (i : Nat) (hi : i < ms.length) :
    ∃ b o da dc sa sc, a = some ⟨b, o, none⟩ ∧ w.cell? ⟨b, o + i * 3, none⟩ = some (.string (mAt ms i).name) ∧ w.cell? ⟨b, o + i * 3 + 1, none⟩ = some (.slice da (mAt ms i).data.length dc) ∧
      w.cell? ⟨b, o + i * 3 + 2, none⟩ = some (.slice sa (mAt ms i).syms.length sc) ∧ RdB w (.slice da (mAt ms i).data.length dc) (mAt ms i).data ∧ RdS w (.slice sa (mAt ms i).syms.length sc) (mAt ms i).syms := by
  rw [mAt_lt ms i hi]; exact h.at i hi

/-- '[]byte("!<arch>\n")', as the two texts lay it. -/
theorem own_magic (w : World) (B : Nat) (hB : B ≤ w.heap.size) (fr : Nat × Nat) (hf : fr.2 ≤ fr.1 ∨ 8 ≤ fr.1) : Own (w.alloc (.cells (magic.map BV).toArray 5 fr)) B 5 1 (.slice (some ⟨w.heap.size, 0, none⟩) 8 8) magic.length (magic.map BV) :=
  ⟨rfl, .inr ⟨w.heap.size, 8, _, fr.1, fr.2, rfl, hB, heap_alloc_new w _, by simpa using hf, Nat.le_refl _, by unfold maxLen; omega, by simp [magic], by simp [magic]⟩⟩

/-- The names in headers, k of n of them laid. -/
def nmV (ms : List Mem) (k : Nat) : Value := .string ⟨(nmAt ms k).toArray⟩
def nmsTo (ms : List Mem) (k : Nat) : List Value := (List.range k).map (nmV ms) ++ List.replicate (ms.length - k) (.string ⟨#[]⟩)
theorem nmsTo_length (ms : List Mem) (k : Nat) (hk : k ≤ ms.length) : (nmsTo ms k).length = ms.length := by
  simp [nmsTo]; omega
theorem nmsTo_at (ms : List Mem) (k : Nat) (hk : k < ms.length) : (nmsTo ms k)[k]? = some (.string ⟨#[]⟩) := by
  unfold nmsTo
  rw [List.getElem?_append_right (by simp)]
  simp only [List.length_map, List.length_range, Nat.sub_self]
  rw [show ms.length - k = (ms.length - (k + 1)) + 1 by omega, List.replicate_succ]
  rfl
theorem nmsTo_set (ms : List Mem) (k : Nat) (hk : k < ms.length) : (nmsTo ms k).set k (nmV ms k) = nmsTo ms (k + 1) := by
  unfold nmsTo
  rw [List.set_append_right _ _ (by simp), List.range_succ, List.map_append, List.append_assoc]
  congr 1
  simp only [List.length_map, List.length_range, Nat.sub_self, List.map_cons, List.map_nil]
  rw [show ms.length - k = (ms.length - (k + 1)) + 1 by omega, List.replicate_succ]
  rfl
theorem nmsTo_end (ms : List Mem) (i : Nat) (hi : i < ms.length) : (nmsTo ms ms.length)[i]? = some (nmV ms i) := by
  unfold nmsTo
  rw [List.getElem?_append_left (by simpa using hi)]
  simp [hi]
theorem run_mkS (n : Nat) (h : n ≤ 1000000) (w : World) : (Instr.makeSlice 38 (.int .i64 (n : Int)) (.int .i64 (n : Int))).run Tryz.prog w = .ok (.slice (some ⟨w.heap.size, 0, none⟩) n n) (w.alloc (.cells (mkC (.string ⟨#[]⟩) n) 9)) := by
  obtain ⟨i, h1, h2, h3, h4⟩ := info_parts (show (Tryz.prog.info? 9).map (fun i => (i.zero, i.size, i.bytes)) = some (some (.string ⟨#[]⟩), 1, 16) by kernel_rfl)
  exact run_mk Tryz.underlying38 h1 h2 h3 rfl n (by rw [h4]; omega) (by omega) w

theorem txt_step (A : List UInt8) (l : List ByteArray) (i : Nat) (h : i < l.length) :
    List.map BV (A ++ ((l.take i).map symText).flatten) ++ l[i].data.toList.map BV ++ [.int .u8 0] = (A ++ ((l.take (i + 1)).map symText).flatten).map BV := by
  rw [List.take_succ_eq_append_getElem h]
  simp only [List.map_append, List.flatten_append, List.map_cons, List.map_nil, List.flatten_cons, List.flatten_nil, List.append_nil, symText, List.append_assoc]
  rfl

set_option maxHeartbeats 4000000 in
set_option maxRecDepth 100000 in
theorem ref_write (v pv : Value) (ms : List Mem) (ps : List Nat) (w : World) (hv : RdM w v ms) (hf : Lim ms) (hp : RdI w pv (ps.map fun (p : Nat) => (p : Int))) (hpl : ps.length = ms.length) (hps : ∀ (i : Nat) (h : i < ps.length), ps[i] < 4294967296) :
    Calls Tryz.prog 27 #[v, pv] w fun e w' => ∃ bv qv, e = .returned (.tuple #[bv, qv]) ∧ Own w' w.heap.size 5 1 bv (write ms ps).length ((write ms ps).map BV) ∧
      Own w' w.heap.size 3 1 qv ms.length ((placesOf ms ps).map fun (p : Nat) => Value.int .i64 p) ∧ Below w.heap.size w w' := by
  have hv' := hv
  obtain ⟨a, c, rfl, hc1, hc2, -⟩ := hv'
  have Hv := Lib.hid hv; clear hv
  have hp' := hp
  obtain ⟨pa, pc, rfl, hp1, hp2, -⟩ := hp'
  have Hp := Lib.hid hp; clear hp
  rw [List.length_map] at *
  have Hps := Lib.hid hps; clear hps
  have Hpl := Lib.hid hpl; clear hpl
  have hl := hf.len
  have hn := hf.nsy
  have Hf := Lib.hid hf; clear hf
  have kc := fun (w : World) (C : Array Value) (n c : Nat) => Lib.run_convert_bytes_const (P := Tryz.prog) w 25 5 C n c Tryz.underlying25 Tryz.underlying5
  go_enter Tryz.func27, Tryz.ntmps27
  go_wp2_with (at_builtin; refine stop_here ?_)
  clear kc
  go_loopw [7, 8, 10, 11] (fun x t n i wr => ∃ k : Nat, k ≤ ms.length ∧ i = .int .i64 k ∧ n = .int .i64 (nsyms (ms.take k) : Nat) ∧ Tri w wr 5 5 5 (.slice (some ⟨w.heap.size, 0, none⟩) 8 8) x t (magic.map BV) ((idxTo ms ps k).map BV) ((txtTo ms k).map BV)) (fun _ _ _ i _ => ms.length - (intOf i).toNat)
  case atStart =>
    refine ⟨0, Nat.zero_le _, rfl, rfl, ⟨(own_magic w _ (Nat.le_refl _) (8, 9) (.inr (Nat.le_refl _))).toL rfl, Own.nil _ _ _ _, Own.nil _ _ _ _, ?_, ?_, ?_, (Below.refl _ _).alloc (Nat.le_refl _) _⟩⟩
    all_goals (intro k h1 h2; simp [Value.ownBlock] at h1 h2)
  case round =>
    obtain ⟨k, hk, rfl, rfl, hT⟩ := hrel
    have HT := Lib.hid hT; clear hT
    obtain ⟨wo, rfl⟩ : ∃ wo : World, wo = wr := ⟨_, rfl⟩
    have hz := HT.out.be.size
    have hs1 := nsyms_take_le ms k
    by_cases hlt : k < ms.length
    · obtain ⟨b, o, da, dc, sa, sc, rfl, c0, c1, c2, hd, hs⟩ := (Hv.out.below HT.out.be).at' k hlt
      clear hd c0 c1
      clear hs
      obtain ⟨pb, po, rfl, hpc⟩ := (Hp.out.below HT.out.be).nat k (by rw [Hpl.out]; exact hlt)
      clear hpc
      have hkp : k < ps.length := by rw [Hpl.out]; exact hlt
      have hpk : ((pAt ps k : Nat) : Int) < 4294967296 := by
        have := Hps.out k (by rw [Hpl.out]; exact hlt)
        rw [pAt, List.getD, List.getElem?_eq_getElem (by rw [Hpl.out]; exact hlt)]
        simp only [Option.getD_some]
        omega
      have hnk := nsyms_succ ms k hlt
      have hnk2 := nsyms_take_le ms (k + 1)
      have hsl : nsyms (ms.take k) + (mAt ms k).syms.length ≤ 1000000 := by omega
      have Hnk := Lib.hid hnk; clear hnk hnk2
      have hil := idxTo_length ms ps k hk
      have htl := txtTo_le ms Hf.out k hk
      have hf2 := (Hf.out.each k hlt).2.2
      have Hf2 := Lib.hid hf2; clear hf2
      have Hil := Lib.hid hil; clear hil
      go_wp2_with fail
      clear c2
      go_loopw [7, 8, 10, 12] (fun x t n j wr => ∃ i : Nat, i ≤ (mAt ms k).syms.length ∧ j = .int .i64 i ∧ n = .int .i64 ((nsyms (ms.take k) + i : Nat) : Int) ∧
        Tri w wr 5 5 5 (.slice (some ⟨w.heap.size, 0, none⟩) 8 8) x t (magic.map BV) ((idxTo ms ps k ++ (List.replicate i (be4 (pAt ps k))).flatten).map BV) ((txtTo ms k ++ (((mAt ms k).syms.take i).map symText).flatten).map BV)) (fun _ _ _ j _ => (mAt ms k).syms.length - (intOf j).toNat)
      case atStart => exact ⟨0, Nat.zero_le _, rfl, rfl, by simpa using HT.out⟩
      case round =>
        obtain ⟨i, hi, rfl, rfl, hT2⟩ := hrel
        have HT2 := Lib.hid hT2; clear hT2
        have hz2 := HT2.out.be.size
        obtain ⟨b', o', da, dc, sa, sc, hab, c0, c1, c2, hd, hs⟩ := (Hv.out.below HT2.out.be).at' k hlt
        cases hab
        clear hd c0 c1
        have Hs := Lib.hid hs; clear hs
        by_cases hlt2 : i < (mAt ms k).syms.length
        · obtain ⟨sb, so, rfl, hsc⟩ := Hs.out.at i hlt2
          obtain ⟨pb', po', hpb, hpc⟩ := (Hp.out.below HT2.out.be).nat k hkp
          cases hpb
          have C2 := Lib.hid c2
          have Hsc := Lib.hid hsc
          have hf3 : ((mAt ms k).syms[i].size : Int) ≤ 128 := by have := Hf2.out i hlt2; omega
          go_wp2_with fail
          refine (ref_bytes4 _ _ (by omega) (by omega)).mono ?_
          rintro _ w1 ⟨v1, rfl, hv1, hb1⟩
          simp only [Int.toNat_natCast] at hv1
          have Hv1 := Lib.hid hv1; clear hv1
          have Hb1 := Lib.hid hb1; clear hb1
          have T1 := Lib.hid (HT2.out.bel Hb1.out)
          clear c2 hsc hpc
          go_wp2_with (at_builtin; refine stop_here ?_)
          have hxl : (idxTo ms ps k).length + (List.replicate i (be4 (pAt ps k))).flatten.length ≤ 4000000 := by
            rw [Hil.out, rep4_length]; omega
          have htl2 : (txtTo ms k).length + (((mAt ms k).syms.take i).map symText).flatten.length ≤ 129000000 := by
            have := symTexts_le ((mAt ms k).syms.take i) (fun j hj => by rw [List.getElem_take]; exact Hf2.out j (by simp at hj; omega))
            rw [List.length_take] at this
            omega
          have htl3 : (mAt ms k).syms[i].data.toList.length ≤ 128 := by rw [dl]; omega
          have hb4 := be4_length (pAt ps k)
          have hz4 := T1.out.be.size
          refine stop_out ?_
          refine wpList_app _ _ _ _ rfl rfl TB w.heap.size T1.out.ob rfl (Src.rdB TB.und (OwnL.rdB (Hv1.out.toL rfl))) rfl ?ab1a ?ab1b ?ab1c ?_
          case ab1a => (first | omega | (simp only [List.length_append, List.length_map, List.length_cons, List.length_nil, List.length_reverse]; omega))
          case ab1b => (unfold maxLen; first | omega | (simp only [List.length_append, List.length_map, List.length_cons, List.length_nil, List.length_reverse]; omega))
          case ab1c => (first | omega | (simp only [World.size_alloc]; omega) | (simp; done) | exact (Hid.out ‹Hid (Below _ _ _)›).size | (refine Nat.le_trans (Hid.out ‹Hid (Below _ _ _)›).size ?_; simp))
          intro x2 w2 h2 h2g h2k
          have H2 := Lib.hid h2; clear h2
          have H2g := Lib.hid h2g; clear h2g
          have H2k := Lib.hid h2k; clear h2k
          clear hb4 hxl
          have T2 := Lib.hid ((T1.out.rot.app H2.out rfl H2g.out H2k.out).rot.rot)
          have hz5 := T2.out.be.size
          obtain ⟨b', o', da, dc, sa', sc', hab, c0, c1, c2, hd, hs⟩ := (Hv.out.below T2.out.be).at' k hlt
          cases hab
          clear hd c0 c1
          obtain ⟨sb', so', rfl, hsc⟩ := hs.at i hlt2
          clear hs
          go_wp2_with (at_builtin; refine stop_here ?_)
          refine stop_out ?_
          refine wpList_app _ _ _ _ rfl rfl TB w.heap.size T2.out.oc rfl (Src.str Tryz.underlying9 _) rfl ?ab2ba ?ab2b ?ab2c ?_
          case ab2ba => (first | omega | (simp only [List.length_append, List.length_map, List.length_cons, List.length_nil, List.length_reverse]; omega))
          case ab2b => (unfold maxLen; first | omega | (simp only [List.length_append, List.length_map, List.length_cons, List.length_nil, List.length_reverse]; omega))
          case ab2c => (first | omega | (simp only [World.size_alloc]; omega) | (simp; done) | exact (Hid.out ‹Hid (Below _ _ _)›).size | (refine Nat.le_trans (Hid.out ‹Hid (Below _ _ _)›).size ?_; simp))
          intro t3 w3 h3 h3g h3k
          have H3 := Lib.hid h3; clear h3
          have H3g := Lib.hid h3g; clear h3g
          have H3k := Lib.hid h3k; clear h3k
          have T3 := Lib.hid ((T2.out.rot.rot.app H3.out rfl H3g.out H3k.out).rot)
          have hz6 := T3.out.be.size
          clear c2 hsc
          go_wp2_with (at_builtin; refine stop_here ?_)
          refine stop_out ?_
          refine wpList_app _ _ _ _ rfl rfl TB w.heap.size (T3.out.oc.alloc _) rfl (Src.one1 TB.und _ rfl) rfl ?ab3ca ?ab3cb ?ab3c ?_
          case ab3ca => (first | omega | (simp only [List.length_append, List.length_map, List.length_cons, List.length_nil, List.length_reverse]; omega))
          case ab3cb => (unfold maxLen; first | omega | (simp only [List.length_append, List.length_map, List.length_cons, List.length_nil, List.length_reverse]; omega))
          case ab3c => (first | omega | (simp only [World.size_alloc]; omega) | (simp; done) | exact (Hid.out ‹Hid (Below _ _ _)›).size | (refine Nat.le_trans (Hid.out ‹Hid (Below _ _ _)›).size ?_; simp))
          intro t4 w4 h4 h4g h4k
          have H4 := Lib.hid h4; clear h4
          have H4g := Lib.hid h4g; clear h4g
          have H4k := Lib.hid h4k; clear h4k
          have e4 : List.map BV (txtTo ms k ++ (((mAt ms k).syms.take i).map symText).flatten) ++ (mAt ms k).syms[i].data.toList.map BV ++ [.int .u8 0] = (txtTo ms k ++ (((mAt ms k).syms.take (i + 1)).map symText).flatten).map BV := by
            exact txt_step _ _ i hlt2
          have e5 : List.map BV (idxTo ms ps k ++ (List.replicate i (be4 (pAt ps k))).flatten) ++ (be4 (pAt ps k)).map BV = (idxTo ms ps k ++ (List.replicate (i + 1) (be4 (pAt ps k))).flatten).map BV := by
            rw [List.replicate_succ']
            simp
          have T4 := Lib.hid ((((T3.out.alloc _).rot.rot).app H4.out e4 H4g.out H4k.out).rot)
          have E5 := Lib.hid e5; clear e4 e5
          go_wp2_with (at_builtin; refine stop_here ?_)
          go_roundw
          case rel => exact ⟨i + 1, by omega, by go_num, by go_num, by rw [← E5.out]; exact T4.out⟩
          case measure => simp [intOf]; omega
        · have : i = (mAt ms k).syms.length := by omega
          have e4 : (txtTo ms k ++ (((mAt ms k).syms.take i).map symText).flatten) = txtTo ms (k + 1) := by
            rw [this, List.take_length]; rfl
          have e5 : (idxTo ms ps k ++ (List.replicate i (be4 (pAt ps k))).flatten) = idxTo ms ps (k + 1) := by
            rw [this]; rfl
          have E4 := Lib.hid e4; clear e4
          have E5 := Lib.hid e5; clear e5
          have E6 := Lib.hid (show nsyms (ms.take k) + i = nsyms (ms.take (k + 1)) by rw [Hnk.out, this])
          clear this
          go_wp2_with (at_builtin; refine stop_here ?_)
          go_roundw
          case rel => exact ⟨k + 1, by omega, by go_num, by rw [E6.out], by rw [← E4.out, ← E5.out]; exact HT2.out⟩
          case measure => simp [intOf]; omega
    · have hkk : k = ms.length := by omega
      have e1 : nsyms (ms.take k) = nsyms ms := by rw [hkk, List.take_length]
      have e2 : idxTo ms ps k = idxTo ms ps ms.length := by rw [hkk]
      have e3 : txtTo ms k = txtTo ms ms.length := by rw [hkk]
      rw [e1]
      rw [e2, e3] at HT
      clear e1 e2 e3 hs1 hkk
      have hil := idxTo_length ms ps ms.length (Nat.le_refl _)
      have htl := txtTo_le ms Hf.out ms.length (Nat.le_refl _)
      rw [List.take_length] at hil htl
      go_upto_if 58 with (at_builtin; refine stop_here ?_)
      go_cut [6] (fun bv wx => Own wx w.heap.size 5 1 bv (front1 ms ps).length ((front1 ms ps).map BV) ∧ Below w.heap.size w wx)
      case first =>
        have Il := Lib.hid (index_le ms ps Hf.out)
        have Hil := Lib.hid hil; clear hil
        by_cases h0 : (0 : Int) < nsyms ms
        · have hf1 : front1 ms ps = putRec magic [47] (index ms ps) := by unfold front1; rw [if_pos (by omega)]
          have Hf1 := Lib.hid hf1; clear hf1
          go_wp2_with fail
          refine (ref_bytes4 _ _ (by omega) (by omega)).mono ?_
          rintro _ w1 ⟨v1, rfl, hv1, hb1⟩
          simp only [Int.toNat_natCast] at hv1
          have Hv1 := Lib.hid hv1; clear hv1
          have Hb1 := Lib.hid hb1; clear hb1
          have hz1 := Hb1.out.size
          have hb4 := be4_length (nsyms ms)
          have T1 := Lib.hid (HT.out.bel Hb1.out)
          go_wp2_with (at_builtin; refine stop_here ?_)
          have hxl : (idxTo ms ps ms.length).length ≤ 4000000 := by rw [Hil.out]; omega
          refine stop_out ?_
          refine wpList_app _ _ _ _ rfl rfl TB wo.heap.size Hv1.out rfl (Src.rdB TB.und (OwnL.rdB T1.out.ob)) rfl ?_a ?_b ?_c ?_
          case _a => (first | omega | (simp only [List.length_append, List.length_map, List.length_cons, List.length_nil, List.length_reverse]; omega))
          case _b => (unfold maxLen; first | omega | (simp only [List.length_append, List.length_map, List.length_cons, List.length_nil, List.length_reverse]; omega))
          case _c => (first | omega | (simp only [World.size_alloc]; omega) | (simp; done) | exact (Hid.out ‹Hid (Below _ _ _)›).size | (refine Nat.le_trans (Hid.out ‹Hid (Below _ _ _)›).size ?_; simp))
          intro v2 w2 h2 h2g h2k
          have H2 := Lib.hid h2; clear h2
          have H2g := Lib.hid h2g; clear h2g
          have H2k := Lib.hid h2k; clear h2k
          have sx : Sep v1 _ := Sep.new Hv1.out (Nat.le_refl _) HT.out.ob
          have st : Sep v1 _ := Sep.new Hv1.out (Nat.le_refl _) HT.out.oc
          have sb : Sep v1 _ := Sep.new Hv1.out (Nat.le_refl _) HT.out.oa
          have ot2 := T1.out.oc.keep H2g.out st
          have ob2 := T1.out.oa.keep H2g.out sb
          have sb2 := sb.step T1.out.oa H2k.out
          have Ot2 := Lib.hid ot2; clear ot2 sx st sb
          have Ob2 := Lib.hid ob2; clear ob2
          have Sb2 := Lib.hid sb2; clear sb2
          have hz2 := H2g.out.size
          go_wp2_with (at_builtin; refine stop_here ?_)
          refine stop_out ?_
          refine wpList_app _ _ _ _ rfl rfl TB wo.heap.size H2.out rfl (Src.rdB TB.und (OwnL.rdB Ot2.out)) rfl ?ab5a ?ab5b ?ab5c ?_
          case ab5a => (first | omega | (simp only [List.length_append, List.length_map, List.length_cons, List.length_nil, List.length_reverse]; omega))
          case ab5b => (unfold maxLen; first | omega | (simp only [List.length_append, List.length_map, List.length_cons, List.length_nil, List.length_reverse]; omega))
          case ab5c => (first | omega | (simp only [World.size_alloc]; omega) | (simp; done) | exact (Hid.out ‹Hid (Below _ _ _)›).size | (refine Nat.le_trans (Hid.out ‹Hid (Below _ _ _)›).size ?_; simp))
          intro v3 w3 h3 h3g h3k
          have H3 := Lib.hid h3; clear h3
          have H3g := Lib.hid h3g; clear h3g
          have H3k := Lib.hid h3k; clear h3k
          clear hb4
          have Ob3 := Lib.hid (Ob2.out.keep H3g.out Sb2.out)
          have Sb3 := Lib.hid (Sb2.out.step Ob2.out H3k.out)
          have h3' := H3.out.to (l := index ms ps) (by simp [index])
          have H3' := Lib.hid h3'; clear h3'
          have hbe3 := below_own (below_own (HT.out.be.trans (Hb1.out.mono HT.out.be.size)) (by omega) (Hv1.out.mono HT.out.be.size) H2g.out) (by omega) (H2.out.mono HT.out.be.size) H3g.out
          have Be3 := Lib.hid hbe3; clear hbe3
          have hz3 := Be3.out.size
          go_wp2_with fail
          refine (ref_record w.heap.size _ magic _ _ (index ms ps) _ Ob3.out hz3 (fun w' hw' => (Own.rdB (H3'.out.fr hw' fun k h1 h2 => Sb3.out k h1 h2))) (by simp [magic]) (by decide) (by have := Il.out; omega)).mono ?_
          rintro _ w4 ⟨v4, rfl, hv4, hf4, hm4⟩
          have Hv4 := Lib.hid hv4; clear hv4
          have Hf4 := Lib.hid hf4; clear hf4
          clear hm4
          go_wp2_with fail
          go_meet
          rw [Hf1.out]
          exact ⟨Hv4.out, below_fr Be3.out Hf4.out hz3 (fun k _ h => (Ob3.out.lt k h).1)⟩
        · have hf1 : front1 ms ps = magic := by unfold front1; rw [if_neg (by omega)]
          go_wp2_with fail
          go_meet
          rw [hf1]
          exact ⟨HT.out.oa, HT.out.be⟩
      case rest =>
        obtain ⟨hob, hbe⟩ := hcut
        obtain ⟨wb, rfl⟩ : ∃ wb : World, wb = wc := ⟨_, rfl⟩
        have Hob := Lib.hid hob; clear hob
        have Hbe := Lib.hid hbe; clear hbe
        have hz := Hbe.out.size
        clear HT hil htl hz hlt hk
        have hmk := run_mkS ms.length (by omega)
        go_wp2_with (at_builtin; refine stop_here ?_)
        clear hmk
        go_loopw [9, 14] (fun g i wr => ∃ k : Nat, k ≤ ms.length ∧ i = .int .i64 k ∧ Tri w wr 9 5 5 (.slice (some ⟨wb.heap.size, 0, none⟩) ms.length ms.length) g u6 (nmsTo ms k) ((longTo ms k).map BV) ((front1 ms ps).map BV)) (fun _ i _ => ms.length - (intOf i).toNat)
        case atStart =>
          have hzc := Hbe.out.size
          refine ⟨0, Nat.zero_le _, rfl, ⟨by simpa [nmsTo] using own_mk wb w.heap.size hzc 9 (.string ⟨#[]⟩) ms.length (by unfold maxLen; omega), Own.nil _ _ _ _, (Hob.out.alloc _).toL rfl, ?_, ?_, ?_, Hbe.out.alloc hzc _⟩⟩
          · intro k h1 h2; simp [Value.ownBlock] at h2
          · intro k h1 h2
            simp only [Value.ownBlock, Option.some.injEq] at h1
            have := (Hob.out.lt k h2).2
            omega
          · intro k h1 h2; simp [Value.ownBlock] at h1
        case round =>
          obtain ⟨k, hk, rfl, hT⟩ := hrel
          have HT := Lib.hid hT; clear hT
          have hz := HT.out.be.size
          by_cases hlt : k < ms.length
          · obtain ⟨b, o, da, dc, sa, sc, rfl, c0, c1, c2, hd, hs⟩ := (Hv.out.below HT.out.be).at' k hlt
            clear hd hs c1 c2
            have hnl := nmsTo_length ms k hk
            have Hnl := Lib.hid hnl; clear hnl
            obtain ⟨g0, g1⟩ := (HT.out.oa.cast Hnl.out rfl).cellAt k _ (nmsTo_at ms k hlt)
            have hns := (Hf.out.each k hlt).1
            have hne : ¬ wb.heap.size = b := by
              obtain ⟨b', o', _, _, _, _, hab, c0', _⟩ := Hv.out.at' k hlt
              cases hab
              have h1 := World.block_lt_of_cell? w _ c0'
              have h2 := Hbe.out.size
              simp only at h1
              omega
            by_cases h15 : (15 : Int) < (mAt ms k).name.size
            · obtain ⟨ga, gc, hga, _, _, _⟩ := HT.out.ob.cells
              rw [List.length_map] at hga
              subst hga
              have ela : longTo ms (k + 1) = longTo ms k ++ (mAt ms k).name.data.toList ++ [47, 10] := by
                rw [longTo, addLong, if_neg (by rw [dl]; omega)]
              have enm : nmV ms k = .string ⟨(47 :: Lib.decDigits (longTo ms k).length).toArray⟩ := by
                unfold nmV nmAt mname
                rw [if_neg (by rw [dl]; omega)]
              have Ela := Lib.hid ela; clear ela
              have Enm := Lib.hid enm; clear enm
              have hll := longTo_le ms Hf.out k hk
              have hlk : (longTo ms k).length ≤ 8320 := by omega
              clear hll
              go_wp2_with fail
              have T1 := Lib.hid (HT.out.store Hnl.out k (.string ((mAt ms k).name ++ ⟨#[47]⟩)))
              refine (ref_Digits _ _ (by omega) (by omega)).mono ?_
              rintro _ w1 ⟨rfl, hb1⟩
              rw [Int.toNat_natCast]
              have Hb1 := Lib.hid hb1; clear hb1
              have T2 := Lib.hid (T1.out.bel Hb1.out)
              have hd10 := dig10 (longTo ms k).length (by omega)
              obtain ⟨b', o', _, _, _, _, hab, c0', _, _, _, _⟩ := (Hv.out.below T2.out.be).at' k hlt
              cases hab
              have hsl2 := (nmsTo_length ms k hk)
              have hat : ((nmsTo ms k).set k (.string ((mAt ms k).name ++ ⟨#[47]⟩)))[k]? = some (.string ((mAt ms k).name ++ ⟨#[47]⟩)) := by
                rw [List.getElem?_set_self (by omega)]
              have Hsl2 := Lib.hid (show ((nmsTo ms k).set k (.string ((mAt ms k).name ++ ⟨#[47]⟩))).length = ms.length by rw [List.length_set]; exact hsl2)
              obtain ⟨g2, g3⟩ := (T2.out.oa.cast Hsl2.out rfl).cellAt k _ hat
              clear g0 g1 c0 hsl2 hat
              go_wp2_with (at_builtin; refine stop_here ?_)
              have t3 := T2.out.store Hsl2.out k (.string (⟨#[47]⟩ ++ ⟨(Lib.decDigits (longTo ms k).length).toArray⟩))
              rw [List.set_set, show (⟨#[47]⟩ ++ ⟨(Lib.decDigits (longTo ms k).length).toArray⟩ : ByteArray) = ⟨(47 :: Lib.decDigits (longTo ms k).length).toArray⟩ from ba_app [47] _, ← Enm.out, nmsTo_set ms k hlt, Enm.out] at t3
              rw [show (⟨#[47]⟩ ++ ⟨(Lib.decDigits (longTo ms k).length).toArray⟩ : ByteArray) = ⟨(47 :: Lib.decDigits (longTo ms k).length).toArray⟩ from ba_app [47] _]
              have T3 := Lib.hid t3; clear t3
              have hz3 := T3.out.be.size
              have hnl2 : (mAt ms k).name.data.toList.length ≤ 128 := by rw [dl]; exact hns
              refine stop_out ?_
              refine wpList_app _ _ _ _ rfl rfl TB w.heap.size T3.out.ob rfl (Src.str Tryz.underlying9 _) rfl ?ab6a ?ab6b ?ab6c ?_
              case ab6a => (first | omega | (simp only [List.length_append, List.length_map, List.length_cons, List.length_nil, List.length_reverse]; omega))
              case ab6b => (unfold maxLen; first | omega | (simp only [List.length_append, List.length_map, List.length_cons, List.length_nil, List.length_reverse]; omega))
              case ab6c => (first | omega | (simp only [World.size_alloc]; omega) | (simp; done) | exact (Hid.out ‹Hid (Below _ _ _)›).size | (refine Nat.le_trans (Hid.out ‹Hid (Below _ _ _)›).size ?_; simp))
              intro x4 w4 h4 h4g h4k
              have H4 := Lib.hid h4; clear h4
              have H4g := Lib.hid h4g; clear h4g
              have H4k := Lib.hid h4k; clear h4k
              have T4 := Lib.hid ((T3.out.rot.app H4.out rfl H4g.out H4k.out).rot.rot)
              have hz4 := T4.out.be.size
              go_wp2_with (at_builtin; refine stop_here ?_)
              refine stop_out ?_
              refine wpList_app _ _ _ _ rfl rfl TB w.heap.size T4.out.ob rfl (Src.strL Tryz.underlying9 [47, 10]) rfl ?ab7a ?ab7b ?ab7c ?_
              case ab7a => (first | omega | (simp only [List.length_append, List.length_map, List.length_cons, List.length_nil, List.length_reverse]; omega))
              case ab7b => (unfold maxLen; first | omega | (simp only [List.length_append, List.length_map, List.length_cons, List.length_nil, List.length_reverse]; omega))
              case ab7c => (first | omega | (simp only [World.size_alloc]; omega) | (simp; done) | exact (Hid.out ‹Hid (Below _ _ _)›).size | (refine Nat.le_trans (Hid.out ‹Hid (Below _ _ _)›).size ?_; simp))
              intro x5 w5 h5 h5g h5k
              have H5 := Lib.hid h5; clear h5
              have H5g := Lib.hid h5g; clear h5g
              have H5k := Lib.hid h5k; clear h5k
              have e5 : (longTo ms k).map BV ++ (mAt ms k).name.data.toList.map BV ++ [47, 10].map BV = (longTo ms (k + 1)).map BV := by
                rw [Ela.out, List.map_append, List.map_append]
              have T5 := Lib.hid ((T4.out.rot.app H5.out e5 H5g.out H5k.out).rot.rot)
              clear e5
              go_wp2_with (at_builtin; refine stop_here ?_)
              go_roundw
              case rel => exact ⟨k + 1, by omega, by go_num, T5.out⟩
              case measure => simp [intOf]; omega
            · have ela : longTo ms (k + 1) = longTo ms k := by
                rw [longTo, addLong, if_pos (by rw [dl]; omega)]
              have enm : nmV ms k = .string ((mAt ms k).name ++ ⟨#[47]⟩) := by
                unfold nmV nmAt mname
                rw [if_pos (by rw [dl]; omega), ba_app_r _ [47]]
              have T1 := HT.out.store Hnl.out k (nmV ms k)
              rw [nmsTo_set ms k hlt, enm] at T1
              have HT1 := Lib.hid T1
              have Ela := Lib.hid ela
              clear T1 enm ela
              go_wp2_with (at_builtin; refine stop_here ?_)
              go_roundw
              case rel => exact ⟨k + 1, by omega, by go_num, by rw [Ela.out]; exact HT1.out⟩
              case measure => simp [intOf]; omega
          · have hkk : k = ms.length := by omega
            subst hkk
            have hla := Lib.hid (longAll_le ms Hf.out)
            have hf1 := Lib.hid (front1_le ms ps Hf.out)
            obtain ⟨ga, gc, hga, _, _, _⟩ := HT.out.ob.cells
            rw [List.length_map] at hga
            subst hga
            have hrd : ∀ w', Fr (fun k => u6.ownBlock = some k) wr w' → RdB w' (.slice ga (longTo ms ms.length).length gc) (longTo ms ms.length) := fun w' hw' => OwnL.rdB (HT.out.ob.fr hw' fun k h1 h2 => HT.out.bc.symm k h2 h1)
            have Hrd := Lib.hid hrd; clear hrd
            go_upto_if 110 with (at_builtin; refine stop_here ?_)
            go_cut [6] (fun bv wx => OwnL wx w.heap.size 9 (.slice (some ⟨wb.heap.size, 0, none⟩) ms.length ms.length) (nmsTo ms ms.length) ∧ OwnL wx w.heap.size 5 bv ((front ms ps).map BV) ∧ Sep bv (.slice (some ⟨wb.heap.size, 0, none⟩) ms.length ms.length) ∧ Below w.heap.size w wx)
            case first =>
              by_cases h0 : (0 : Int) < (longAll ms).length
              · have hff : front ms ps = putRec (front1 ms ps) [47, 47] (longAll ms) := by
                  unfold front; rw [if_neg (by intro e; rw [e] at h0; simp at h0)]
                have Hff := Lib.hid hff; clear hff
                unfold longAll at *
                go_wp2_with fail
                refine (ref_record w.heap.size _ (front1 ms ps) ⟨#[47, 47]⟩ _ (longTo ms ms.length) _ (HT.out.oc.to rfl) hz Hrd.out (by have := hf1.out; omega) (by decide) (by have := hla.out; omega)).mono ?_
                rintro _ w4 ⟨v4, rfl, hv4, hf4, hm4⟩
                have Hv4 := Lib.hid hv4; clear hv4
                have Hf4 := Lib.hid hf4; clear hf4
                have Hm4 := Lib.hid hm4; clear hm4
                go_wp2_with fail
                go_meet
                rw [Hff.out]
                exact ⟨HT.out.oa.keepFr Hf4.out (fun _ h => h) HT.out.ac.symm, Hv4.out.toL rfl, HT.out.ac.symm.step HT.out.oa Hm4.out, Below.own_fr HT.out.be hz HT.out.oc Hf4.out (fun _ h => h)⟩
              · have hff : front ms ps = front1 ms ps := by
                  unfold front; rw [if_pos (List.eq_nil_of_length_eq_zero (by omega))]
                have Hff := Lib.hid hff; clear hff
                unfold longAll at *
                go_wp2_with fail
                go_meet
                rw [Hff.out]
                exact ⟨HT.out.oa, HT.out.oc, HT.out.ac.symm, HT.out.be⟩
            case rest =>
              obtain ⟨hon, hob, hsp, hbe⟩ := hcut
              have Hon := Lib.hid hon; clear hon
              have Hob2 := Lib.hid hob; clear hob
              have Hsp := Lib.hid hsp; clear hsp
              have Hbe2 := Lib.hid hbe; clear hbe
              clear hz hlt hk HT
              go_wp2_with (at_builtin; refine stop_here ?_)
              have hfl := front_le ms ps Hf.out
              go_loopw [6, 15, 16] (fun b q i wr => ∃ k : Nat, k ≤ ms.length ∧ i = .int .i64 k ∧ Tri w wr 9 5 3 (.slice (some ⟨wb.heap.size, 0, none⟩) ms.length ms.length) b q (nmsTo ms ms.length) ((bodyTo (front ms ps) ms k).map BV) ((placesTo (front ms ps) ms k).map fun (p : Nat) => Value.int .i64 p)) (fun _ _ i _ => ms.length - (intOf i).toNat)
              case atStart =>
                refine ⟨0, Nat.zero_le _, rfl, ⟨Hon.out, Hob2.out, Own.nil _ _ _ _, Hsp.out.symm, ?_, ?_, Hbe2.out⟩⟩
                · intro k h1 h2; simp [Value.ownBlock] at h2
                · intro k h1 h2; simp [Value.ownBlock] at h2
              case round =>
                obtain ⟨k, hk, rfl, hT⟩ := hrel
                have HT := Lib.hid hT; clear hT
                have hz := HT.out.be.size
                by_cases hlt : k < ms.length
                · obtain ⟨b, o, da, dc, sa, sc, rfl, c0, c1, c2, hd, hs⟩ := (Hv.out.below HT.out.be).at' k hlt
                  clear hd hs c0 c2
                  have hbl := bodyTo_le (front ms ps) ms Hf.out k hk
                  obtain ⟨ga, gc, hga, _, _, _⟩ := HT.out.ob.cells
                  rw [List.length_map] at hga
                  subst hga
                  have hnl := nsyms_take_le ms 0
                  go_wp2_with (at_builtin; refine stop_here ?_)
                  have T1 := Lib.hid (HT.out.alloc (.cells #[.int .i64 ((bodyTo (front ms ps) ms k).length + (bodyTo (front ms ps) ms k).length % 2)] 3))
                  have hpt : (placesTo (front ms ps) ms k).length = k := by simp [placesTo]
                  refine stop_out ?_
                  refine wpList_app _ _ _ _ rfl rfl TI w.heap.size T1.out.oc rfl (Src.one1 TI.und _ rfl) rfl ?ab8a ?ab8b ?ab8c ?_
                  case ab8a => (first | omega | (simp only [List.length_append, List.length_map, List.length_cons, List.length_nil, List.length_reverse]; omega))
                  case ab8b => (unfold maxLen; first | omega | (simp only [List.length_append, List.length_map, List.length_cons, List.length_nil, List.length_reverse]; omega))
                  case ab8c => (first | omega | (simp only [World.size_alloc]; omega) | (simp; done) | exact (Hid.out ‹Hid (Below _ _ _)›).size | (refine Nat.le_trans (Hid.out ‹Hid (Below _ _ _)›).size ?_; simp))
                  intro q2 w2 h2 h2g h2k
                  have H2 := Lib.hid h2; clear h2
                  have H2g := Lib.hid h2g; clear h2g
                  have H2k := Lib.hid h2k; clear h2k
                  have e2 : ((placesTo (front ms ps) ms k).map fun (p : Nat) => Value.int .i64 p) ++ [.int .i64 ((bodyTo (front ms ps) ms k).length + (bodyTo (front ms ps) ms k).length % 2)] = (placesTo (front ms ps) ms (k + 1)).map fun (p : Nat) => Value.int .i64 p := by
                    simp [placesTo, placeAt, List.range_succ]
                  have T2 := Lib.hid ((T1.out.rot.rot.app H2.out e2 H2g.out H2k.out).rot)
                  clear e2 hpt
                  have hz2 := T2.out.be.size
                  obtain ⟨b', o', da', dc', _, _, hab, _, c10, _, hd', _⟩ := Hv.out.at' k hlt
                  cases hab
                  have c1' := bel_cell T2.out.be c10
                  clear c10
                  have hnl := nsyms_take_le ms 0
                  obtain ⟨g2, g3⟩ := (T2.out.oa.cast (nmsTo_length ms _ (Nat.le_refl _)) rfl).cellAt k _ (nmsTo_end ms k hlt)
                  unfold nmV at g2
                  have hnm := nmAt_le ms Hf.out k hlt
                  have hdl := (Hf.out.each k hlt).2.1
                  clear c1
                  have Hd' := Lib.hid hd'; clear hd'
                  go_wp2_with (at_builtin; refine stop_here ?_)
                  go_still_tail 10, (by kernel_rfl)
                  change wpList _ _ _ _ _ w2.drew
                  have T3 := Lib.hid (T2.out.bel ((Below.refl _ _).drew))
                  obtain ⟨w3, hw3⟩ : ∃ w3 : World, w3 = w2.drew := ⟨_, rfl⟩
                  rw [← hw3] at T3 ⊢
                  have hrd : ∀ w', Fr (fun i => (Value.slice ga (bodyTo (front ms ps) ms k).length gc).ownBlock = some i) w3 w' → RdB w' (.slice da' (mAt ms k).data.length dc') (mAt ms k).data := by
                    exact fun w' hw' => Hd'.out.below (Below.own_fr T3.out.be T3.out.be.size T3.out.ob hw' fun _ h => h)
                  have Hrd := Lib.hid hrd; clear hrd
                  have hz3 := T3.out.be.size
                  clear hw3 c1' g2 g3
                  go_wp2_with fail
                  refine (ref_record w.heap.size _ (bodyTo (front ms ps) ms k) ⟨(nmAt ms k).toArray⟩ _ (mAt ms k).data _ (T3.out.ob.to rfl) hz3 Hrd.out (by omega) (by rw [ba_size]; omega) (by omega)).mono ?_
                  rintro _ w4 ⟨v4, rfl, hv4, hf4, hm4⟩
                  have T4 := (T3.out.rot.fr (hv4.toL rfl) hf4 (fun _ h => h) hm4).rot.rot
                  have HT4 := Lib.hid T4
                  clear hv4 hf4 hm4 T4
                  go_wp2_with fail
                  go_roundw
                  case rel => exact ⟨k + 1, by omega, by go_num, HT4.out⟩
                  case measure => simp [intOf]; omega
                · have hkk : k = ms.length := by omega
                  subst hkk
                  go_wp2_with fail
                  go_ret2
                  exact ⟨_, _, rfl, HT.out.ob.to rfl, HT.out.oc.cast (by simp [placesTo]) rfl, HT.out.be⟩

end Go.Proofs.YtnpfnjkghlgooaaGreatDoor
