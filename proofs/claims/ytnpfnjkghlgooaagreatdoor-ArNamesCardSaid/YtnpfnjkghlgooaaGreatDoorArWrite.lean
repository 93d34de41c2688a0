/-
  The walk of ar.Write.
  Conditions: members that memory can bear; a million names at most.
-/
import Derived.Test.YtnpfnjkghlgooaaGreatDoorArDraft
namespace Go.Proofs.YtnpfnjkghlgooaaGreatDoor
set_option linter.unusedVariables false
set_option linter.unusedSimpArgs false
open Go Go.RowKit

theorem OwnL.at {w : World} {B : Nat} {e : TypeId} {a : Option Addr} {n c : Nat} {xs : List Value} (h : OwnL w B e (.slice a n c) xs) (i : Nat) (u : Value) (hu : xs[i]? = some u) : ∃ g, a = some ⟨g, 0, none⟩ ∧ w.cell? ⟨g, i, none⟩ = some u := by
  have h' : Own w B e 1 (.slice a n c) xs.length xs := h
  obtain ⟨hl, hr | ⟨g, cap, cur, lo, hi, hv, hB, hg, hf, h1, h2, h3, h4⟩⟩ := h'
  · cases hr.1
    have := List.eq_nil_of_length_eq_zero hr.2
    subst this
    simp at hu
  · cases hv
    refine ⟨g, rfl, ?_⟩
    rw [cell_at hg]
    rw [← h4, List.getElem?_take] at hu
    split at hu
    · simpa using hu
    · cases hu

theorem RdB.fr {S : Nat → Prop} {w w' : World} {v : Value} {l : List UInt8} (h : RdB w v l) (hf : Fr S w w') (hn : ∀ a n c, v = .slice (some a) n c → ¬ S a.block) : RdB w' v l := by
  obtain ⟨a, c, hv, h1, h2, hc⟩ := h
  exact ⟨a, c, hv, h1, h2, hc.fr hf fun b hb => hn b l.length c (by rw [hv, hb])⟩

/-- '[]byte(s)'. -/
theorem bytes_rd (w : World) (l : List UInt8) (hl : l.length ≤ 1000000000) : RdB (Lib.bytesWorld w 5 ⟨l.toArray⟩) (.slice (some ⟨w.heap.size, 0, none⟩) (⟨l.toArray⟩ : ByteArray).size (grownCap w (⟨l.toArray⟩ : ByteArray).size 0 5)) l := by
  have e : (⟨l.toArray⟩ : ByteArray).size = l.length := ba_size l
  refine ⟨_, _, by rw [e], ?_, ?_, fun j u hj => ⟨_, _, rfl, ?_⟩⟩
  · have := grownCap_ge w (⟨l.toArray⟩ : ByteArray).size 0 5
    rw [e] at this; exact this
  · exact grownCap_le_maxLen w _ 0 _ (by unfold maxLen; omega)
  · have hjl : j < l.length := by
      have := (List.getElem?_eq_some_iff.1 hj).1
      simpa using this
    rw [Nat.zero_add, Lib.bytesWorld_cell w 5 _ j (by rw [e]; exact hjl)]
    have h2 : (l.map BV)[j]? = some (BV l[j]) := by simp [hjl]
    rw [h2] at hj
    cases hj
    simp [BV, List.getD, hjl]
theorem bytes_bel (w : World) (e : TypeId) (s : ByteArray) : Below w.heap.size w (Lib.bytesWorld w e s) :=
  ⟨by simp [Lib.bytesWorld, World.freeze, World.alloc, World.drew, -World.alloc_eq, -World.drew_eq], by simp [Lib.bytesWorld, World.freeze, World.alloc, World.drew, -World.alloc_eq, -World.drew_eq], by simp [Lib.bytesWorld, World.freeze, World.alloc, World.drew, -World.alloc_eq, -World.drew_eq], by rw [Lib.bytesWorld_size]; omega, fun k hk => Lib.bytesWorld_at_old w e s k hk⟩

theorem names_succ (ms : List Mem) (k : Nat) : (List.range k).map (nmAt ms) ++ [mname (longTo ms k) (mAt ms k).name.data.toList] = (List.range (k + 1)).map (nmAt ms) := by
  simp [List.range_succ, nmAt]

set_option maxHeartbeats 4000000 in
set_option maxRecDepth 100000 in
theorem ar_Write (v : Value) (ms : List Mem) (w : World) (hv : RdM w v ms) (hf : Fit ms) (hn : nsyms ms ≤ 1000000) (hG : Glob w) :
    Calls Tryz.prog 9 #[v] w fun e w' => ∃ bv, e = .returned (.tuple #[bv, .int .i64 (arWrite ms).2]) ∧ OwnL w' w.heap.size 5 bv ((arWrite ms).1.map BV) ∧ Below w.heap.size w w' := by
  have hv' := hv
  obtain ⟨a, c, rfl, hc1, hc2, -⟩ := hv'
  have Hv := Lib.hid hv; clear hv
  have Hf := Lib.hid hf; clear hf
  have HG := Lib.hid hG; clear hG
  by_cases hz : faultOf ms = 0
  · have hL := lim_of hz hn
    have hl := hL.len
    have HL := Lib.hid hL; clear hL
    have Hz := Lib.hid hz
    have hz' : (faultOf ms != 0) = false := by rw [hz]; rfl
    clear hz
    have kc := fun (w : World) (C : Array Value) (n c : Nat) => Lib.run_convert_bytes_const (P := Tryz.prog) w 25 5 C n c Tryz.underlying25 Tryz.underlying5
    go_enter Tryz.func9, Tryz.ntmps9
    go_wp2_with fail
    refine (ar_faulty _ ms _ Hv.out Hf.out).mono ?_
    rintro _ w1 ⟨rfl, hb1⟩
    have Hb1 := Lib.hid hb1; clear hb1
    go_wp2_with fail
    clear kc
    have t0 : Drf w ((w1.alloc (.cells #[.int .u8 33, .int .u8 60, .int .u8 97, .int .u8 114, .int .u8 99, .int .u8 104, .int .u8 62, .int .u8 10] 5 (8, 9))).alloc (.cells #[.slice (some ⟨w1.heap.size, 0, none⟩) 8 8, .string ⟨#[]⟩, .slice none 0 0] 47))
        (w1.heap.size + 1) (.slice (some ⟨w1.heap.size, 0, none⟩) 8 8) (.slice none 0 0) magic [] [] := by
      have hm := (own_magic w1 w.heap.size Hb1.out.size (8, 9) (.inr (Nat.le_refl _))).toL rfl
      have t1 : Tri w (w1.alloc (.cells #[.int .u8 33, .int .u8 60, .int .u8 97, .int .u8 114, .int .u8 99, .int .u8 104, .int .u8 62, .int .u8 10] 5 (8, 9))) 5 9 9 (.slice (some ⟨w1.heap.size, 0, none⟩) 8 8) (.slice none 0 0) (.slice none 0 0) (magic.map BV) [] [] :=
        ⟨hm, Own.nil _ _ _ _, Own.nil _ _ _ _, fun k _ h2 => by simp [Value.ownBlock] at h2, fun k _ h2 => by simp [Value.ownBlock] at h2, fun k _ h2 => by simp [Value.ownBlock] at h2, Hb1.out.alloc Hb1.out.size _⟩
      have t2 := t1.box (e := 47) #[.slice (some ⟨w1.heap.size, 0, none⟩) 8 8, .string ⟨#[]⟩, .slice none 0 0] 3 rfl (by omega)
      rw [World.size_alloc] at t2
      exact t2
    have T0 := Lib.hid t0; clear t0
    go_loopw [22] (fun i wr => ∃ k : Nat, ∃ bv nv : Value, k ≤ ms.length ∧ i = .int .i64 k ∧ Drf w wr (w1.heap.size + 1) bv nv magic (longTo ms k) ((List.range k).map (nmAt ms))) (fun i _ => ms.length - (intOf i).toNat)
    case atStart => exact ⟨0, _, _, Nat.zero_le _, rfl, T0.out⟩
    case round =>
      obtain ⟨k, bv, nv, hk, rfl, hT⟩ := hrel
      have HT := Lib.hid hT; clear hT
      have hz2 := HT.out.be.size
      by_cases hlt : k < ms.length
      · obtain ⟨b, o, da, dc, sa, sc, rfl, c0, c1, c2, hd, hs⟩ := Hv.out.at' k hlt
        clear hd hs
        have c0' := bel_cell HT.out.be c0
        have c1' := bel_cell HT.out.be c1
        have c2' := bel_cell HT.out.be c2
        clear c0 c1 c2
        have hll := longTo_le ms HL.out k hk
        have hns := (HL.out.each k hlt).1
        have Tb := Lib.hid (HT.out.bel ((Below.refl _ _).alloc (Nat.le_refl _) (.cells #[.string (mAt ms k).name, .slice da (mAt ms k).data.length dc, .slice sa (mAt ms k).syms.length sc] 40)))
        go_wp2_with fail
        refine (ar_dname w (w1.heap.size + 1) bv nv magic (longTo ms k) _ _ _ Tb.out HG.out (by omega) (by omega) (by simp; omega)).mono ?_
        rintro _ w2 ⟨rfl, nv2, h2⟩
        rw [names_succ] at h2
        have H2 := Lib.hid h2; clear h2
        go_wp2_with fail
        go_roundw
        case rel => exact ⟨k + 1, bv, nv2, by omega, by go_num, H2.out⟩
        case measure => simp [intOf]; omega
      · have hkk : k = ms.length := by omega
        subst hkk
        go_upto_if 32 with (go_at_call 22; refine (ar_indexed _ ms _ (Hv.out.below HT.out.be) Hf.out).mono ?_; rintro _ w2 ⟨rfl, hb2⟩; have Hb2 := Lib.hid hb2; clear hb2)
        have T2 := Lib.hid (HT.out.bel Hb2.out)
        clear T0 hlt hz2
        go_cut [] (fun wx => ∃ bv nv : Value, Drf w wx (w1.heap.size + 1) bv nv (front1 ms (pls ms)) (longAll ms) ((List.range ms.length).map (nmAt ms)))
        case first =>
          by_cases h0 : (0 : Int) < nsyms ms
          · have h0' : 0 < nsyms ms := by omega
            have hix := index_le ms (plP 0 ms) HL.out
            have hlo := longAll_le ms HL.out
            go_wp2_with fail
            refine (ar_index _ ms 0 _ (Hv.out.below T2.out.be) HL.out (by omega) (by omega)).mono ?_
            rintro _ w3 ⟨v3, rfl, h3, hb3⟩
            obtain ⟨xa, xc, hx, _, _, _⟩ := h3.cells
            rw [List.length_map] at hx
            subst hx
            clear h3
            have T3 := Lib.hid (T2.out.bel hb3)
            clear hb3
            obtain ⟨g1, g2⟩ := T3.out.cellC rfl 1 _ rfl
            unfold strV at g1
            have hG3 := Lib.hid (HG.out.below T3.out.be)
            have hfl := front_le ms (zeros ms) HL.out
            cases hE : (longTo ms ms.length).isEmpty with
            | true =>
              have hnil : longAll ms = [] := by unfold longAll; simpa using hE
              have hat : 68 + (index ms (plP 0 ms)).length = (front ms (zeros ms)).length := by
                rw [front_at0 ms _ HL.out h0' hnil, index_len ms _ (zeros ms)]
              have hpl := plP_places ms (zeros ms) HL.out
              have Hat := Lib.hid hat; clear hat
              have Hpl := Lib.hid hpl; clear hpl
              clear hnil
              go_wp2_with fail
              rw [show (68 : Int) + ((index ms (plP 0 ms)).length : Int) = ((front ms (zeros ms)).length : Nat) by rw [← Hat.out]; omega]
              refine (ar_index _ ms _ _ (Hv.out.below T3.out.be) HL.out (by omega) (by omega)).mono ?_
              rintro _ w4 ⟨v4, rfl, h4, hb4⟩
              rw [Int.toNat_natCast, Hpl.out] at h4
              have H4 := Lib.hid h4; clear h4
              have T4 := Lib.hid (T3.out.bel hb4)
              have D4 := Lib.hid (World.block_lt_of_cell? w3 _ g1)
              have S4 := Lib.hid (Sep.new H4.out (Nat.le_refl _) T3.out.oa)
              clear hb4 g1 g2
              have hix2 := index_le ms (pls ms) HL.out
              go_wp2_with fail
              refine (ar_record w (w1.heap.size + 1) bv nv magic _ _ ⟨#[47]⟩ v4 (index ms (pls ms)) _ T4.out HG.out (fun w' hw' => OwnL.rdB (H4.out.fr hw' ?_)) (by simp [magic]) (by decide) (by omega)).mono ?_
              · intro k h1 h2
                rcases h2 with h2 | h2
                · exact S4.out k h1 h2
                · have h5 := (H4.out.lt k h1).1
                  have h6 := D4.out
                  omega
              rintro _ w5 ⟨rfl, bv5, h5⟩
              go_wp2_with fail
              go_meet
              refine ⟨bv5, nv, ?_⟩
              unfold front1
              rw [if_pos h0']
              exact h5
            | false =>
              have hnil : ¬ longAll ms = [] := by
                intro e; unfold longAll at e; rw [e] at hE; cases hE
              have hat : (68 + (index ms (plP 0 ms)).length) + (68 + (index ms (plP 0 ms)).length) % 2 + 60 + (longAll ms).length = (front ms (zeros ms)).length := by
                rw [front_at1 ms _ HL.out h0' hnil, index_len ms _ (zeros ms)]
              have hpl := plP_places ms (zeros ms) HL.out
              have Hat := Lib.hid hat; clear hat
              have Hpl := Lib.hid hpl; clear hpl
              unfold longAll at Hat hlo
              clear hnil
              go_wp2_with fail
              go_quiet ((go_at_call 24; exact Calls.quiet_of_same ((ar_even _ _ (by omega) (by omega)).mono fun _ _ h => ⟨h.1, h.2.symm⟩)))
              have T3q := Lib.hid (T3.out.bel (below_drewN (Below.refl _ _) nq))
              have D4 := Lib.hid (World.block_lt_of_cell? w3 _ g1)
              obtain ⟨w3q, hw3q⟩ : ∃ w3q : World, w3q = w3.drewN nq := ⟨_, rfl⟩
              rw [← hw3q] at T3q
              go_wp2_with fail
              have hzq : w3q.heap.size = w3.heap.size := by rw [hw3q]; rfl
              have Hzq := Lib.hid hzq; clear hzq
              rw [← hw3q]
              rw [show (68 : Int) + ((index ms (plP 0 ms)).length : Int) + (68 + ((index ms (plP 0 ms)).length : Int)) % 2 + 60 + ((longTo ms ms.length).length : Int) = ((front ms (zeros ms)).length : Nat) by rw [← Hat.out]; omega]
              clear hw3q g1 g2
              refine (ar_index _ ms _ _ (Hv.out.below T3q.out.be) HL.out (by omega) (by omega)).mono ?_
              rintro _ w4 ⟨v4, rfl, h4, hb4⟩
              rw [Int.toNat_natCast, Hpl.out] at h4
              have H4 := Lib.hid h4; clear h4
              have T4 := Lib.hid (T3q.out.bel hb4)
              have S4 := Lib.hid (Sep.new H4.out (Nat.le_refl _) T3q.out.oa)
              clear hb4
              have hix2 := index_le ms (pls ms) HL.out
              go_wp2_with fail
              refine (ar_record w (w1.heap.size + 1) bv nv magic _ _ ⟨#[47]⟩ v4 (index ms (pls ms)) _ T4.out HG.out (fun w' hw' => OwnL.rdB (H4.out.fr hw' ?_)) (by simp [magic]) (by decide) (by omega)).mono ?_
              · intro k h1 h2
                rcases h2 with h2 | h2
                · exact S4.out k h1 h2
                · have h5 := (H4.out.lt k h1).1
                  have h6 := D4.out
                  have h7 := Hzq.out
                  omega
              rintro _ w5 ⟨rfl, bv5, h5⟩
              go_wp2_with fail
              go_meet
              refine ⟨bv5, nv, ?_⟩
              unfold front1
              rw [if_pos h0']
              exact h5
          · go_wp2_with fail
            go_meet
            refine ⟨bv, nv, ?_⟩
            unfold front1
            rw [if_neg (by omega)]
            exact T2.out
        case rest =>
          obtain ⟨bv2, nv2, hT⟩ := hcut
          clear T2 HT Hb2
          have T3 := Lib.hid hT; clear hT
          obtain ⟨g1, g2⟩ := T3.out.cellC rfl 1 _ rfl
          unfold strV longAll at g1
          have hlo := longAll_le ms HL.out
          have hf1 := front1_le ms (pls ms) HL.out
          go_upto_if 60 with (fail)
          go_cut [] (fun wx => ∃ bv nv : Value, Drf w wx (w1.heap.size + 1) bv nv (front ms (pls ms)) (longAll ms) ((List.range ms.length).map (nmAt ms)))
          case first =>
            cases hE : (longTo ms ms.length).isEmpty with
            | true =>
              have hnil : longAll ms = [] := by unfold longAll; simpa using hE
              have hff : front ms (pls ms) = front1 ms (pls ms) := by unfold front; rw [if_pos hnil]
              have Hff := Lib.hid hff
              clear hnil hff
              go_wp2_with fail
              go_meet
              rw [Hff.out]
              exact ⟨bv2, nv2, T3.out⟩
            | false =>
              have hnil : ¬ longAll ms = [] := by
                intro e; unfold longAll at e; rw [e] at hE; cases hE
              have hff : front ms (pls ms) = putRec (front1 ms (pls ms)) [47, 47] (longAll ms) := by unfold front; rw [if_neg hnil]
              have Hff := Lib.hid hff
              unfold longAll at hlo
              clear hnil hff
              have hcv := Lib.run_convert_string_bytes (P := Tryz.prog) wc 9 25 5 ⟨(longTo ms ms.length).toArray⟩ Tryz.underlying9 Tryz.underlying25 Tryz.underlying5
              have hbr := Lib.hid (bytes_rd wc (longTo ms ms.length) (by omega))
              have T4 := Lib.hid (T3.out.bel (bytes_bel wc 5 ⟨(longTo ms ms.length).toArray⟩))
              have D4 := Lib.hid (World.block_lt_of_cell? wc _ g1)
              go_wp2_with fail
              refine (ar_record w (w1.heap.size + 1) bv2 nv2 (front1 ms (pls ms)) _ _ ⟨#[47, 47]⟩ _ (longTo ms ms.length) _ T4.out HG.out (fun w' hw' => ?_) (by omega) (by decide) (by omega)).mono ?_
              · have hb := hbr.out
                rw [ba_size] at hb
                refine hb.fr hw' fun a n c he => ?_
                cases he
                rintro (h2 | h2)
                · have := (T3.out.oa.lt _ h2).2
                  simp only at this
                  omega
                · have := D4.out
                  simp only at this h2
                  omega
              rintro _ w5 ⟨rfl, bv5, h5⟩
              go_wp2_with fail
              go_meet
              rw [Hff.out]
              exact ⟨bv5, nv2, h5⟩
          case rest =>
            obtain ⟨bv3, nv3, hT⟩ := hcut
            clear T3 g1 g2 hf1
            have T4 := Lib.hid hT; clear hT
            have hfl := front_le ms (pls ms) HL.out
            go_wp2_with fail
            go_loopw [70] (fun i wr => ∃ k : Nat, ∃ bv : Value, k ≤ ms.length ∧ i = .int .i64 k ∧ Drf w wr (w1.heap.size + 1) bv nv3 (bodyTo (front ms (pls ms)) ms k) (longAll ms) ((List.range ms.length).map (nmAt ms))) (fun i _ => ms.length - (intOf i).toNat)
            case atStart => exact ⟨0, _, Nat.zero_le _, rfl, T4.out⟩
            case round =>
              obtain ⟨k, bv, hk, rfl, hT⟩ := hrel
              have HT := Lib.hid hT; clear hT
              have hz2 := HT.out.be.size
              by_cases hlt : k < ms.length
              · obtain ⟨b, o, da, dc, sa, sc, rfl, c0, c1, c2, hd, hs⟩ := Hv.out.at' k hlt
                clear hs
                have Hd := Lib.hid hd; clear hd
                have c0' := bel_cell HT.out.be c0
                have c1' := bel_cell HT.out.be c1
                have c2' := bel_cell HT.out.be c2
                clear c0 c1 c2
                have hbl := bodyTo_le (front ms (pls ms)) ms HL.out k hk
                obtain ⟨na, nc, hna, _, _, _⟩ := HT.out.ob.cells
                rw [List.length_map, List.length_map, List.length_range] at hna
                have hnat : ((((List.range ms.length).map (nmAt ms)).map strV)[k]? : Option Value) = some (.string ⟨(nmAt ms k).toArray⟩) := by simp [hlt, strV]
                subst hna
                obtain ⟨gn, rfl, hgn⟩ := OwnL.at HT.out.ob k _ hnat
                obtain ⟨g1, g2⟩ := HT.out.cellC rfl 2 _ rfl
                have hnm := nmAt_le ms HL.out k hlt
                have hdl := (HL.out.each k hlt).2.1
                have Tb := Lib.hid (HT.out.bel ((Below.refl _ _).alloc (Nat.le_refl _) (.cells #[.string (mAt ms k).name, .slice da (mAt ms k).data.length dc, .slice sa (mAt ms k).syms.length sc] 40)))
                clear hnat
                go_wp2_with fail
                obtain ⟨wx, hwx⟩ : ∃ wx : World, wx = wr.alloc (.cells #[.string (mAt ms k).name, .slice da (mAt ms k).data.length dc, .slice sa (mAt ms k).syms.length sc] 40) := ⟨_, rfl⟩
                have x1 : wx.cell? ⟨wr.heap.size, 1, none⟩ = some (.slice da (mAt ms k).data.length dc) := by rw [hwx, World.cell?_alloc_new]; rfl
                rw [← hwx] at Tb ⊢
                obtain ⟨g3, g4⟩ := Tb.out.cellC rfl 2 _ rfl
                have hbw : Below wr.heap.size wr wx := by rw [hwx]; exact (Below.refl _ _).alloc (Nat.le_refl _) _
                have hgn' := bel_cell hbw hgn
                have hbe := Lib.hid Tb.out.be
                clear hwx hbw g1 g2 hgn c0' c1' c2'
                go_still_tail 10, (by kernel_rfl)
                change wpList _ _ _ _ _ wx.drew
                have T5 := Lib.hid (Tb.out.bel ((Below.refl _ _).drew))
                obtain ⟨w5, hw5⟩ : ∃ w5 : World, w5 = wx.drew := ⟨_, rfl⟩
                rw [← hw5] at T5 ⊢
                clear hw5 x1 g3 g4 hgn'
                go_wp2_with fail
                refine (ar_record w (w1.heap.size + 1) bv _ (bodyTo (front ms (pls ms)) ms k) _ _ ⟨(nmAt ms k).toArray⟩ _ (mAt ms k).data _ T5.out HG.out (fun w' hw' => Hd.out.below ?_) (by omega) (by rw [ba_size]; omega) (by omega)).mono ?_
                · refine below_fr T5.out.be hw' T5.out.be.size fun i _ h => ?_
                  rcases h with h | h
                  · exact (T5.out.oa.lt i h).1
                  · rw [h]; have := Hb1.out.size; omega
                rintro _ w6 ⟨rfl, bv6, h6⟩
                have H6 := Lib.hid h6; clear h6
                go_wp2_with fail
                go_roundw
                case rel => exact ⟨k + 1, bv6, by omega, by go_num, H6.out⟩
                case measure => simp [intOf]; omega
              · have hkk : k = ms.length := by omega
                subst hkk
                obtain ⟨g1, g2⟩ := HT.out.cellC rfl 0 _ rfl
                obtain ⟨ba, bc, hba, _, _, _⟩ := HT.out.oa.cells
                rw [List.length_map] at hba
                subst hba
                have hle := arBytes_le HL.out
                have e1 : (arWrite ms) = if 4194304 < (arBytes ms).length then ([], 6) else (arBytes ms, 0) := by
                  unfold arWrite; rw [if_pos Hz.out]
                have E1 := Lib.hid e1; clear e1
                by_cases hbig : (4194304 : Int) < (arBytes ms).length
                · have hbig' : (4194304 : Int) < (bodyTo (front ms (pls ms)) ms ms.length).length := hbig
                  have e2 : arWrite ms = ([], 6) := by rw [E1.out, if_pos (by omega)]
                  have E2 := Lib.hid e2; clear e2
                  go_wp2_with fail
                  go_ret2
                  exact ⟨.slice none 0 0, by rw [E2.out]; rfl, by rw [E2.out]; exact Own.nil _ _ _ _, HT.out.be⟩
                · have hbig' : ¬ (4194304 : Int) < (bodyTo (front ms (pls ms)) ms ms.length).length := hbig
                  have e2 : arWrite ms = (arBytes ms, 0) := by rw [E1.out, if_neg (by omega)]
                  have E2 := Lib.hid e2; clear e2
                  go_wp2_with fail
                  go_ret2
                  exact ⟨_, by rw [E2.out]; rfl, by rw [E2.out]; exact HT.out.oa, HT.out.be⟩
  · have hz' : (faultOf ms != 0) = true := by simpa using hz
    have e2 : arWrite ms = ([], faultOf ms) := by unfold arWrite; rw [if_neg hz]
    have E2 := Lib.hid e2; clear e2
    clear hz
    go_enter Tryz.func9, Tryz.ntmps9
    go_wp2_with fail
    refine (ar_faulty _ ms _ Hv.out Hf.out).mono ?_
    rintro _ w1 ⟨rfl, hb1⟩
    have Hb1 := Lib.hid hb1; clear hb1
    go_wp2_with fail
    go_ret2
    exact ⟨.slice none 0 0, by rw [E2.out]; rfl, by rw [E2.out]; exact Own.nil _ _ _ _, Hb1.out⟩

end Go.Proofs.YtnpfnjkghlgooaaGreatDoor
