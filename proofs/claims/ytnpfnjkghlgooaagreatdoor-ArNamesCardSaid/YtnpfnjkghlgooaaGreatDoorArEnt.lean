/-
  The walks of ar.entries and foundryref7.syms.
  Conditions: lengths up to a million.
-/
import Derived.Test.YtnpfnjkghlgooaaGreatDoorArMust
namespace Go.Proofs.YtnpfnjkghlgooaaGreatDoor
set_option linter.unusedVariables false
set_option linter.unusedSimpArgs false
open Go Go.RowKit

def entC (l : List UInt8) : Nat := rd4 l 0
def tOff (l : List UInt8) : Nat → Nat
  | 0 => 4 + 4 * entC l
  | i + 1 => tOff l i + (tVal l (tOff l i)).length + 1
def entP (l : List UInt8) (i : Nat) : Nat := rd4 l (4 + 4 * i)
def entN (l : List UInt8) (i : Nat) : ByteArray := ⟨(tVal l (tOff l i)).toArray⟩
def entGood (l : List UInt8) (k : Nat) : Prop := ∀ i, i < k → uErr l (4 + 4 * i) = 0 ∧ tErr l (tOff l i) = 0
/-- An index that can be read. -/
structure EntOk (l : List UInt8) : Prop where
  head : uErr l 0 = 0
  room : entC l ≤ l.length
  all : entGood l (entC l)
def psTo (l : List UInt8) (k : Nat) : List Int := (List.range k).map fun i => ((entP l i : Nat) : Int)
def nsTo (l : List UInt8) (k : Nat) : List ByteArray := (List.range k).map (entN l)
theorem entGood.step {l : List UInt8} {k : Nat} (h : entGood l k) (h1 : uErr l (4 + 4 * k) = 0) (h2 : tErr l (tOff l k) = 0) : entGood l (k + 1) := fun i hi => by
  rcases Nat.lt_or_ge i k with h3 | h3
  · exact h i h3
  · have : i = k := by omega
    subst this; exact ⟨h1, h2⟩
theorem tVal_le (l : List UInt8) (i : Nat) : (tVal l i).length ≤ l.length := by
  unfold tVal; split
  · simp; omega
  · simp
theorem tOff_le (l : List UInt8) (i : Nat) (h : tErr l i = 0) : i + (tVal l i).length + 1 ≤ l.length := by
  by_cases h1 : l.length < i
  · rw [(tErr_out l i h1).1] at h; cases h
  · by_cases h2 : Lib.indexByte (l.drop i) 0 < 0
    · rw [(tErr_short l i h1 h2).1] at h; cases h
    · rw [(tErr_in l i h1 h2).2]
      have := indexByte_lt (l.drop i) 0
      rw [List.length_drop] at this
      rw [List.length_take, List.length_drop]
      unfold tLen
      omega
theorem uErr_room {l : List UInt8} {i : Nat} (h : uErr l i = 0) : i + 4 ≤ l.length := by
  unfold uErr at h
  split at h
  · cases h
  · split at h
    · cases h
    · omega
theorem uErr_ne (l : List UInt8) (i : Nat) (h : ¬ uErr l i = 0) : uErr l i = 5 ∨ uErr l i = 2 := by
  unfold uErr at *
  split
  · exact .inl rfl
  · split
    · exact .inr rfl
    · rename_i h1 h2; rw [if_neg h1, if_neg h2] at h; exact (h rfl).elim
theorem tErr_ne (l : List UInt8) (i : Nat) (h : ¬ tErr l i = 0) : tErr l i = 5 ∨ tErr l i = 2 := by
  unfold tErr at *
  split
  · exact .inl rfl
  · split
    · exact .inr rfl
    · rename_i h1 h2; rw [if_neg h1, if_neg h2] at h; exact (h rfl).elim
theorem OwnL.rdI {w : World} {B : Nat} {e : TypeId} {v : Value} {l : List Int} (h : OwnL w B e v (l.map (Value.int .i64))) : RdI w v l := by
  have := Own.cells h
  rwa [List.length_map] at this
theorem rd4_lt (l : List UInt8) (i : Nat) : rd4 l i < 4294967296 := by
  have h := be_lt ((l.drop i).take 4)
  refine Nat.lt_of_lt_of_le h (Nat.le_trans (Nat.pow_le_pow_right (by omega) (show _ ≤ 4 by simp; omega)) (by decide))
theorem psTo_succ (l : List UInt8) (k : Nat) : (psTo l k).map (Value.int .i64) ++ [.int .i64 ((entP l k : Nat) : Int)] = (psTo l (k + 1)).map (Value.int .i64) := by simp [psTo, List.range_succ]
theorem nsTo_succ (l : List UInt8) (k : Nat) : (nsTo l k).map Value.string ++ [.string (entN l k)] = (nsTo l (k + 1)).map Value.string := by simp [nsTo, List.range_succ]
theorem psTo_len (l : List UInt8) (k : Nat) : (psTo l k).length = k := by simp [psTo]
theorem nsTo_len (l : List UInt8) (k : Nat) : (nsTo l k).length = k := by simp [nsTo]

set_option maxHeartbeats 1000000 in
set_option maxRecDepth 20000 in
theorem ar_entries (v : Value) (l : List UInt8) (w : World) (hv : RdB w v l) (hl : l.length ≤ 1000000) :
    Calls Tryz.prog 47 #[v] w fun e w' => ((e = Ending.panicked [{ v := Value.iface 56 (Value.agg #[]), recovered := false }] ∧ ¬ EntOk l) ∨ (EntOk l ∧ ∃ va vn, e = .returned (.tuple #[va, vn]) ∧ RdI w' va (psTo l (entC l)) ∧ RdS w' vn (nsTo l (entC l)))) ∧ Below w.heap.size w w' := by
  obtain ⟨a, c, rfl, hc1, hc2, hc⟩ := id hv
  clear hc hc2
  have hl' : (l.length : Int) ≤ 1000000 := by omega
  have Hv := Lib.hid hv; clear hv
  go_enter Tryz.func47, Tryz.ntmps47
  go_wp2_with fail
  refine (oct_BigU _ l 0 0 w Hv.out (by omega) (by omega) rfl).mono ?_
  rintro _ _ ⟨rfl, rfl⟩
  by_cases h0 : uErr l 0 = 0
  · have hlen := uErr_room h0
    have hU : uVal l 0 = ((entC l : Nat) : Int) := by unfold uVal; rw [if_pos h0]; rfl
    rw [hU, h0]
    clear hU
    obtain ⟨N, hN⟩ : ∃ N, N = entC l := ⟨_, rfl⟩
    rw [← hN]
    have HN := Lib.hid hN; clear hN
    have H0 := Lib.hid h0; clear h0
    by_cases hroom : (N : Int) ≤ l.length
    · go_wp2_with fail
      refine (ar_must_ok _).mono ?_
      rintro _ _ ⟨rfl, rfl⟩
      go_wp2_with fail
      go_loopw [2, 3, 6, 32] (fun va vn t i wr => ∃ k : Nat, k ≤ N ∧ i = .int .i64 k ∧ t = .int .i64 ((tOff l k : Nat) : Int) ∧ tOff l k ≤ 4000004 ∧ entGood l k ∧
        Tri w wr 3 9 5 va vn (.slice none 0 0) ((psTo l k).map (Value.int .i64)) ((nsTo l k).map Value.string) []) (fun _ _ _ i _ => N - (intOf i).toNat)
      case atStart =>
        refine ⟨0, Nat.zero_le _, rfl, ?_, ?_, fun i h => by omega, ⟨Own.nil _ _ _ _, Own.nil _ _ _ _, Own.nil _ _ _ _, fun k h => by simp [Value.ownBlock] at h, fun k h => by simp [Value.ownBlock] at h, fun k h => by simp [Value.ownBlock] at h, Below.refl _ _⟩⟩
        · unfold tOff; rw [← HN.out]; go_num
        · unfold tOff; rw [← HN.out]; omega
      case round =>
        obtain ⟨k, hk, rfl, rfl, hto, hgd, hT⟩ := hrel
        have hto' : ((tOff l k : Nat) : Int) ≤ 4000004 := by omega
        have Hgd := Lib.hid hgd; clear hgd
        have HT := Lib.hid hT; clear hT
        have hz := HT.out.be.size
        by_cases hlt : k < N
        · go_wp2_with fail
          refine (oct_BigU _ l _ (4 + 4 * k) _ (Hv.out.below HT.out.be) (by omega) (by omega) (by omega)).mono ?_
          rintro _ _ ⟨rfl, rfl⟩
          by_cases h1 : uErr l (4 + 4 * k) = 0
          · have hU : uVal l (4 + 4 * k) = ((entP l k : Nat) : Int) := by unfold uVal; rw [if_pos h1]; rfl
            have hPb : ((entP l k : Nat) : Int) < 4294967296 := by have := rd4_lt l (4 + 4 * k); unfold entP; omega
            rw [hU, h1]
            have H1 := Lib.hid h1; clear hU h1
            go_wp2_with fail
            refine (ar_must_ok _).mono ?_
            rintro _ _ ⟨rfl, rfl⟩
            go_wp2_with fail
            refine (oct_Text _ l _ (tOff l k) _ (Hv.out.below HT.out.be) (by omega) (by omega) rfl (by omega)).mono ?_
            rintro _ _ ⟨rfl, rfl⟩
            by_cases h2 : tErr l (tOff l k) = 0
            · have hle := tOff_le l _ h2
              rw [h2]
              have hE : (⟨(tVal l (tOff l k)).toArray⟩ : ByteArray) = entN l k := rfl
              have hEs : (entN l k).size = (tVal l (tOff l k)).length := ba_size _
              rw [hE]
              have hE2 : ((entN l k).size : Int) ≤ 1000000 := by omega
              have hstep := Hgd.out.step H1.out h2
              have Hstep := Lib.hid hstep; clear hstep
              have hto2 : tOff l (k + 1) = tOff l k + (entN l k).size + 1 := by rw [hEs]; rfl
              have Hto2 := Lib.hid hto2; clear hto2
              have HEs := Lib.hid hEs; clear hEs hE h2
              have hlp := psTo_len l k
              have hln := nsTo_len l k
              go_wp2_with fail
              refine (ar_must_ok _).mono ?_
              rintro _ _ ⟨rfl, rfl⟩
              go_wp2_with (at_builtin; refine stop_here ?_)
              refine stop_out ?_
              refine wpList_app _ _ _ _ rfl rfl TI w.heap.size (HT.out.alloc _).oa rfl (Src.one1 TI.und _ rfl) rfl ?ab1a ?ab1b ?ab1c ?_
              case ab1a => (first | omega | (simp only [List.length_append, List.length_map, List.length_cons, List.length_nil, List.length_reverse]; omega))
              case ab1b => (unfold maxLen; first | omega | (simp only [List.length_append, List.length_map, List.length_cons, List.length_nil, List.length_reverse]; omega))
              case ab1c => (first | omega | (simp only [World.size_alloc]; omega) | (simp; done) | exact (Hid.out ‹Hid (Below _ _ _)›).size | (refine Nat.le_trans (Hid.out ‹Hid (Below _ _ _)›).size ?_; simp))
              intro b2 w2 h2 h2g h2k
              have H2 := Lib.hid h2; clear h2
              have H2g := Lib.hid h2g; clear h2g
              have H2k := Lib.hid h2k; clear h2k
              have T2 := Lib.hid ((HT.out.alloc _).app H2.out (psTo_succ l k) H2g.out H2k.out)
              have hz4 := T2.out.be.size
              go_wp2_with (at_builtin; refine stop_here ?_)
              refine stop_out ?_
              refine wpList_app _ _ _ _ rfl rfl TS w.heap.size (T2.out.ob.alloc _) rfl (Src.one1 TS.und _ rfl) rfl ?ab2ba ?ab2b ?ab2c ?_
              case ab2ba => (first | omega | (simp only [List.length_append, List.length_map, List.length_cons, List.length_nil, List.length_reverse]; omega))
              case ab2b => (unfold maxLen; first | omega | (simp only [List.length_append, List.length_map, List.length_cons, List.length_nil, List.length_reverse]; omega))
              case ab2c => (first | omega | (simp only [World.size_alloc]; omega) | (simp; done) | exact (Hid.out ‹Hid (Below _ _ _)›).size | (refine Nat.le_trans (Hid.out ‹Hid (Below _ _ _)›).size ?_; simp))
              intro t3 w3 h3 h3g h3k
              have H3 := Lib.hid h3; clear h3
              have H3g := Lib.hid h3g; clear h3g
              have H3k := Lib.hid h3k; clear h3k
              have T3 := Lib.hid (((T2.out.alloc _).rot.app H3.out (nsTo_succ l k) H3g.out H3k.out).rot.rot)
              clear hlp hln
              go_wp2_with (at_builtin; refine stop_here ?_)
              go_roundw
              case rel => exact ⟨k + 1, by omega, by go_num, by rw [Hto2.out]; go_num, by rw [Hto2.out]; omega, Hstep.out, T3.out⟩
              case measure => simp [intOf]; omega
            · have hA : ¬ EntOk l := fun h => h2 (h.all k (by have := HN.out; omega)).2
              have HA := Lib.hid hA; clear hA
              rcases tErr_ne l _ h2 with h9 | h9
              all_goals
                rw [h9]
                clear h9 h2
                go_wp2_with fail
                refine (ar_must_no _).mono ?_
                rintro _ _ ⟨rfl, rfl⟩
                go_wp2_with fail
                exact ⟨rfl, .inl ⟨rfl, fun h => HA.out h⟩, HT.out.be⟩
          · have hA : ¬ EntOk l := fun h => h1 (h.all k (by have := HN.out; omega)).1
            have HA := Lib.hid hA; clear hA
            rcases uErr_ne l _ h1 with h9 | h9
            all_goals
              rw [h9]
              clear h9 h1
              go_wp2_with fail
              refine (ar_must_no _).mono ?_
              rintro _ _ ⟨rfl, rfl⟩
              go_wp2_with fail
              exact ⟨rfl, .inl ⟨rfl, fun h => HA.out h⟩, HT.out.be⟩
        · have hkN : k = N := by omega
          subst hkN
          go_wp2_with fail
          go_ret2
          have hI : RdI wr u2 (psTo l k) := OwnL.rdI HT.out.oa
          have hS : RdS wr u3 (nsTo l k) := OwnL.rdS HT.out.ob
          have hG := Hgd.out
          have hN := HN.out
          rw [hN] at hI hS hG hroom
          exact ⟨.inr ⟨⟨H0.out, by omega, hG⟩, _, _, rfl, hI, hS⟩, HT.out.be⟩
    · have hA : ¬ EntOk l := fun h => by have := h.room; have := HN.out; omega
      have HA := Lib.hid hA; clear hA
      have hroom' : ¬ N ≤ l.length := by omega
      clear hroom
      go_wp2_with fail
      refine (ar_must_no _).mono ?_
      rintro _ _ ⟨rfl, rfl⟩
      go_wp2_with fail
      exact ⟨rfl, .inl ⟨rfl, fun h => HA.out h⟩, Below.refl _ _⟩
  · have hA : ¬ EntOk l := fun h => h0 h.head
    have HA := Lib.hid hA; clear hA
    rcases uErr_ne l _ h0 with h9 | h9
    all_goals
      rw [h9]
      clear h9 h0
      go_wp2_with fail
      refine (ar_must_no _).mono ?_
      rintro _ _ ⟨rfl, rfl⟩
      go_wp2_with fail
      exact ⟨rfl, .inl ⟨rfl, fun h => HA.out h⟩, Below.refl _ _⟩

def symsTo (l : List UInt8) (p k : Nat) : List ByteArray := ((List.range k).filter fun i => decide (entP l i = p)).map (entN l)
theorem symsTo_hit (l : List UInt8) (p k : Nat) (h : entP l k = p) : symsTo l p (k + 1) = symsTo l p k ++ [entN l k] := by
  simp [symsTo, List.range_succ, List.filter_append, h]
theorem symsTo_miss (l : List UInt8) (p k : Nat) (h : ¬ entP l k = p) : symsTo l p (k + 1) = symsTo l p k := by
  simp [symsTo, List.range_succ, List.filter_append, h]
theorem symsTo_len (l : List UInt8) (p k : Nat) : (symsTo l p k).length ≤ k := by
  unfold symsTo
  rw [List.length_map]
  exact Nat.le_trans (List.length_filter_le _ _) (by simp)
theorem symsTo_size (l : List UInt8) (p k : Nat) : ∀ s ∈ symsTo l p k, s.size ≤ l.length := by
  intro s hs
  unfold symsTo at hs
  obtain ⟨i, _, rfl⟩ := List.mem_map.1 hs
  have : (entN l i).size = (tVal l (tOff l i)).length := ba_size _
  rw [this]; exact tVal_le _ _

set_option maxHeartbeats 1000000 in
set_option maxRecDepth 20000 in
theorem ref_syms (v : Value) (l : List UInt8) (p : Nat) (w : World) (hv : RdB w v l) (hl : l.length ≤ 1000000) (hp : p ≤ 1000000000) :
    Calls Tryz.prog 35 #[v, .int .i64 p] w fun e w' => ∃ v' xs, e = .returned v' ∧ OwnL w' w.heap.size 9 v' (xs.map Value.string) ∧ (EntOk l → xs = symsTo l p (entC l)) ∧ (¬ EntOk l → xs = []) ∧ 4 * xs.length ≤ l.length ∧ (∀ s ∈ xs, s.size ≤ l.length) ∧ Below w.heap.size w w' := by
  obtain ⟨a, c, rfl, hc1, hc2, hc⟩ := id hv
  clear hc hc2
  have hl' : (l.length : Int) ≤ 1000000 := by omega
  have Hv := Lib.hid hv; clear hv
  go_enter Tryz.func35, Tryz.ntmps35
  go_wp2_with fail
  refine (ref1_BigU _ l 0 0 w Hv.out (by omega) (by omega) rfl).mono ?_
  rintro _ w1 ⟨rfl, hb1⟩
  have Hb1 := Lib.hid hb1; clear hb1
  by_cases h0 : uErr l 0 = 0
  · have hlen := uErr_room h0
    have hU : uVal l 0 = ((entC l : Nat) : Int) := by unfold uVal; rw [if_pos h0]; rfl
    rw [hU, h0]
    clear hU
    obtain ⟨N, hN⟩ : ∃ N, N = entC l := ⟨_, rfl⟩
    rw [← hN]
    have HN := Lib.hid hN; clear hN
    have H0 := Lib.hid h0; clear h0
    by_cases hroom : N ≤ l.length
    · have hroom' : ¬ l.length < N := by omega
      go_wp2_with fail
      go_loopw [7, 8, 9] (fun vs t i wr => ∃ k : Nat, k ≤ N ∧ i = .int .i64 k ∧ t = .int .i64 ((tOff l k : Nat) : Int) ∧ tOff l k ≤ 4000004 ∧ entGood l k ∧
        OwnL wr w.heap.size 9 vs ((symsTo l p k).map Value.string) ∧ Below w.heap.size w wr) (fun _ _ i _ => N - (intOf i).toNat)
      case atStart =>
        refine ⟨0, Nat.zero_le _, rfl, ?_, ?_, fun i h => by omega, Own.nil _ _ _ _, Hb1.out⟩
        · unfold tOff; rw [← HN.out]; go_num
        · unfold tOff; rw [← HN.out]; omega
      case round =>
        obtain ⟨k, hk, rfl, rfl, hto, hgd, hO, hB⟩ := hrel
        have hto' : ((tOff l k : Nat) : Int) ≤ 4000004 := by omega
        have Hgd := Lib.hid hgd; clear hgd
        have HO := Lib.hid hO; clear hO
        have hz := hB.size
        have HB := Lib.hid hB; clear hB
        by_cases hlt : k < N
        · go_wp2_with fail
          refine (ref1_BigU _ l _ (4 + 4 * k) _ (Hv.out.below HB.out) (by omega) (by omega) (by omega)).mono ?_
          rintro _ w2 ⟨rfl, hb2⟩
          have HB2 := Lib.hid (bel_trans HB.out hb2)
          have HO2 := Lib.hid (HO.out.below hb2)
          clear hb2
          have hz2 := HB2.out.size
          go_wp2_with fail
          refine (ref1_Text _ l _ (tOff l k) _ (Hv.out.below HB2.out) (by omega) (by omega) rfl).mono ?_
          rintro _ _ ⟨rfl, rfl⟩
          by_cases h1 : uErr l (4 + 4 * k) = 0
          · have hU : uVal l (4 + 4 * k) = ((entP l k : Nat) : Int) := by unfold uVal; rw [if_pos h1]; rfl
            have hPb : ((entP l k : Nat) : Int) < 4294967296 := by have := rd4_lt l (4 + 4 * k); unfold entP; omega
            rw [hU, h1]
            have H1 := Lib.hid h1; clear hU h1
            by_cases h2 : tErr l (tOff l k) = 0
            · have hle := tOff_le l _ h2
              rw [h2]
              have hE : (⟨(tVal l (tOff l k)).toArray⟩ : ByteArray) = entN l k := rfl
              have hEs : (entN l k).size = (tVal l (tOff l k)).length := ba_size _
              rw [hE]
              have hE2 : ((entN l k).size : Int) ≤ 1000000 := by omega
              have hstep := Hgd.out.step H1.out h2
              have Hstep := Lib.hid hstep; clear hstep
              have hto2 : tOff l (k + 1) = tOff l k + (entN l k).size + 1 := by rw [hEs]; rfl
              have Hto2 := Lib.hid hto2; clear hto2
              have HEs := Lib.hid hEs; clear hEs hE h2
              have hsl := symsTo_len l p k
              by_cases hpp : entP l k = p
              · have Hss := Lib.hid (symsTo_hit l p k hpp)
                have hpp' : ((entP l k : Nat) : Int) = p := by omega
                clear hpp
                go_wp2_with (at_builtin; refine stop_here ?_)
                refine stop_out ?_
                refine wpList_app _ _ _ _ rfl rfl TS w.heap.size (HO2.out.alloc _) rfl (Src.one1 TS.und _ rfl) rfl ?ab3ca ?ab3cb ?ab3c ?_
                case ab3ca => (first | omega | (simp only [List.length_append, List.length_map, List.length_cons, List.length_nil, List.length_reverse]; omega))
                case ab3cb => (unfold maxLen; first | omega | (simp only [List.length_append, List.length_map, List.length_cons, List.length_nil, List.length_reverse]; omega))
                case ab3c => (first | omega | (simp only [World.size_alloc]; omega) | (simp; done) | exact (Hid.out ‹Hid (Below _ _ _)›).size | (refine Nat.le_trans (Hid.out ‹Hid (Below _ _ _)›).size ?_; simp))
                intro t3 w3 h3 h3g h3k
                have H3 := Lib.hid h3; clear h3
                have H3g := Lib.hid h3g; clear h3g
                have H3k := Lib.hid h3k; clear h3k
                have HB3 := Lib.hid (below_own (HB2.out.alloc hz2 _) (by simp; omega) (HO2.out.alloc _) H3g.out)
                go_wp2_with (at_builtin; refine stop_here ?_)
                go_roundw
                case rel => exact ⟨k + 1, by omega, by go_num, by rw [Hto2.out]; go_num, by rw [Hto2.out]; omega, Hstep.out, by rw [Hss.out]; exact H3.out.toL (by simp), HB3.out⟩
                case measure => simp [intOf]; omega
              · have Hss := Lib.hid (symsTo_miss l p k hpp)
                have hpp' : (((entP l k : Nat) : Int) == (p : Int)) = false := by rw [beq_eq_false_iff_ne]; omega
                go_wp2_with fail
                go_roundw
                case rel => exact ⟨k + 1, by omega, by go_num, by rw [Hto2.out]; go_num, by rw [Hto2.out]; omega, Hstep.out, by rw [Hss.out]; exact HO2.out, HB2.out⟩
                case measure => simp [intOf]; omega
            · have hA : ¬ EntOk l := fun h => h2 (h.all k (by have := HN.out; omega)).2
              have HA := Lib.hid hA; clear hA
              rcases tErr_ne l _ h2 with h9 | h9
              all_goals
                rw [h9]
                clear h9 h2
                go_wp2_with fail
                go_ret
                exact ⟨_, [], rfl, Own.nil _ _ _ _, fun h => (HA.out h).elim, fun _ => rfl, Nat.zero_le _, fun s h => by simp at h, HB2.out⟩
          · have hA : ¬ EntOk l := fun h => h1 (h.all k (by have := HN.out; omega)).1
            have HA := Lib.hid hA; clear hA
            rcases uErr_ne l _ h1 with h9 | h9
            all_goals
              rw [h9]
              clear h9 h1
              go_wp2_with fail
              go_ret
              exact ⟨_, [], rfl, Own.nil _ _ _ _, fun h => (HA.out h).elim, fun _ => rfl, Nat.zero_le _, fun s h => by simp at h, HB2.out⟩
        · have hkN : k = N := by omega
          subst hkN
          go_wp2_with fail
          go_ret
          refine ⟨_, symsTo l p k, rfl, HO.out, fun h => by rw [HN.out], fun h => (h ⟨H0.out, by have := HN.out; omega, by rw [← HN.out]; exact Hgd.out⟩).elim, ?_, symsTo_size l p k, HB.out⟩
          have := symsTo_len l p k
          rcases Nat.eq_zero_or_pos k with g | g
          · omega
          · have := uErr_room (Hgd.out (k - 1) (by omega)).1
            omega
    · have hA : ¬ EntOk l := fun h => by have := h.room; have := HN.out; omega
      have HA := Lib.hid hA; clear hA
      have hroom' : l.length < N := by omega
      clear hroom
      go_wp2_with fail
      go_ret
      exact ⟨_, [], rfl, Own.nil _ _ _ _, fun h => (HA.out h).elim, fun _ => rfl, Nat.zero_le _, fun s h => by simp at h, Hb1.out⟩
  · have hA : ¬ EntOk l := fun h => h0 h.head
    have HA := Lib.hid hA; clear hA
    rcases uErr_ne l _ h0 with h9 | h9
    all_goals
      rw [h9]
      clear h9 h0
      go_wp2_with fail
      go_ret
      exact ⟨_, [], rfl, Own.nil _ _ _ _, fun h => (HA.out h).elim, fun _ => rfl, Nat.zero_le _, fun s h => by simp at h, Hb1.out⟩

end Go.Proofs.YtnpfnjkghlgooaaGreatDoor
