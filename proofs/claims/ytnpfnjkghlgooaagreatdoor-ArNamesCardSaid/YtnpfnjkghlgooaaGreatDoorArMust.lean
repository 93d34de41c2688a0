/-
  The walks of ar.must, ar.named.
  Conditions: lengths below 10^9.
-/
import Derived.Test.YtnpfnjkghlgooaaGreatDoorArSz
namespace Go.Proofs.YtnpfnjkghlgooaaGreatDoor
set_option linter.unusedVariables false
set_option linter.unusedSimpArgs false
open Go Go.RowKit


theorem ar_must_ok (w : World) : Calls Tryz.prog 30 #[.bool true] w fun e w' => e = .returned (.tuple #[]) ∧ w = w' := by
  go_enter Tryz.func30, Tryz.ntmps30
  go_wp2
  first | go_end0 | refine bodyPost_ret (results_none rfl _ _ _) rfl ?_
  exact ⟨rfl, rfl⟩

theorem ar_must_no (w : World) : Calls Tryz.prog 30 #[.bool false] w fun e w' => e = Ending.panicked [{ v := Value.iface 56 (Value.agg #[]), recovered := false }] ∧ w = w' := by
  go_enter Tryz.func30, Tryz.ntmps30
  go_wp2
  exact ⟨rfl, rfl, rfl⟩

structure GlobE (w : World) : Prop where
  glob : Glob w
  err : ∃ ev, w.cell? ⟨2, 0, none⟩ = some ev ∧ (ev = .nilIface ∨ ∃ te pe, ev = .iface te pe)
theorem GlobE.below {w w' : World} (h : GlobE w) (hb : Below w.heap.size w w') : GlobE w' :=
  ⟨h.glob.below hb, by obtain ⟨ev, h1, h2⟩ := h.err; exact ⟨ev, bel_cell hb h1, h2⟩⟩

theorem lib_Atoi (s : ByteArray) (w : World) (hs : s.size ≤ 18) (hG : GlobE w) :
    Calls Tryz.prog 61 #[.string s] w fun e w' => ((∃ n, Lib.atoi s.data.toList = some n ∧ e = .returned (.tuple #[.int .i64 n, .nilIface])) ∨ (Lib.atoi s.data.toList = none ∧ ∃ N, e = .returned (.tuple #[.int .i64 0, .iface 135 (.pointer (some ⟨N, 0, none⟩))]))) ∧ Below w.heap.size w w' := by
  cases h : Lib.atoi s.data.toList with
  | some n => exact (Tryz.strconv_Atoi s n hs h w).mono fun e w' ⟨h1, t, h2⟩ => ⟨.inl ⟨n, rfl, h1⟩, by rw [h2]; exact bytes_bel w _ t⟩
  | none =>
    obtain ⟨ev, h1, h2⟩ := hG.err
    exact (Tryz.strconv_Atoi_err s hs h ev w h1 h2).mono fun e w' ⟨N, h3, _, _, h4⟩ => ⟨.inr ⟨rfl, N, h3⟩, h4⟩

/-- A member's name, as its header and the long names have it. -/
def Named (s long nm : List UInt8) : Prop := (s = nm ++ [47] ∧ nm ≠ [] ∧ (47 : UInt8) ∉ nm) ∨ ∃ D : Nat, s = 47 :: Lib.decDigits D ∧ LongAt long D nm

theorem cut_one (l : List UInt8) : Lib.cut l [47] = if 0 ≤ Lib.indexByte l 47 then (l.take (Lib.indexByte l 47).toNat, l.drop ((Lib.indexByte l 47).toNat + 1), true) else (l, [], false) := by
  unfold Lib.cut
  rw [Lib.index_one]
  rfl
theorem cut_long (long : List UInt8) (D : Nat) (nm : List UInt8) (h : LongAt long D nm) : Lib.indexByte (long.drop D) 47 = nm.length := by
  obtain ⟨h1, h2, h3, h4⟩ := long_pair h
  have hg := Lib.indexByte_ge (long.drop D) 47
  by_cases hn : Lib.indexByte (long.drop D) 47 = -1
  · exact (Lib.indexByte_none hn nm.length (by rw [List.getElem?_drop]; exact h1)).elim
  · obtain ⟨o, ho⟩ := Int.eq_ofNat_of_zero_le (show 0 ≤ Lib.indexByte (long.drop D) 47 by omega)
    obtain ⟨h5, h6⟩ := Lib.indexByte_some ho
    rw [List.getElem?_drop] at h5
    rw [ho]
    rcases Nat.lt_trichotomy o nm.length with h7 | h7 | h7
    · exact (h3 o h7 h5).elim
    · rw [h7]
    · exact (h6 _ h7 (by rw [List.getElem?_drop]; exact h1)).elim
theorem LongAt.le {long : List UInt8} {D : Nat} {nm : List UInt8} (h : LongAt long D nm) : D + nm.length + 2 ≤ long.length := by
  have := (List.getElem?_eq_some_iff.1 (long_pair h).2.1).1
  omega
theorem named_pre (s long nm : List UInt8) (h : Named s long nm) (hp : Lib.hasPrefix s [47] = false) : Lib.hasSuffix s [47] = true ∧ nm = s.take (s.length - 1) := by
  rcases h with ⟨rfl, h1, h2⟩ | ⟨D, rfl, _⟩
  · refine ⟨?_, by simp⟩
    unfold Lib.hasSuffix
    rw [List.isSuffixOf_iff_suffix]
    exact List.suffix_append _ _
  · simp [Lib.hasPrefix] at hp
theorem named_long (s long nm : List UInt8) (h : Named s long nm) (hp : Lib.hasPrefix s [47] = true) : ∃ D : Nat, s = 47 :: Lib.decDigits D ∧ LongAt long D nm := by
  rcases h with ⟨rfl, h1, h2⟩ | h
  · cases nm with
    | nil => exact (h1 rfl).elim
    | cons c nm =>
      simp [Lib.hasPrefix] at hp
      exact (h2 (by simp [hp])).elim
  · exact h

theorem ext_take (s : ByteArray) (k : Nat) : (s.extract 0 k).data.toList = s.data.toList.take k := by
  simp [ByteArray.data_extract]

set_option maxHeartbeats 1000000 in
set_option maxRecDepth 20000 in
theorem ar_named (s long : ByteArray) (w : World) (hs : s.size ≤ 18) (hl : long.size ≤ 1000000000) (hG : GlobE w) :
    Calls Tryz.prog 48 #[.string s, .string long] w fun e w' => ((e = Ending.panicked [{ v := Value.iface 56 (Value.agg #[]), recovered := false }] ∧ ∀ nm, ¬ Named s.data.toList long.data.toList nm) ∨ (∃ t : List UInt8, e = .returned (.string ⟨t.toArray⟩) ∧ t.length ≤ s.size + long.size ∧ ∀ nm, Named s.data.toList long.data.toList nm → t = nm)) ∧ Below w.heap.size w w' := by
  have HG := Lib.hid hG; clear hG
  go_enter Tryz.func48, Tryz.ntmps48
  go_wp2_with fail
  refine (Tryz.strings_HasPrefix s ⟨#[47]⟩ w).mono ?_
  rintro _ _ ⟨rfl, rfl⟩
  cases hp : Lib.hasPrefix s.data.toList [47] with
  | false =>
    have Hp := Lib.hid (fun nm h => named_pre s.data.toList long.data.toList nm h hp)
    go_wp2_with fail
    refine (Tryz.strings_HasSuffix s ⟨#[47]⟩ _ (by omega)).mono ?_
    rintro _ _ ⟨rfl, rfl⟩
    cases hf : Lib.hasSuffix s.data.toList [47] with
    | false =>
      go_wp2_with fail
      refine (ar_must_no _).mono ?_
      rintro _ _ ⟨rfl, rfl⟩
      go_wp2_with fail
      refine ⟨rfl, .inl ⟨rfl, fun nm h => ?_⟩, Below.refl _ _⟩
      have := (Hp.out nm h).1
      rw [hf] at this; cases this
    | true =>
      have h1 : (1 : Int) ≤ s.size := by
        unfold Lib.hasSuffix at hf
        rw [List.isSuffixOf_iff_suffix] at hf
        have := hf.length_le
        have e := dl s
        simp at this; omega
      go_wp2_with fail
      refine (ar_must_ok _).mono ?_
      rintro _ _ ⟨rfl, rfl⟩
      go_wp2_with fail
      go_ret
      refine ⟨.inr ⟨(s.extract 0 (s.size - 1)).data.toList, ret_str (ba_self _).symm, ?_, fun nm h => ?_⟩, Below.refl _ _⟩
      · rw [ext_take, List.length_take, dl]; omega
      · rw [ext_take, (Hp.out nm h).2, dl]
  | true =>
    have Hp := Lib.hid (fun nm h => named_long s.data.toList long.data.toList nm h hp)
    have h1 : (1 : Int) ≤ s.size := by
      unfold Lib.hasPrefix at hp
      rw [List.isPrefixOf_iff_prefix] at hp
      have := hp.length_le
      have e := dl s
      simp at this; omega
    go_wp2_with fail
    refine (lib_Atoi _ _ (by rw [ByteArray.size_extract]; omega) HG.out).mono ?_
    rintro _ w2 ⟨h2, hb2⟩
    have Hb2 := Lib.hid hb2; clear hb2
    have e1 : (s.extract 1 s.size).data.toList = s.data.toList.drop 1 := Lib.extract_to_end s 1
    rw [e1] at h2
    rcases h2 with ⟨n, h3, rfl⟩ | ⟨h3, N, rfl⟩
    · have HD := Lib.hid (show ∀ (D : Nat), s.data.toList = 47 :: Lib.decDigits D → n = D from fun D h => by
        rw [h] at h3
        have h4 := atoi_dec D
        simp only [List.drop_succ_cons, List.drop_zero] at h3
        rw [h3] at h4
        exact Option.some.inj h4)
      clear h3 e1
      by_cases hn : 0 ≤ n ∧ n ≤ long.size
      · obtain ⟨hn0, hn1⟩ := hn
        go_wp2_with fail
        refine (ar_must_ok _).mono ?_
        rintro _ _ ⟨rfl, rfl⟩
        go_wp2_with fail
        have hG2 := HG.out.below Hb2.out
        obtain ⟨m, hm⟩ := hG2.glob.maxLen
        refine (Tryz.strings_Cut (long.extract n.toNat long.size) ⟨#[47]⟩ m _ (by rw [ByteArray.size_extract]; omega) hm).mono ?_
        rintro _ w3 ⟨rfl, q, rfl⟩
        have e2 : (long.extract n.toNat long.size).data.toList = long.data.toList.drop n.toNat := Lib.extract_to_end long n.toNat
        rw [e2, show (⟨#[47]⟩ : ByteArray).data.toList = [47] from rfl, cut_one]
        clear hm hG2 e2
        have hx1 := indexByte_lt (long.data.toList.drop n.toNat) 47
        have hx0 := Lib.indexByte_ge (long.data.toList.drop n.toNat) 47
        obtain ⟨x, hx⟩ : ∃ x, x = Lib.indexByte (long.data.toList.drop n.toNat) 47 := ⟨_, rfl⟩
        rw [← hx] at hx0 hx1 ⊢
        rw [List.length_drop, dl] at hx1
        have Hx := Lib.hid hx; clear hx
        by_cases hneg : 0 ≤ x
        · rw [if_pos hneg]
          go_wp2_with fail
          refine (ar_must_ok _).mono ?_
          rintro _ _ ⟨rfl, rfl⟩
          go_wp2_with fail
          go_ret
          refine ⟨.inr ⟨_, rfl, ?_, fun nm h => ?_⟩, bel_trans Hb2.out (bel_drewN _ _)⟩
          · rw [List.length_take, List.length_drop, dl]; omega
          · obtain ⟨D, h5, h6⟩ := Hp.out nm h
            have h7 := HD.out D h5
            subst h7
            have h8 := cut_long _ _ _ h6
            rw [Hx.out, Int.toNat_natCast, h8, Int.toNat_natCast]
            exact (long_pair h6).2.2.2.symm
        · rw [if_neg hneg]
          go_wp2_with fail
          refine (ar_must_no _).mono ?_
          rintro _ _ ⟨rfl, rfl⟩
          go_wp2_with fail
          refine ⟨rfl, .inl ⟨rfl, fun nm h => ?_⟩, bel_trans Hb2.out (bel_drewN _ _)⟩
          obtain ⟨D, h5, h6⟩ := Hp.out nm h
          have h7 := HD.out D h5
          subst h7
          have h8 := cut_long _ _ _ h6
          have h9 := Hx.out
          rw [Int.toNat_natCast, h8] at h9
          omega
      · by_cases hn0 : 0 ≤ n
        · have hn1 : decide (n ≤ (long.size : Int)) = false := decide_eq_false (by omega)
          clear hn
          go_wp2_with fail
          refine (ar_must_no _).mono ?_
          rintro _ _ ⟨rfl, rfl⟩
          go_wp2_with fail
          refine ⟨rfl, .inl ⟨rfl, fun nm h => ?_⟩, Hb2.out⟩
          obtain ⟨D, h5, h6⟩ := Hp.out nm h
          have h7 := HD.out D h5
          have h8 := h6.le
          rw [dl] at h8
          have := of_decide_eq_false hn1
          omega
        · clear hn
          go_wp2_with fail
          refine (ar_must_no _).mono ?_
          rintro _ _ ⟨rfl, rfl⟩
          go_wp2_with fail
          refine ⟨rfl, .inl ⟨rfl, fun nm h => ?_⟩, Hb2.out⟩
          obtain ⟨D, h5, h6⟩ := Hp.out nm h
          have h7 := HD.out D h5
          have h8 := h6.le
          rw [dl] at h8
          omega
    · go_wp2_with fail
      refine (ar_must_no _).mono ?_
      rintro _ _ ⟨rfl, rfl⟩
      go_wp2_with fail
      refine ⟨rfl, .inl ⟨rfl, fun nm h => ?_⟩, Hb2.out⟩
      obtain ⟨D, h5, h6⟩ := Hp.out nm h
      rw [h5] at h3
      have h4 := atoi_dec D
      simp only [List.drop_succ_cons, List.drop_zero] at h3
      rw [h3] at h4; cases h4

end Go.Proofs.YtnpfnjkghlgooaaGreatDoor
