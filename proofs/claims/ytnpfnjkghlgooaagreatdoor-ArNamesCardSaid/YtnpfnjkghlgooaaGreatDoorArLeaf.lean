/-
  The walks of the small functions of packages ar, foundryref7, foundryref3: each is called with anything and returns what the plain words say.
  Conditions: lengths below 2^62.
-/
import Derived.Test.YtnpfnjkghlgooaaGreatDoorBase
import Derived.Test.YtnpfnjkghlgooaaGreatDoorArSpec
import Derived.Test.YtnpfnjkghlgooaaGreatDoorShelf
import Derived.Deep.QuietTactic
import Derived.BigQuiet
namespace Go.Proofs.YtnpfnjkghlgooaaGreatDoor
set_option linter.unusedVariables false
set_option linter.unusedSimpArgs false
open Go Go.RowKit

set_option maxHeartbeats 400000 in
theorem ar_even (n : Int) (w : World) (h0 : 0 ≤ n) (h1 : n ≤ 4611686018427387904) :
    Calls Tryz.prog 24 #[.int .i64 n] w fun e w' => e = .returned (.int .i64 (n + n % 2)) ∧ w = w' := by
  go_enter Tryz.func24, Tryz.ntmps24
  go_wp2
  go_ret
  exact ⟨rfl, rfl⟩

theorem badCh_true (c : UInt8) (h : (c.toNat : Int) < 33 ∨ 126 < (c.toNat : Int) ∨ (c.toNat : Int) = 47) : badCh c = true := by
  unfold badCh; simp only [Bool.or_eq_true, decide_eq_true_eq]; omega
theorem badCh_false (c : UInt8) (h : 33 ≤ (c.toNat : Int) ∧ (c.toNat : Int) ≤ 126 ∧ ¬ (c.toNat : Int) = 47) : badCh c = false := by
  unfold badCh; simp only [Bool.or_eq_false_iff, decide_eq_false_iff_not]; omega
def good (l : List UInt8) : Bool := l.all fun c => !badCh c
theorem take_snoc (s : ByteArray) (k : Nat) (h : k < s.size) : s.data.toList.take (k + 1) = s.data.toList.take k ++ [s[k]] := by
  rw [List.take_succ_eq_append_getElem (by rw [dl]; exact h)]; rfl
theorem good_step (s : ByteArray) (k : Nat) (hk : k < s.size) (h : good (s.data.toList.take k) = true) (hc : badCh s[k] = false) : good (s.data.toList.take (k + 1)) = true := by
  unfold good at *; rw [take_snoc s k hk, List.all_append, h]; simp [hc]
theorem okName_bad (s : ByteArray) (k : Nat) (hk : k < s.size) (hc : badCh s[k] = true) : okName s.data.toList = false := by
  have : s.data.toList.all (fun c => !badCh c) = false := by
    rw [List.all_eq_false]
    exact ⟨s.data.toList[k]'(by rw [dl]; exact hk), List.getElem_mem _, by rw [show s.data.toList[k]'(by rw [dl]; exact hk) = s[k] from rfl]; simp [hc]⟩
  simp [okName, this]
theorem okName_end (s : ByteArray) (k : Nat) (h1 : k ≤ s.size) (h2 : ¬ k < s.size) (h : good (s.data.toList.take k) = true) : okName s.data.toList = (decide (1 ≤ (s.size : Int)) && decide ((s.size : Int) ≤ 128)) := by
  have hk : k = s.data.toList.length := by rw [dl]; omega
  rw [hk, List.take_length] at h
  unfold good at h
  unfold okName
  rw [h, dl, Bool.true_and]
  congr 1 <;> rw [decide_eq_decide] <;> omega

set_option maxHeartbeats 400000 in
theorem ar_name (s : ByteArray) (w : World) (hs : s.size ≤ 4611686018427387904) :
    Calls Tryz.prog 37 #[.string s] w fun e w' => e = .returned (.bool (okName s.data.toList)) ∧ w = w' := by
  go_enter Tryz.func37, Tryz.ntmps37
  go_wp2
  go_loop [6] (fun i => ∃ k : Nat, k ≤ s.size ∧ i = .int .i64 k ∧ good (s.data.toList.take k) = true) (fun i => s.size - (intOf i).toNat)
  case atStart => exact ⟨0, Nat.zero_le _, rfl, rfl⟩
  case round =>
    obtain ⟨k, hk, rfl, hr⟩ := hrel
    have Hr := Lib.hid hr; clear hr
    by_cases hlt : k < s.size
    · go_wp2
      case roundEnd =>
        have hc : badCh s[k] = false := badCh_false _ (by try simp only [beq_eq_false_iff_ne, beq_iff_eq, ne_eq] at *
                                                          omega)
        go_round
        case rel => exact ⟨k + 1, by omega, by go_num, good_step s k hlt Hr.out hc⟩
        case measure => simp [intOf]; omega
      all_goals
        have hc : badCh s[k] = true := badCh_true _ (by try simp only [beq_eq_false_iff_ne, beq_iff_eq, ne_eq] at *
                                                        omega)
        go_ret
        exact ⟨ret_bool (okName_bad s k hlt hc).symm, rfl⟩
    · have HE := Lib.hid (okName_end s k hk hlt Hr.out)
      go_wp2
      all_goals
        go_ret
        refine ⟨ret_bool ?_, rfl⟩
        rw [HE.out]
        simp
        try omega

theorem indexByte_neg (l : List UInt8) (c : UInt8) : (0 ≤ Lib.indexByte l c) ↔ c ∈ l := by
  induction l with
  | nil => simp [Lib.indexByte]
  | cons b l ih =>
    unfold Lib.indexByte
    by_cases h : b = c
    · simp [h]
    · have h' : ¬ c = b := fun e => h e.symm
      simp only [beq_iff_eq, h, if_false, List.mem_cons, h', false_or]
      rw [← ih]
      split <;> omega

theorem okSym_eq (s : ByteArray) : okSym s.data.toList = (decide (1 ≤ (s.size : Int)) && decide ((s.size : Int) ≤ 128) && !decide (0 ≤ Lib.indexByte s.data.toList 0)) := by
  unfold okSym
  rw [dl]
  have h : (s.data.toList.all fun c => decide (c.toNat ≠ 0)) = !decide (0 ≤ Lib.indexByte s.data.toList 0) := by
    rw [Bool.eq_iff_iff, List.all_eq_true]
    simp only [indexByte_neg, decide_eq_true_eq, Bool.not_eq_true', decide_eq_false_iff_not]
    constructor
    · intro h hm; exact h 0 hm rfl
    · intro h c hc e; exact h (by rw [show (0 : UInt8) = c from UInt8.toNat_inj.1 e.symm]; exact hc)
  rw [h]
  congr 2 <;> rw [decide_eq_decide] <;> omega

set_option maxHeartbeats 400000 in
theorem ar_symbol (s : ByteArray) (w : World) (hs : s.size ≤ 4611686018427387904) :
    Calls Tryz.prog 38 #[.string s] w fun e w' => e = .returned (.bool (okSym s.data.toList)) ∧ w = w' := by
  have HE := Lib.hid (okSym_eq s)
  go_enter Tryz.func38, Tryz.ntmps38
  go_wp2_with (go_at_call 52; refine (Tryz.strings_Contains_one s 0 _).mono ?_; rintro e w' ⟨rfl, rfl⟩)
  all_goals
    go_ret
    refine ⟨ret_bool ?_, rfl⟩
    rw [HE.out]
    simp
    try omega

/-- Worlds: one of the call's own Itoa. -/
structure Glob (w : World) : Prop where
  pow10 : Lib.TabIs Tryz.prog w "internal/strconv.uint64pow10" .u64 Lib.pow10Tab
  maxLen : ∃ m, w.cell? ⟨0, 0, none⟩ = some (.int .i64 m)

theorem repeatL_one (c : UInt8) (n : Nat) : Lib.repeatL [c] n = List.replicate n c := by
  induction n with
  | zero => rfl
  | succ n ih => simp [Lib.repeatL, ih, List.replicate_succ]

theorem blanks_le (n : Nat) : (blanks n).length ≤ n := by simp [blanks]
theorem fld_le (s : List UInt8) (k : Nat) : (fld s k).length ≤ s.length + k := by rw [fld_length]; omega

theorem lib_blanks (n : Int) (w : World) (h0 : 0 ≤ n) (h1 : n ≤ 1000000) :
    Calls Tryz.prog 77 #[.string ⟨#[32]⟩, .int .i64 n] w fun e w' => e = .returned (.string ⟨(blanks n.toNat).toArray⟩) ∧ Below w.heap.size w w' := by
  obtain ⟨m, rfl⟩ := Int.eq_ofNat_of_zero_le h0
  refine (Tryz.strings_Repeat ⟨#[32]⟩ m _ (by omega) (by show 1 * m ≤ _; omega)).mono ?_
  rintro e w' ⟨rfl, hb⟩
  refine ⟨ret_str ?_, hb⟩
  rw [show (⟨#[32]⟩ : ByteArray).data.toList = [32] from rfl, repeatL_one]
  rfl

set_option maxHeartbeats 400000 in
theorem ar_wide (s : ByteArray) (n : Int) (w : World) (hs : s.size ≤ 4611686018427387904) (h0 : 0 ≤ n) (h1 : n ≤ 1000) :
    Calls Tryz.prog 57 #[.string s, .int .i64 n] w fun e w' => e = .returned (.string ⟨(fld s.data.toList n.toNat).toArray⟩) ∧ Below w.heap.size w w' := by
  have hl := blanks_le (max (n - s.size) 0).toNat
  have hl2 : (max (n - s.size) 0).toNat ≤ 1000 := by omega
  go_enter Tryz.func57, Tryz.ntmps57
  go_wp2_with fail
  refine (lib_blanks _ _ (by omega) (by omega)).mono ?_
  rintro e w' ⟨rfl, hb⟩
  have Hb := Lib.hid hb; clear hb
  go_wp2_with fail
  go_ret
  refine ⟨ret_str ?_, Hb.out⟩
  rw [ba_app_r]
  unfold fld
  rw [dl, show (max (n - (s.size : Int)) 0).toNat = n.toNat - s.size by omega]

set_option maxHeartbeats 400000 in
theorem ref_Name (s : ByteArray) (w : World) (hs : s.size ≤ 4611686018427387904) :
    Calls Tryz.prog 42 #[.string s] w fun e w' => e = .returned (.bool (okName s.data.toList)) ∧ w = w' := by
  go_enter Tryz.func42, Tryz.ntmps42
  go_wp2
  go_loop [3] (fun i => ∃ k : Nat, k ≤ s.size ∧ i = .int .i64 k ∧ good (s.data.toList.take k) = true) (fun i => s.size - (intOf i).toNat)
  case atStart => exact ⟨0, Nat.zero_le _, rfl, rfl⟩
  case round =>
    obtain ⟨k, hk, rfl, hr⟩ := hrel
    have Hr := Lib.hid hr; clear hr
    by_cases hlt : k < s.size
    · go_wp2
      case roundEnd =>
        have hc : badCh s[k] = false := badCh_false _ (by try simp only [beq_eq_false_iff_ne, beq_iff_eq, ne_eq] at *
                                                          omega)
        go_round
        case rel => exact ⟨k + 1, by omega, by go_num, good_step s k hlt Hr.out hc⟩
        case measure => simp [intOf]; omega
      all_goals
        have hc : badCh s[k] = true := badCh_true _ (by try simp only [beq_eq_false_iff_ne, beq_iff_eq, ne_eq] at *
                                                        omega)
        go_ret
        exact ⟨ret_bool (okName_bad s k hlt hc).symm, rfl⟩
    · have HE := Lib.hid (okName_end s k hk hlt Hr.out)
      go_wp2
      all_goals
        go_ret
        refine ⟨ret_bool ?_, rfl⟩
        rw [HE.out]
        simp
        try omega

def noZero (l : List UInt8) : Bool := l.all fun c => decide (c.toNat ≠ 0)
theorem noZero_step (s : ByteArray) (k : Nat) (hk : k < s.size) (h : noZero (s.data.toList.take k) = true) (hc : ¬ (s[k].toNat : Int) = 0) : noZero (s.data.toList.take (k + 1)) = true := by
  unfold noZero at *; rw [take_snoc s k hk, List.all_append, h]; simp; omega
theorem noZero_bad (s : ByteArray) (k : Nat) (hk : k < s.size) (hc : (s[k].toNat : Int) = 0) : noZero s.data.toList = false := by
  unfold noZero
  rw [List.all_eq_false]
  exact ⟨s.data.toList[k]'(by rw [dl]; exact hk), List.getElem_mem _, by rw [show s.data.toList[k]'(by rw [dl]; exact hk) = s[k] from rfl]; simp; omega⟩
theorem noZero_end (s : ByteArray) (k : Nat) (h1 : k ≤ s.size) (h2 : ¬ k < s.size) (h : noZero (s.data.toList.take k) = true) : noZero s.data.toList = true := by
  have hk : k = s.data.toList.length := by rw [dl]; omega
  rwa [hk, List.take_length] at h

set_option maxHeartbeats 400000 in
theorem ref3_May (s : ByteArray) (w : World) (hs : s.size ≤ 4611686018427387904) :
    Calls Tryz.prog 43 #[.string s] w fun e w' => e = .returned (.bool (noZero s.data.toList && decide ((s.size : Int) ≤ 128))) ∧ w = w' := by
  go_enter Tryz.func43, Tryz.ntmps43
  go_wp2
  go_loop [3] (fun i => ∃ k : Nat, k ≤ s.size ∧ i = .int .i64 k ∧ noZero (s.data.toList.take k) = true) (fun i => s.size - (intOf i).toNat)
  case atStart => exact ⟨0, Nat.zero_le _, rfl, rfl⟩
  case round =>
    obtain ⟨k, hk, rfl, hr⟩ := hrel
    have Hr := Lib.hid hr; clear hr
    by_cases hlt : k < s.size
    · by_cases hc : (s[k].toNat : Int) = 0
      · have HE := Lib.hid (noZero_bad s k hlt hc)
        have hc' : ((s[k].toNat : Int) == 0) = true := by simp [hc]
        clear hc
        go_wp2
        go_ret
        exact ⟨ret_bool (by rw [HE.out]; rfl), rfl⟩
      · have HE := Lib.hid (noZero_step s k hlt Hr.out hc)
        have hc' : ((s[k].toNat : Int) == 0) = false := by simp only [beq_eq_false_iff_ne]; exact hc
        clear hc
        go_wp2
        go_round
        case rel => exact ⟨k + 1, by omega, by go_num, HE.out⟩
        case measure => simp [intOf]; omega
    · have HE := Lib.hid (noZero_end s k hk hlt Hr.out)
      go_wp2
      go_ret
      exact ⟨ret_bool (by rw [HE.out, Bool.true_and]), rfl⟩

set_option maxHeartbeats 400000 in
theorem ref_field (s : ByteArray) (n : Int) (w : World) (hs : s.size ≤ 4611686018427387904) (h0 : 0 ≤ n) (h1 : n ≤ 1000) :
    Calls Tryz.prog 59 #[.string s, .int .i64 n] w fun e w' => e = .returned (.string ⟨(fld s.data.toList n.toNat).toArray⟩) ∧ w = w' := by
  obtain ⟨m, rfl⟩ := Int.eq_ofNat_of_zero_le h0
  go_enter Tryz.func59, Tryz.ntmps59
  go_wp2
  go_loop [0] (fun v => ∃ k : Nat, k ≤ m - s.size ∧ v = .string ⟨(s.data.toList ++ blanks k).toArray⟩) (fun v => m - (match v with | .string x => x.size | _ => 0))
  case atStart => exact ⟨0, Nat.zero_le _, by simp [blanks]⟩
  case round =>
    obtain ⟨k, hk, rfl⟩ := hrel
    have hb1 : (blanks k).length ≤ k := by simp [blanks]
    have hb2 : k ≤ (blanks k).length := by simp [blanks]
    by_cases hlt : k < m - s.size
    · go_wp2
      rw [show (⟨#[32]⟩ : ByteArray) = ⟨[32].toArray⟩ from rfl, ba_app]
      go_round
      case rel => exact ⟨k + 1, by omega, by simp [blanks, List.replicate_succ']⟩
      case measure =>
        show m - (⟨(s.data.toList ++ blanks k ++ [32]).toArray⟩ : ByteArray).size < m - (⟨(s.data.toList ++ blanks k).toArray⟩ : ByteArray).size
        simp only [ba_size, List.length_append, dl, List.length_cons, List.length_nil]
        omega
    · go_wp2
      go_ret
      refine ⟨ret_str ?_, rfl⟩
      rw [show k = m - s.size by omega]
      simp only [fld, dl, Int.toNat_natCast]

theorem decDigits_snoc (n : Nat) (h : 10 ≤ n) : Lib.decDigits n = Lib.decDigits (n / 10) ++ [UInt8.ofNat (48 + n % 10)] := by
  rw [Lib.decDigits, dif_neg (by omega)]
theorem decDigits_one (n : Nat) (h : n < 10) : Lib.decDigits n = [UInt8.ofNat (48 + n)] := by
  rw [Lib.decDigits, dif_pos h]
theorem decDigits_le (n k : Nat) (hk : 0 < k) (h : n < 10 ^ k) : (Lib.decDigits n).length ≤ k := by
  induction k generalizing n with
  | zero => omega
  | succ k ih =>
    by_cases hn : n < 10
    · rw [decDigits_one n hn]; simp
    · rw [decDigits_snoc n (by omega)]
      have hk' : 0 < k := by
        rcases Nat.eq_zero_or_pos k with h0 | h0
        · subst h0; simp at h; omega
        · exact h0
      have := ih (n / 10) hk' (by rw [Nat.div_lt_iff_lt_mul (by omega)]; rw [Nat.pow_succ] at h; exact h)
      simp; omega

theorem itoa_nat (n : Nat) : Lib.itoa (n : Int) = Lib.decDigits n := by
  unfold Lib.itoa; rw [if_neg (by omega)]; simp

theorem Glob.below {w w' : World} (h : Glob w) (hb : Below w.heap.size w w') : Glob w' :=
  ⟨var?_keep h.pow10 hb, by obtain ⟨m, hm⟩ := h.maxLen; exact ⟨m, bel_cell hb hm⟩⟩

theorem lib_Itoa (n : Nat) (w : World) (hn : n ≤ 1000000000) (hG : Glob w) :
    Calls Tryz.prog 39 #[.int .i64 n] w fun e w' => e = .returned (.string ⟨(Lib.decDigits n).toArray⟩) ∧ Below w.heap.size w w' := by
  refine (Tryz.strconv_Itoa n (by omega) (by omega) w hG.pow10).mono ?_
  rintro e w' ⟨rfl, k, os, rfl⟩
  exact ⟨by rw [itoa_nat], bel_trans (bel_drewN w k) (bel_grow _ _)⟩

set_option maxHeartbeats 400000 in
theorem ar_head (s : ByteArray) (n : Nat) (w : World) (hs : s.size ≤ 1000000) (hn : n ≤ 1000000000) (hG : Glob w) :
    Calls Tryz.prog 41 #[.string s, .int .i64 n] w fun e w' => e = .returned (.string ⟨(hdr s.data.toList n).toArray⟩) ∧ Below w.heap.size w w' := by
  have l1 := fld_le s.data.toList 16
  rw [dl] at l1
  have l2 := fld_le [48] 12
  have l3 := fld_le [48] 6
  have l4 := fld_le [54, 52, 52] 8
  have l5 := fld_le (Lib.decDigits n) 10
  have l6 := decDigits_le n 10 (by omega) (by omega)
  simp only [List.length_cons, List.length_nil] at l2 l3 l4
  have HG := Lib.hid hG; clear hG
  go_enter Tryz.func41, Tryz.ntmps41
  go_wp2_with fail
  refine (ar_wide s 16 _ (by omega) (by omega) (by omega)).mono ?_
  rintro _ w1 ⟨rfl, hb1⟩
  have Hb1 := Lib.hid hb1; clear hb1
  go_wp2_with fail
  refine (ar_wide ⟨#[48]⟩ 12 _ (by decide) (by omega) (by omega)).mono ?_
  rintro _ w2 ⟨rfl, hb2⟩
  have Hb2 := Lib.hid hb2; clear hb2
  go_wp2_with fail
  refine (ar_wide ⟨#[48]⟩ 6 _ (by decide) (by omega) (by omega)).mono ?_
  rintro _ w3 ⟨rfl, hb3⟩
  have Hb3 := Lib.hid hb3; clear hb3
  go_wp2_with fail
  refine (ar_wide ⟨#[48]⟩ 6 _ (by decide) (by omega) (by omega)).mono ?_
  rintro _ w4 ⟨rfl, hb4⟩
  have Hb4 := Lib.hid hb4; clear hb4
  go_wp2_with fail
  refine (ar_wide ⟨#[54, 52, 52]⟩ 8 _ (by decide) (by omega) (by omega)).mono ?_
  rintro _ w5 ⟨rfl, hb5⟩
  have Hb5 := Lib.hid hb5; clear hb5
  have H5 := Lib.hid (bel_trans (bel_trans (bel_trans (bel_trans Hb1.out Hb2.out) Hb3.out) Hb4.out) Hb5.out)
  go_wp2_with fail
  refine (lib_Itoa n _ hn (HG.out.below H5.out)).mono ?_
  rintro _ w6 ⟨rfl, hb6⟩
  have Hb6 := Lib.hid hb6; clear hb6
  go_wp2_with fail
  refine (ar_wide ⟨(Lib.decDigits n).toArray⟩ 10 _ (by rw [ba_size]; omega) (by omega) (by omega)).mono ?_
  rintro _ w7 ⟨rfl, hb7⟩
  have Hb7 := Lib.hid hb7; clear hb7
  go_wp2_with fail
  go_ret
  refine ⟨ret_str ?_, bel_trans (bel_trans H5.out Hb6.out) Hb7.out⟩
  simp only [ba_app]
  rfl

end Go.Proofs.YtnpfnjkghlgooaaGreatDoor
