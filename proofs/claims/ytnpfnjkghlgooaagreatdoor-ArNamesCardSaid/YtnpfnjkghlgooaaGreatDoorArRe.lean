/-
  What the document's answer reads from bytes: foundryref1.Num, get, BigU, Text; foundryref7.size, long.
  Conditions: lengths below 10^9.
-/
import Derived.Test.YtnpfnjkghlgooaaGreatDoorArRd
namespace Go.Proofs.YtnpfnjkghlgooaaGreatDoor
set_option linter.unusedVariables false
set_option linter.unusedSimpArgs false
open Go Go.RowKit

theorem or_byte (N : Nat) (c : UInt8) (h : N < 16777216) : bits .or .u64 ((N : Int) * 256) (c.toNat : Int) = ((N * 256 + c.toNat : Nat) : Int) := by
  have h1 := c.toNat_lt
  have := bits_or_u64_nat (N * 256) c.toNat (by omega) (by omega)
  rw [Int.natCast_mul] at this
  refine this.trans ?_
  congr 1
  have h2 := Nat.two_pow_add_eq_or_of_lt (i := 8) h1 N
  rw [Nat.mul_comm] at h2
  exact h2.symm
theorem be_small (l : List UInt8) (h : l.length ≤ 3) : be l < 16777216 :=
  Nat.lt_of_lt_of_le (be_lt l) (Nat.le_trans (Nat.pow_le_pow_right (by omega) h) (by decide))

set_option maxHeartbeats 400000 in
theorem ref1_Num (v : Value) (l : List UInt8) (w : World) (hv : RdB w v l) (hl : l.length ≤ 4) :
    Calls Tryz.prog 92 #[v] w fun e w' => e = .returned (.int .u64 (be l.reverse : Nat)) ∧ w = w' := by
  obtain ⟨a, c, rfl, hc1, hc2, hc⟩ := id hv
  clear hc hc2
  have Hv := Lib.hid hv; clear hv
  have hl' : (l.length : Int) ≤ 4 := by omega
  go_enter Tryz.func92, Tryz.ntmps92
  go_wp2_with fail
  go_loop [3, 4] (fun n i => ∃ j : Nat, j ≤ l.length ∧ i = .int .i64 ((j : Int) - 1) ∧ n = .int .u64 (be (l.drop j).reverse : Nat)) (fun _ i => (intOf i + 1).toNat)
  case atStart => exact ⟨l.length, Nat.le_refl _, rfl, by simp [be]⟩
  case round =>
    obtain ⟨j, hj, rfl, rfl⟩ := hrel
    rcases Nat.eq_zero_or_pos j with h0 | h0
    · subst h0
      go_wp2_with fail
      go_ret
      exact ⟨rfl, by trivial⟩
    · obtain ⟨k, rfl⟩ : ∃ k, j = k + 1 := ⟨j - 1, by omega⟩
      rw [show ((k + 1 : Nat) : Int) - 1 = (k : Int) by omega]
      obtain ⟨b, o, rfl, hcell⟩ := Hv.out.at k (by omega)
      have hs := be_small (l.drop (k + 1)).reverse (by simp; omega)
      have Hw := Lib.hid (wrap_u64 _ (l[k]'(by omega)).toNat_lt)
      have Ho := Lib.hid (or_byte _ (l[k]'(by omega)) hs)
      have hb3 : (be (l.drop (k + 1)).reverse : Int) < 16777216 := by omega
      clear hs
      go_wp2_with fail
      rw [Hw.out, Ho.out]
      go_round
      case rel =>
        refine ⟨k, by omega, rfl, ?_⟩
        rw [List.drop_eq_getElem_cons (show k < l.length by omega), List.reverse_cons, be_snoc]
      case measure => simp [intOf]

set_option maxHeartbeats 400000 in
set_option maxRecDepth 20000 in
theorem ref1_get (v : Value) (l : List UInt8) (i : Nat) (w : World) (hv : RdB w v l) (hl : l.length ≤ 1000000000) (hi : i ≤ 1000000000000) :
    Calls Tryz.prog 68 #[v, .int .i64 i, .int .i64 4, .bool true] w fun e w' => e = .returned (.tuple #[.int .u64 (uVal l i), .int .i64 (uErr l i)]) ∧ Below w.heap.size w w' := by
  obtain ⟨a, c, rfl, hc1, hc2, hc⟩ := id hv
  clear hc hc2
  have Hv := Lib.hid hv; clear hv
  go_enter Tryz.func68, Tryz.ntmps68
  go_wp2_with fail
  refine (ref1_sized 4 w).mono ?_
  rintro _ w1 ⟨rfl, rfl⟩
  rw [show sizedB 4 = true from rfl]
  by_cases h1 : l.length < i
  · have H5 := Lib.hid (uErr_out l i h1)
    go_wp2_with fail
    go_ret2
    exact ⟨ret_pair (by unfold uVal; rw [H5.out]; rfl) (by rw [H5.out]; rfl), Below.refl _ _⟩
  · by_cases h2 : (l.length : Int) - i < 4
    · have H5 := Lib.hid (uErr_short l i h1 (by omega))
      go_wp2_with fail
      go_ret2
      exact ⟨ret_pair (by unfold uVal; rw [H5.out]; rfl) (by rw [H5.out]; rfl), Below.refl _ _⟩
    · have H5 := Lib.hid (uErr_in l i h1 (by omega))
      have h3 : ((i : Int) + 4) ≤ l.length := by omega
      have h4 : ((i : Int) + 4) ≤ c := by omega
      clear hi h1 h2
      have hp := Hv.out.piece i (i + 4) (by omega) (by omega)
      rw [show i + 4 - i = 4 by omega] at hp
      have Hp := Lib.hid hp; clear hp
      go_wp2_with fail
      refine (ref1_turned _ ((l.drop i).take 4) _ (Hp.out _ _ _ (by (intro b o e he; cases e; first | rfl | (simp [Addr.add]; done) | (rw [if_neg (by omega)]; simp [Addr.add]; done) | (simp [Addr.add]; omega))) (by omega) rfl) (by simp; omega)).mono ?_
      rintro _ w2 ⟨v2, rfl, h2, hb2⟩
      have e4 : ((l.drop i).take 4).length = 4 := uErr_len l i H5.out
      have hr := Own.rdB (h2.cast (m := ((l.drop i).take 4).reverse.length) (by simp) rfl)
      have Hr := Lib.hid hr; clear hr h2
      have Hb2 := Lib.hid hb2; clear hb2
      go_wp2_with fail
      refine (ref1_Num _ _ _ Hr.out (by rw [List.length_reverse]; omega)).mono ?_
      rintro _ w3 ⟨rfl, rfl⟩
      rw [List.reverse_reverse]
      clear e4
      go_wp2_with fail
      go_ret2
      refine ⟨ret_pair ?_ (by rw [H5.out]; rfl), Hb2.out⟩
      unfold uVal; rw [if_pos H5.out]; rfl

theorem ref1_BigU (v : Value) (l : List UInt8) (i : Int) (I : Nat) (w : World) (hv : RdB w v l) (hl : l.length ≤ 1000000000) (hi : I ≤ 1000000000000) (he : i = (I : Int)) :
    Calls Tryz.prog 50 #[v, .int .i64 i, .int .i64 4] w fun e w' => e = .returned (.tuple #[.int .u64 (uVal l I), .int .i64 (uErr l I)]) ∧ Below w.heap.size w w' := by
  subst he
  have Hv := Lib.hid hv; clear hv
  go_enter Tryz.func50, Tryz.ntmps50
  go_wp2_with fail
  refine (ref1_get v l I w Hv.out hl hi).mono ?_
  rintro _ w1 ⟨rfl, hb1⟩
  have Hb1 := Lib.hid hb1; clear hb1
  go_wp2_with fail
  go_ret2
  exact ⟨rfl, Hb1.out⟩

theorem idx_zero (l : List UInt8) (i k : Nat) (hk : i + k < l.length) (h1 : ∀ j, j < k → l[i + j]? ≠ some 0) (h2 : l[i + k]? = some 0) : Lib.indexByte (l.drop i) 0 = k := by
  have h := Lib.indexByte_ge (l.drop i) 0
  by_cases hn : Lib.indexByte (l.drop i) 0 = -1
  · exact (Lib.indexByte_none hn k (by rw [List.getElem?_drop]; exact h2)).elim
  · obtain ⟨o, ho⟩ := Int.eq_ofNat_of_zero_le (show 0 ≤ Lib.indexByte (l.drop i) 0 by omega)
    obtain ⟨h3, h4⟩ := Lib.indexByte_some ho
    rw [List.getElem?_drop] at h3
    rw [ho]
    rcases Nat.lt_trichotomy o k with h5 | h5 | h5
    · exact (h1 o h5 h3).elim
    · rw [h5]
    · exact (h4 k h5 (by rw [List.getElem?_drop]; exact h2)).elim
theorem idx_nozero (l : List UInt8) (i : Nat) (h1 : ∀ j, i + j < l.length → l[i + j]? ≠ some 0) : Lib.indexByte (l.drop i) 0 < 0 := by
  have h := Lib.indexByte_ge (l.drop i) 0
  by_cases hn : Lib.indexByte (l.drop i) 0 = -1
  · omega
  · obtain ⟨o, ho⟩ := Int.eq_ofNat_of_zero_le (show 0 ≤ Lib.indexByte (l.drop i) 0 by omega)
    obtain ⟨h3, h4⟩ := Lib.indexByte_some ho
    rw [List.getElem?_drop] at h3
    exact (h1 o (List.getElem?_eq_some_iff.1 h3).1 h3).elim
/-- No zero among the first k from i on. -/
def noZ (l : List UInt8) (i k : Nat) : Prop := ∀ j, j < k → l[i + j]? ≠ some 0

set_option maxHeartbeats 400000 in
set_option maxRecDepth 20000 in
theorem ref1_Text (v : Value) (l : List UInt8) (i : Int) (I : Nat) (w : World) (hv : RdB w v l) (hl : l.length ≤ 1000000000) (hi : I ≤ 1000000000000) (he : i = (I : Int)) :
    Calls Tryz.prog 51 #[v, .int .i64 i] w fun e w' => e = .returned (.tuple #[.string ⟨(tVal l I).toArray⟩, .int .i64 (tErr l I)]) ∧ w = w' := by
  subst he
  obtain ⟨a, c, rfl, hc1, hc2, hc⟩ := id hv
  clear hc hc2
  have Hv := Lib.hid hv; clear hv
  go_enter Tryz.func51, Tryz.ntmps51
  by_cases h1 : l.length < I
  · have H5 := Lib.hid (tErr_out l I h1)
    go_wp2_with fail
    go_ret2
    exact ⟨ret_pair (by rw [H5.out.2]; rfl) (by rw [H5.out.1]; rfl), rfl⟩
  · have h1' : (I : Int) ≤ l.length := by omega
    have hl' : (l.length : Int) ≤ 1000000000 := by omega
    go_wp2_with fail
    go_loop [6] (fun k => ∃ j : Nat, I + j ≤ l.length ∧ k = .int .i64 ((I + j : Nat) : Int) ∧ noZ l I j) (fun k => l.length - (intOf k).toNat)
    case atStart => exact ⟨0, by omega, rfl, fun j h => by omega⟩
    case round =>
      obtain ⟨j, hj, rfl, hnz⟩ := hrel
      have Hnz := Lib.hid hnz; clear hnz
      obtain ⟨p, hp⟩ : ∃ p, p = I + j := ⟨_, rfl⟩
      rw [← hp] at hj ⊢
      have Hpp := Lib.hid hp; clear hp
      by_cases hlt : p < l.length
      · obtain ⟨b, o, rfl, hcell⟩ := Hv.out.at p hlt
        by_cases hz : (l[p].toNat : Int) = 0
        · have hix : Lib.indexByte (l.drop I) 0 = j := idx_zero l I j (by rw [← Hpp.out]; exact hlt) Hnz.out (by rw [← Hpp.out, List.getElem?_eq_getElem hlt]; congr 1; exact UInt8.toNat_inj.1 (by simpa using hz))
          have H5 := Lib.hid (tErr_in l I h1 (by omega))
          have hk : tLen l I = j := by unfold tLen; rw [hix]; rfl
          have hpj : p - I = j := by have := Hpp.out; omega
          have hIp : (I : Int) ≤ p := by have := Hpp.out; omega
          have hpc : (p : Int) ≤ c := by omega
          have hne : ¬ c = I := by have := Hpp.out; omega
          have hp2 := Hv.out.piece I p (by have := Hpp.out; omega) (by omega)
          rw [show (l.drop I).take (p - I) = tVal l I by rw [H5.out.2, hk, hpj]] at hp2
          have hcv := run_str (P := Tryz.prog) TB.und Tryz.underlying5 Tryz.underlying9 (hp2 (some ⟨b, o + I, none⟩) (p - I) (c - I) (by (intro b o e he; cases e; first | rfl | (simp [Addr.add]; done) | (rw [if_neg (by omega)]; simp [Addr.add]; done) | (simp [Addr.add]; omega))) rfl rfl)
          have Hix := Lib.hid hix; clear hix
          clear hp2 hk hpj hi h1
          go_wp2_with fail
          go_ret2
          exact ⟨ret_pair rfl (by rw [H5.out.1]; rfl), rfl⟩
        · have hs : noZ l I (j + 1) := by
            intro k hk h
            rcases Nat.lt_or_ge k j with h2 | h2
            · exact Hnz.out k h2 h
            · have : k = j := by omega
              subst this
              have e := Hpp.out
              rw [← e, List.getElem?_eq_getElem hlt] at h
              have := Option.some.inj h
              rw [this] at hz
              exact hz rfl
          have Hs := Lib.hid hs; clear hs
          go_wp2_with fail
          go_round
          case rel => exact ⟨j + 1, by have := Hpp.out; omega, by have := Hpp.out; congr 1; omega, Hs.out⟩
          case measure => simp [intOf]; omega
      · have hix : Lib.indexByte (l.drop I) 0 < 0 := idx_nozero l I fun k hk => Hnz.out k (by have := Hpp.out; omega)
        have H5 := Lib.hid (tErr_short l I h1 hix)
        clear hix
        go_wp2_with fail
        go_ret2
        exact ⟨ret_pair (by rw [H5.out.2]; rfl) (by rw [H5.out.1]; rfl), rfl⟩

end Go.Proofs.YtnpfnjkghlgooaaGreatDoor
