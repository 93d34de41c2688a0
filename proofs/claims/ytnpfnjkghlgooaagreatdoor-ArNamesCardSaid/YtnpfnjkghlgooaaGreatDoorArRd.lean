/-
  Pieces of slices; numbers and texts that are read from bytes: octet.field, BigU, Text; foundryref1.Num, get, BigU, Text.
  Conditions: lengths below 10^9.
-/
import Derived.Test.YtnpfnjkghlgooaaGreatDoorArSpoil
namespace Go.Proofs.YtnpfnjkghlgooaaGreatDoor
set_option linter.unusedVariables false
set_option linter.unusedSimpArgs false
open Go Go.RowKit

/-- A piece of bytes, as a slice's expression makes it. -/
theorem RdB.piece {w : World} {a : Option Addr} {n c : Nat} {l : List UInt8} (h : RdB w (.slice a n c) l) (L H : Nat) (h1 : L ≤ H) (h2 : H ≤ n) (X : Option Addr) (N C : Nat) (hX : ∀ b o, a = some ⟨b, o, none⟩ → L < H → X = some ⟨b, o + L, none⟩) (hN : N = H - L) (hC : C = c - L) :
    RdB w (.slice X N C) ((l.drop L).take (H - L)) := by
  obtain ⟨a', c', hv, h3, h4, hc⟩ := h
  cases hv
  subst hN; subst hC
  have e : ((l.drop L).take (H - L)).length = H - L := by simp; omega
  refine ⟨X, c - L, by rw [e], by omega, by omega, fun j u hj => ?_⟩
  have hjn : j < H - L := by
    have := (List.getElem?_eq_some_iff.1 hj).1
    simp at this; omega
  rw [List.map_take, List.getElem?_take, if_pos hjn, List.map_drop, List.getElem?_drop] at hj
  obtain ⟨b, o, ha, hc'⟩ := hc _ u hj
  exact ⟨b, o + L, hX b o ha (by omega), by rw [Nat.add_assoc]; exact hc'⟩
theorem RdB.len {w : World} {a : Option Addr} {n c : Nat} {l : List UInt8} (h : RdB w (.slice a n c) l) : n = l.length ∧ n ≤ c := by
  obtain ⟨a', c', hv, h3, h4, hc⟩ := h
  cases hv
  exact ⟨rfl, h3⟩

/-- Bytes as a number, the first of most worth. -/
def be (l : List UInt8) : Nat := l.foldl (fun n c => n * 256 + c.toNat) 0
def rd4 (l : List UInt8) (i : Nat) : Nat := be ((l.drop i).take 4)
def uErr (l : List UInt8) (i : Nat) : Int := if l.length < i then 5 else if l.length - i < 4 then 2 else 0
def at4 (l : List UInt8) (i : Nat) : List UInt8 := if uErr l i = 0 then (l.drop i).take 4 else []
theorem be_snoc (l : List UInt8) (c : UInt8) : be (l ++ [c]) = be l * 256 + c.toNat := by simp [be]
theorem be_lt (l : List UInt8) : be l < 256 ^ l.length := by
  suffices h : ∀ n, n < 256 ^ (l.length - l.length) ∨ True → l.foldl (fun n c => n * 256 + c.toNat) n < (n + 1) * 256 ^ l.length by
    have := h 0 (.inr trivial); simpa [be] using this
  induction l with
  | nil => intro n _; simp
  | cons c l ih =>
    intro n _
    have h2 := ih (n * 256 + c.toNat) (.inr trivial)
    have h3 := c.toNat_lt
    simp only [List.foldl_cons, List.length_cons]
    refine Nat.lt_of_lt_of_le h2 ?_
    rw [Nat.pow_succ, Nat.mul_comm (256 ^ l.length) 256, ← Nat.mul_assoc]
    exact Nat.mul_le_mul_right _ (by omega)

theorem uErr_out (l : List UInt8) (i : Nat) (h : l.length < i) : uErr l i = 5 := by unfold uErr; rw [if_pos h]
theorem uErr_short (l : List UInt8) (i : Nat) (h : ¬ l.length < i) (h2 : l.length - i < 4) : uErr l i = 2 := by unfold uErr; rw [if_neg h, if_pos h2]
theorem uErr_in (l : List UInt8) (i : Nat) (h : ¬ l.length < i) (h2 : ¬ l.length - i < 4) : uErr l i = 0 := by unfold uErr; rw [if_neg h, if_neg h2]
theorem at4_no (l : List UInt8) (i : Nat) (h : uErr l i ≠ 0) : at4 l i = [] := by unfold at4; rw [if_neg h]
theorem at4_yes (l : List UInt8) (i : Nat) (h : uErr l i = 0) : at4 l i = (l.drop i).take 4 := by unfold at4; rw [if_pos h]
theorem rdB_nil (w : World) : RdB w (.slice none 0 0) [] := ⟨none, 0, rfl, Nat.zero_le _, Nat.zero_le _, Cells.nil _ _⟩

set_option maxHeartbeats 400000 in
theorem oct_field (v : Value) (l : List UInt8) (i : Nat) (w : World) (hv : RdB w v l) (hl : l.length ≤ 1000000000) (hi : i ≤ 1000000000000) :
    Calls Tryz.prog 85 #[v, .int .i64 i, .int .i64 4] w fun e w' => (∃ v', e = .returned (.tuple #[v', .int .i64 (uErr l i)]) ∧ RdB w v' (at4 l i)) ∧ w = w' := by
  obtain ⟨a, c, rfl, hc1, hc2, hc⟩ := id hv
  clear hc hc2
  have Hv := Lib.hid hv; clear hv
  go_enter Tryz.func85, Tryz.ntmps85
  go_wp2_with fail
  refine (oct_sized 4 w).mono ?_
  rintro _ w1 ⟨rfl, rfl⟩
  rw [show sizedB 4 = true from rfl]
  by_cases h1 : l.length < i
  · have H5 := Lib.hid (uErr_out l i h1)
    go_wp2_with fail
    go_ret2
    refine ⟨⟨_, ret_pair rfl (by rw [H5.out]; rfl), ?_⟩, rfl⟩
    rw [at4_no l i (by rw [H5.out]; decide)]
    exact rdB_nil w
  · by_cases h2 : (l.length : Int) - i < 4
    · have H5 := Lib.hid (uErr_short l i h1 (by omega))
      go_wp2_with fail
      go_ret2
      refine ⟨⟨_, ret_pair rfl (by rw [H5.out]; rfl), ?_⟩, rfl⟩
      rw [at4_no l i (by rw [H5.out]; decide)]
      exact rdB_nil w
    · have H5 := Lib.hid (uErr_in l i h1 (by omega))
      have h3 : ((i : Int) + 4) ≤ l.length := by omega
      have h4 : ((i : Int) + 4) ≤ c := by omega
      clear hi h1 h2
      go_wp2_with fail
      go_ret2
      refine ⟨⟨_, ret_pair rfl (by rw [H5.out]; rfl), ?_⟩, rfl⟩
      rw [at4_yes l i H5.out]
      have := Hv.out.piece i (i + 4) (by omega) (by omega)
      rw [show i + 4 - i = 4 by omega] at this
      exact this _ _ _ (by (intro b o e he; cases e; first | rfl | (simp [Addr.add]; done) | (rw [if_neg (by omega)]; simp [Addr.add]; done) | (simp [Addr.add]; omega))) (by omega) rfl

def uVal (l : List UInt8) (i : Nat) : Int := if uErr l i = 0 then (rd4 l i : Nat) else 0
theorem uErr_len (l : List UInt8) (i : Nat) (h : uErr l i = 0) : ((l.drop i).take 4).length = 4 := by
  unfold uErr at h
  split at h
  · cases h
  · split at h
    · cases h
    · simp; omega

theorem wrap_u64 (n : Nat) (h : n < 256) : IntKind.u64.wrap ((n : Nat) : Int) = (n : Int) := by
  simp [IntKind.wrap, IntKind.bits, IntKind.signed]; omega

set_option maxHeartbeats 400000 in
theorem oct_BigU (v : Value) (l : List UInt8) (i : Int) (I : Nat) (w : World) (hv : RdB w v l) (hl : l.length ≤ 1000000000) (hi : I ≤ 1000000000000) (he : i = (I : Int)) :
    Calls Tryz.prog 63 #[v, .int .i64 i, .int .i64 4] w fun e w' => e = .returned (.tuple #[.int .u64 (uVal l I), .int .i64 (uErr l I)]) ∧ w = w' := by
  subst he
  obtain ⟨a, c, rfl, hc1, hc2, hc⟩ := id hv
  clear hc hc2
  have Hv := Lib.hid hv; clear hv
  go_enter Tryz.func63, Tryz.ntmps63
  go_wp2_with fail
  refine (oct_field _ l I _ Hv.out hl hi).mono ?_
  rintro _ w1 ⟨⟨v1, rfl, h1⟩, rfl⟩
  obtain ⟨a1, c1, rfl, _, _, _⟩ := id h1
  have hlen : (at4 l I).length ≤ 4 := by
    unfold at4
    split
    · simp; omega
    · simp
  obtain ⟨x, hx⟩ : ∃ x, x = (at4 l I) := ⟨_, rfl⟩
  rw [← hx] at h1 hlen ⊢
  have H1 := Lib.hid h1; clear h1
  have Hx := Lib.hid hx; clear hx
  have hlen' : (x.length : Int) ≤ 4 := by omega
  clear hlen
  go_wp2_with fail
  go_loop [10, 12, 22] (fun n _ i => ∃ j : Nat, j ≤ x.length ∧ i = .int .i64 j ∧ n = .int .u64 (be (x.take j) : Nat)) (fun _ _ i => x.length - (intOf i).toNat)
  case atStart => exact ⟨0, Nat.zero_le _, rfl, by simp [be]⟩
  case round =>
    obtain ⟨j, hj, rfl, rfl⟩ := hrel
    by_cases hlt : j < x.length
    · obtain ⟨b, o, rfl, hcell⟩ := H1.out.at j hlt
      have hb := be_lt (x.take j)
      have hb2 : be (x.take j) < 16777216 := by
        refine Nat.lt_of_lt_of_le hb (Nat.le_trans (Nat.pow_le_pow_right (by omega) (show _ ≤ 3 by simp; omega)) (by decide))
      have hb3 : (be (x.take j) : Int) < 16777216 := by omega
      clear hb hb2
      have hw : IntKind.u64.wrap ((x[j].toNat : Nat) : Int) = (x[j].toNat : Int) := wrap_u64 _ x[j].toNat_lt
      have ho : bits .or .u64 ((be (x.take j) : Int) * 256) (x[j].toNat : Int) = (be (x.take (j + 1)) : Nat) := by
        rw [List.take_succ_eq_append_getElem hlt, be_snoc]
        have h1 := x[j].toNat_lt
        have := bits_or_u64_nat (be (x.take j) * 256) x[j].toNat (by omega) (by omega)
        rw [Int.natCast_mul] at this
        refine this.trans ?_
        congr 1
        have h2 := Nat.two_pow_add_eq_or_of_lt (i := 8) h1 (be (x.take j))
        rw [Nat.mul_comm] at h2
        exact h2.symm
      have Ho := Lib.hid ho; clear ho
      have Hw := Lib.hid hw; clear hw
      go_wp2_with fail
      rw [Hw.out, Ho.out]
      go_round
      case rel => exact ⟨j + 1, by omega, by go_num, rfl⟩
      case measure => simp [intOf]; omega
    · go_wp2_with fail
      go_ret2
      refine ⟨ret_pair ?_ rfl, rfl⟩
      have e : x.take j = x := List.take_of_length_le (by omega)
      show Value.int .u64 (be (x.take j) : Nat) = _
      rw [e, Hx.out]
      unfold uVal
      by_cases hE : uErr l I = 0
      · rw [if_pos hE, at4_yes l I hE]; rfl
      · rw [if_neg hE, at4_no l I hE]; rfl

theorem lib_IndexByte (X : Option Addr) (n c : Nat) (l : List UInt8) (w : World) (h : RdB w (.slice X n c) l) (hX : ∃ b o, X = some ⟨b, o, none⟩) :
    Calls Tryz.prog 86 #[.slice X n c, .int .u8 0] w fun e w' => e = .returned (.int .i64 (Lib.indexByte l 0)) ∧ w = w' := by
  obtain ⟨b, o, rfl⟩ := hX
  obtain ⟨a', c', hv, h3, h4, hc⟩ := h
  cases hv
  have hb : Lib.Bytes w b o ⟨l.toArray⟩ := by
    intro i hi
    obtain ⟨b', o', e, h'⟩ := hc.byte i (by simpa [ByteArray.size] using hi)
    cases e
    exact h'
  have := Tryz.bytes_IndexByte_bytes b o c ⟨l.toArray⟩ 0 w hb
  have e : (⟨l.toArray⟩ : ByteArray).size = l.length := ba_size l
  rw [e] at this
  refine this.mono fun _ _ h => ⟨h.1, h.2.symm⟩

def tErr (l : List UInt8) (i : Nat) : Int := if l.length < i then 5 else if Lib.indexByte (l.drop i) 0 < 0 then 2 else 0
def tLen (l : List UInt8) (i : Nat) : Nat := (Lib.indexByte (l.drop i) 0).toNat
def tVal (l : List UInt8) (i : Nat) : List UInt8 := if tErr l i = 0 then (l.drop i).take (tLen l i) else []
theorem indexByte_lt (l : List UInt8) (c : UInt8) : Lib.indexByte l c < l.length := by
  have h := Lib.indexByte_ge l c
  by_cases h1 : Lib.indexByte l c = -1
  · omega
  · obtain ⟨k, hk⟩ := Int.eq_ofNat_of_zero_le (show 0 ≤ Lib.indexByte l c by omega)
    obtain ⟨h2, _⟩ := Lib.indexByte_some hk
    have := (List.getElem?_eq_some_iff.1 h2).1
    omega
theorem tErr_out (l : List UInt8) (i : Nat) (h : l.length < i) : tErr l i = 5 ∧ tVal l i = [] := by
  have : tErr l i = 5 := by unfold tErr; rw [if_pos h]
  exact ⟨this, by unfold tVal; rw [this]; rfl⟩
theorem tErr_short (l : List UInt8) (i : Nat) (h : ¬ l.length < i) (h2 : Lib.indexByte (l.drop i) 0 < 0) : tErr l i = 2 ∧ tVal l i = [] := by
  have : tErr l i = 2 := by unfold tErr; rw [if_neg h, if_pos h2]
  exact ⟨this, by unfold tVal; rw [this]; rfl⟩
theorem tErr_in (l : List UInt8) (i : Nat) (h : ¬ l.length < i) (h2 : ¬ Lib.indexByte (l.drop i) 0 < 0) : tErr l i = 0 ∧ tVal l i = (l.drop i).take (tLen l i) := by
  have : tErr l i = 0 := by unfold tErr; rw [if_neg h, if_neg h2]
  exact ⟨this, by unfold tVal; rw [this]; rfl⟩

set_option maxHeartbeats 400000 in
set_option maxRecDepth 20000 in
theorem oct_Text (v : Value) (l : List UInt8) (i : Int) (I : Nat) (w : World) (hv : RdB w v l) (hl : l.length ≤ 1000000000) (hi : I ≤ 1000000000000) (he : i = (I : Int)) (h0 : 0 < l.length) :
    Calls Tryz.prog 64 #[v, .int .i64 i] w fun e w' => e = .returned (.tuple #[.string ⟨(tVal l I).toArray⟩, .int .i64 (tErr l I)]) ∧ w = w' := by
  subst he
  obtain ⟨a, c, rfl, hc1, hc2, hc⟩ := id hv
  obtain ⟨b, o, rfl, -⟩ := hc.byte 0 h0
  clear hc hc2
  have Hv := Lib.hid hv; clear hv
  go_enter Tryz.func64, Tryz.ntmps64
  by_cases h1 : l.length < I
  · have H5 := Lib.hid (tErr_out l I h1)
    go_wp2_with fail
    go_ret2
    exact ⟨ret_pair (by rw [H5.out.2]; rfl) (by rw [H5.out.1]; rfl), rfl⟩
  · have hp := Hv.out.piece I l.length (by omega) (Nat.le_refl _)
    rw [List.take_of_length_le (by simp)] at hp
    have Hp := Lib.hid hp; clear hp
    have hx1 := indexByte_lt (l.drop I) 0
    have hx0 := Lib.indexByte_ge (l.drop I) 0
    rw [List.length_drop] at hx1
    obtain ⟨x, hx⟩ : ∃ x, x = Lib.indexByte (l.drop I) 0 := ⟨_, rfl⟩
    rw [← hx] at hx0 hx1
    have Hx := Lib.hid hx; clear hx
    by_cases hcI : c = I
    all_goals
      go_wp2_with fail
      refine (lib_IndexByte _ _ _ (l.drop I) _ (Hp.out _ _ _ (by (intro b o e he; cases e; first | rfl | (simp [Addr.add]; done) | (rw [if_neg (by omega)]; simp [Addr.add]; done) | (simp [Addr.add]; omega))) (by omega) (by omega)) ⟨_, _, rfl⟩).mono ?_
      rintro _ w1 ⟨rfl, rfl⟩
      rw [← Hx.out]
      by_cases hneg : x < 0
      · have H5 := Lib.hid (tErr_short l I h1 (by rw [← Hx.out]; exact hneg))
        go_wp2_with fail
        go_ret2
        exact ⟨ret_pair (by rw [H5.out.2]; rfl) (by rw [H5.out.1]; rfl), rfl⟩
      · have H5 := Lib.hid (tErr_in l I h1 (by rw [← Hx.out]; exact hneg))
        obtain ⟨k, rfl⟩ := Int.eq_ofNat_of_zero_le (show 0 ≤ x by omega)
        by_cases hcI' : c = I
        · exfalso; omega
        have hk : tLen l I = k := by unfold tLen; rw [← Hx.out]; rfl
        have h3 : (I : Int) + k ≤ l.length := by omega
        have h4 : (I : Int) + k ≤ c := by omega
        have hp2 := Hv.out.piece I (I + k) (by omega) (by omega)
        rw [show (l.drop I).take (I + k - I) = tVal l I by rw [H5.out.2, hk, Nat.add_sub_cancel_left]] at hp2
        have Hk := Lib.hid hk; clear hk
        have hcv := run_str (P := Tryz.prog) TB.und Tryz.underlying5 Tryz.underlying9 (hp2 (some ⟨b, o + I, none⟩) k (c - I) (by (intro b o e he; cases e; first | rfl | (simp [Addr.add]; done) | (rw [if_neg (by omega)]; simp [Addr.add]; done) | (simp [Addr.add]; omega))) (by omega) rfl)
        clear hp2
        have h5 : (0 : Int) ≤ k := by omega
        have h6 : (k : Int) ≤ 1000000000 := by omega
        have h7 : (I : Int) ≤ 1000000000 := by omega
        clear hx0 hx1 h1 hi hneg
        go_wp2_with fail
        all_goals
          go_ret2
          exact ⟨ret_pair rfl (by rw [H5.out.1]; rfl), rfl⟩

end Go.Proofs.YtnpfnjkghlgooaaGreatDoor
