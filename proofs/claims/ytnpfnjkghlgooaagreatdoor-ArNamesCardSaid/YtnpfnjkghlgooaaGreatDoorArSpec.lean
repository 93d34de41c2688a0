/-
  What an archive's writing comes to, in plain Lean: names, headers, the index, the members: no program in sight.
  Conditions: none (definitions and lemmas).
-/
import Derived.Lib.ItoaNum
import Derived.Lib.IndexMore
import Derived.Lib.TrimByte
namespace Go.Proofs.YtnpfnjkghlgooaaGreatDoor
set_option linter.unusedVariables false
set_option linter.unusedSimpArgs false
open Go

structure Mem where
  name : ByteArray
  data : List UInt8
  syms : List ByteArray
  deriving Inhabited

def badCh (c : UInt8) : Bool := decide (c.toNat < 33) || decide (126 < c.toNat) || decide (c.toNat = 47)
def okName (l : List UInt8) : Bool := l.all (fun c => !badCh c) && decide (1 ≤ l.length) && decide (l.length ≤ 128)
def okSym (l : List UInt8) : Bool := decide (1 ≤ l.length) && decide (l.length ≤ 128) && l.all (fun c => decide (c.toNat ≠ 0))
def okMem (m : Mem) : Bool := okName m.name.data.toList && m.syms.all fun s => okSym s.data.toList
def faultOf (ms : List Mem) : Int :=
  if ms.all okMem then if ms.any (fun m => decide (1048576 < m.data.length)) then 6 else if 64 < ms.length then 6 else 0 else 7

def blanks (n : Nat) : List UInt8 := List.replicate n 32
def fld (s : List UInt8) (k : Nat) : List UInt8 := s ++ blanks (k - s.length)
def hdr (name : List UInt8) (size : Nat) : List UInt8 :=
  fld name 16 ++ fld [48] 12 ++ fld [48] 6 ++ fld [48] 6 ++ fld [54, 52, 52] 8 ++ fld (Lib.decDigits size) 10 ++ [96, 10]
def evenB (b : List UInt8) : List UInt8 := if b.length % 2 = 1 then b ++ [10] else b
def putRec (b name data : List UInt8) : List UInt8 := evenB b ++ hdr name data.length ++ data

def mname (long : List UInt8) (name : List UInt8) : List UInt8 := if name.length ≤ 15 then name ++ [47] else 47 :: Lib.decDigits long.length
def addLong (long : List UInt8) (name : List UInt8) : List UInt8 := if name.length ≤ 15 then long else long ++ name ++ [47, 10]
def be4 (n : Nat) : List UInt8 := [UInt8.ofNat (n / 16777216 % 256), UInt8.ofNat (n / 65536 % 256), UInt8.ofNat (n / 256 % 256), UInt8.ofNat (n % 256)]
def nsyms (ms : List Mem) : Nat := (ms.map fun m => m.syms.length).sum
def symText (s : ByteArray) : List UInt8 := s.data.toList ++ [0]
def magic : List UInt8 := [33, 60, 97, 114, 99, 104, 62, 10]

def pAt (ps : List Nat) (k : Nat) : Nat := ps.getD k 0
/-- The k-th member. -/
def mAt (ms : List Mem) (k : Nat) : Mem := ms.getD k default
/-- The long names of the first k. -/
def longTo (ms : List Mem) : Nat → List UInt8
  | 0 => []
  | k + 1 => addLong (longTo ms k) (mAt ms k).name.data.toList
def nmAt (ms : List Mem) (k : Nat) : List UInt8 := mname (longTo ms k) (mAt ms k).name.data.toList
def longAll (ms : List Mem) : List UInt8 := longTo ms ms.length
/-- The index's places of the first k members, its texts of the first k. -/
def idxTo (ms : List Mem) (ps : List Nat) : Nat → List UInt8
  | 0 => []
  | k + 1 => idxTo ms ps k ++ (List.replicate (mAt ms k).syms.length (be4 (pAt ps k))).flatten
def txtTo (ms : List Mem) : Nat → List UInt8
  | 0 => []
  | k + 1 => txtTo ms k ++ ((mAt ms k).syms.map symText).flatten
def index (ms : List Mem) (ps : List Nat) : List UInt8 := be4 (nsyms ms) ++ idxTo ms ps ms.length ++ txtTo ms ms.length
def front1 (ms : List Mem) (ps : List Nat) : List UInt8 := if 0 < nsyms ms then putRec magic [47] (index ms ps) else magic
/-- All ahead of the members. -/
def front (ms : List Mem) (ps : List Nat) : List UInt8 := if longAll ms = [] then front1 ms ps else putRec (front1 ms ps) [47, 47] (longAll ms)
/-- Behind the first k members. -/
def bodyTo (b : List UInt8) (ms : List Mem) : Nat → List UInt8
  | 0 => b
  | k + 1 => putRec (bodyTo b ms k) (nmAt ms k) (mAt ms k).data
def placeAt (b : List UInt8) (ms : List Mem) (k : Nat) : Nat := (bodyTo b ms k).length + (bodyTo b ms k).length % 2
def placesTo (b : List UInt8) (ms : List Mem) (k : Nat) : List Nat := (List.range k).map (placeAt b ms)
def write (ms : List Mem) (ps : List Nat) : List UInt8 := bodyTo (front ms ps) ms ms.length
def placesOf (ms : List Mem) (ps : List Nat) : List Nat := placesTo (front ms ps) ms ms.length
def arBytes (ms : List Mem) : List UInt8 := write ms (placesOf ms (List.replicate ms.length 0))
def arWrite (ms : List Mem) : List UInt8 × Int :=
  if faultOf ms = 0 then if 4194304 < (arBytes ms).length then ([], 6) else (arBytes ms, 0) else ([], faultOf ms)

theorem mAt_lt (ms : List Mem) (k : Nat) (h : k < ms.length) : mAt ms k = ms[k] := by
  simp [mAt, List.getD, h]

/-! ### Sizes -/
theorem fld_length (s : List UInt8) (k : Nat) : (fld s k).length = max s.length k := by
  simp [fld, blanks]; omega

/-- What may be: as far as sizes go. -/
structure Lim (ms : List Mem) : Prop where
  len : ms.length ≤ 64
  each : ∀ k, k < ms.length → (mAt ms k).name.size ≤ 128 ∧ (mAt ms k).data.length ≤ 1048576 ∧ ∀ (j : Nat) (h : j < (mAt ms k).syms.length), (mAt ms k).syms[j].size ≤ 128
  nsy : nsyms ms ≤ 1000000

theorem nsyms_succ (ms : List Mem) (k : Nat) (hk : k < ms.length) : nsyms (ms.take (k + 1)) = nsyms (ms.take k) + (mAt ms k).syms.length := by
  unfold nsyms
  rw [List.take_succ_eq_append_getElem hk, List.map_append, List.sum_append, mAt_lt ms k hk]
  simp
theorem nsyms_take_le (ms : List Mem) (k : Nat) : nsyms (ms.take k) ≤ nsyms ms := by
  unfold nsyms
  conv => rhs; rw [← List.take_append_drop k ms, List.map_append, List.sum_append]
  omega
theorem be4_length (n : Nat) : (be4 n).length = 4 := rfl
theorem rep4_length (n p : Nat) : (List.replicate n (be4 p)).flatten.length = 4 * n := by
  simp [be4_length, Nat.mul_comm]
theorem longTo_le (ms : List Mem) (h : Lim ms) : ∀ k, k ≤ ms.length → (longTo ms k).length ≤ 130 * k
  | 0, _ => by simp [longTo]
  | k + 1, hk => by
    have ih := longTo_le ms h k (by omega)
    have h1 := (h.each k (by omega)).1
    have h2 : (mAt ms k).name.data.toList.length = (mAt ms k).name.size := Array.length_toList
    simp only [longTo, addLong]
    split
    · omega
    · simp only [List.length_append, List.length_cons, List.length_nil]; omega
theorem idxTo_length (ms : List Mem) (ps : List Nat) : ∀ k, k ≤ ms.length → (idxTo ms ps k).length = 4 * nsyms (ms.take k)
  | 0, _ => by simp [idxTo, nsyms]
  | k + 1, hk => by
    rw [idxTo, List.length_append, idxTo_length ms ps k (by omega), rep4_length, nsyms_succ ms k (by omega)]
    omega
theorem symTexts_le (l : List ByteArray) (h : ∀ (j : Nat) (h : j < l.length), l[j].size ≤ 128) : (l.map symText).flatten.length ≤ 129 * l.length := by
  induction l with
  | nil => simp
  | cons x l ih =>
    have h0 := h 0 (by simp)
    have ih' := ih fun j hj => by have := h (j + 1) (by simp; omega); simpa using this
    have h2 : x.data.toList.length = x.size := Array.length_toList
    simp only [List.getElem_cons_zero] at h0
    simp only [List.map_cons, List.flatten_cons, List.length_append, symText, List.length_cons, List.length_nil]
    omega
theorem txtTo_le (ms : List Mem) (h : Lim ms) : ∀ k, k ≤ ms.length → (txtTo ms k).length ≤ 129 * nsyms (ms.take k)
  | 0, _ => by simp [txtTo, nsyms]
  | k + 1, hk => by
    have ih := txtTo_le ms h k (by omega)
    have h1 := symTexts_le _ (h.each k (by omega)).2.2
    rw [txtTo, List.length_append, nsyms_succ ms k (by omega)]
    omega
theorem index_le (ms : List Mem) (ps : List Nat) (h : Lim ms) : (index ms ps).length ≤ 4 + 133 * nsyms ms := by
  have h1 := idxTo_length ms ps ms.length (Nat.le_refl _)
  have h2 := txtTo_le ms h ms.length (Nat.le_refl _)
  rw [List.take_length] at h1 h2
  unfold index
  rw [List.length_append, List.length_append, be4_length]
  omega
theorem dig10 (n : Nat) (h : n < 10000000000) : (Lib.decDigits n).length ≤ 10 := by
  have : ∀ k n, 0 < k → n < 10 ^ k → (Lib.decDigits n).length ≤ k := by
    intro k
    induction k with
    | zero => intro n h; omega
    | succ k ih =>
      intro n _ h
      by_cases hn : n < 10
      · rw [Lib.decDigits, dif_pos hn]; simp
      · rw [Lib.decDigits, dif_neg hn]
        have hk' : 0 < k := by
          rcases Nat.eq_zero_or_pos k with h0 | h0
          · subst h0; simp at h; omega
          · exact h0
        have := ih (n / 10) hk' (by rw [Nat.div_lt_iff_lt_mul (by omega)]; rw [Nat.pow_succ] at h; exact h)
        simp; omega
  exact this 10 n (by omega) (by omega)
theorem hdr_len (n : List UInt8) (k : Nat) (hk : k < 10000000000) : (hdr n k).length = max n.length 16 + 44 := by
  have := dig10 k hk
  simp [hdr, fld_length]; omega
theorem putRec_length (b n d : List UInt8) (hd : d.length < 10000000000) : (putRec b n d).length = b.length + b.length % 2 + max n.length 16 + 44 + d.length := by
  have : (evenB b).length = b.length + b.length % 2 := by
    unfold evenB; split <;> simp <;> omega
  rw [putRec, List.length_append, List.length_append, hdr_len n _ hd, this]
  omega
theorem front1_le (ms : List Mem) (ps : List Nat) (h : Lim ms) : (front1 ms ps).length ≤ 100 + 133 * nsyms ms := by
  have := index_le ms ps h
  have := h.nsy
  unfold front1
  split
  · rw [putRec_length _ _ _ (by omega)]; simp [magic]; omega
  · simp [magic]; omega
theorem longAll_le (ms : List Mem) (h : Lim ms) : (longAll ms).length ≤ 8320 := by
  have h1 := longTo_le ms h ms.length (Nat.le_refl _)
  have := h.len
  unfold longAll; omega
theorem front_le (ms : List Mem) (ps : List Nat) (h : Lim ms) : (front ms ps).length ≤ 9000 + 133 * nsyms ms := by
  have h1 := front1_le ms ps h
  have h2 := longAll_le ms h
  unfold front
  split
  · omega
  · rw [putRec_length _ _ _ (by omega)]; simp; omega
theorem nmAt_le (ms : List Mem) (h : Lim ms) (k : Nat) (hk : k < ms.length) : (nmAt ms k).length ≤ 129 := by
  have h1 := (h.each k hk).1
  have h2 : (mAt ms k).name.data.toList.length = (mAt ms k).name.size := Array.length_toList
  have h3 := longTo_le ms h k (by omega)
  have h4 := dig10 (longTo ms k).length (by have := h.len; omega)
  unfold nmAt mname
  split
  · simp; omega
  · simp only [List.length_cons]; omega
theorem bodyTo_le (b : List UInt8) (ms : List Mem) (h : Lim ms) : ∀ k, k ≤ ms.length → (bodyTo b ms k).length ≤ b.length + 1048800 * k
  | 0, _ => by simp [bodyTo]
  | k + 1, hk => by
    have ih := bodyTo_le b ms h k (by omega)
    have h1 := (h.each k (by omega)).2.1
    have h2 := nmAt_le ms h k (by omega)
    rw [bodyTo, putRec_length _ _ _ (by omega)]
    omega

/-- The places as package ar counts them. -/
def atTo (at0 : Nat) (ms : List Mem) : Nat → Nat
  | 0 => at0
  | k + 1 => atTo at0 ms k + atTo at0 ms k % 2 + (60 + (mAt ms k).data.length)
def evAt (at0 : Nat) (ms : List Mem) (k : Nat) : Nat := atTo at0 ms k + atTo at0 ms k % 2
def plP (at0 : Nat) (ms : List Mem) : List Nat := (List.range ms.length).map (evAt at0 ms)
theorem plP_at (at0 : Nat) (ms : List Mem) (k : Nat) (hk : k < ms.length) : pAt (plP at0 ms) k = evAt at0 ms k := by
  simp [pAt, plP, List.getD, hk]
theorem atTo_le (at0 : Nat) (ms : List Mem) (h : Lim ms) : ∀ k, k ≤ ms.length → atTo at0 ms k ≤ at0 + 1048700 * k
  | 0, _ => by simp [atTo]
  | k + 1, hk => by
    have ih := atTo_le at0 ms h k (by omega)
    have h1 := (h.each k (by omega)).2.1
    rw [atTo]
    omega
theorem atTo_succ (at0 : Nat) (ms : List Mem) (k : Nat) : atTo at0 ms (k + 1) = evAt at0 ms k + (60 + (mAt ms k).data.length) := rfl

theorem dig15 (n : Nat) (h : n < 1000000) : (Lib.decDigits n).length ≤ 15 := by have := dig10 n (by omega); omega
theorem nmAt_le16 (ms : List Mem) (h : Lim ms) (k : Nat) (hk : k < ms.length) : (nmAt ms k).length ≤ 16 := by
  have h3 := longTo_le ms h k (by omega)
  have h4 := dig10 (longTo ms k).length (by have := h.len; omega)
  unfold nmAt mname
  split
  · simp only [List.length_append, List.length_cons, List.length_nil]; omega
  · simp only [List.length_cons]; omega
theorem bodyTo_atTo (b : List UInt8) (ms : List Mem) (h : Lim ms) : ∀ k, k ≤ ms.length → (bodyTo b ms k).length = atTo b.length ms k
  | 0, _ => rfl
  | k + 1, hk => by
    have ih := bodyTo_atTo b ms h k (by omega)
    have h1 := (h.each k (by omega)).2.1
    have h2 := nmAt_le16 ms h k (by omega)
    rw [bodyTo, putRec_length _ _ _ (by omega), ih, atTo]
    omega
theorem index_len (ms : List Mem) (ps qs : List Nat) : (index ms ps).length = (index ms qs).length := by
  have h1 := idxTo_length ms ps ms.length (Nat.le_refl _)
  have h2 := idxTo_length ms qs ms.length (Nat.le_refl _)
  unfold index
  simp only [List.length_append, h1, h2]
theorem front1_len (ms : List Mem) (ps qs : List Nat) (h : Lim ms) : (front1 ms ps).length = (front1 ms qs).length := by
  have h1 := index_len ms ps qs
  have h2 := index_le ms ps h
  have h3 := h.nsy
  unfold front1
  split
  · rw [putRec_length _ _ _ (by omega), putRec_length _ _ _ (by omega), h1]
  · rfl
theorem front_len (ms : List Mem) (ps qs : List Nat) (h : Lim ms) : (front ms ps).length = (front ms qs).length := by
  have h1 := front1_len ms ps qs h
  have h2 := longAll_le ms h
  unfold front
  split
  · exact h1
  · rw [putRec_length _ _ _ (by omega), putRec_length _ _ _ (by omega), h1]
theorem plP_places (ms : List Mem) (ps : List Nat) (h : Lim ms) : plP (front ms ps).length ms = placesOf ms ps := by
  unfold plP placesOf placesTo
  refine List.map_congr_left fun k hk => ?_
  have hk' : k < ms.length := by simpa using hk
  unfold evAt placeAt
  rw [bodyTo_atTo _ ms h k (by omega)]
def zeros (ms : List Mem) : List Nat := List.replicate ms.length 0
def pls (ms : List Mem) : List Nat := placesOf ms (zeros ms)
/-- The place from which package ar counts. -/
theorem front1_at (ms : List Mem) (ps : List Nat) (h : Lim ms) (hn : 0 < nsyms ms) : (front1 ms ps).length = 68 + (index ms ps).length := by
  have h2 := index_le ms ps h
  have h3 := h.nsy
  unfold front1
  rw [if_pos hn, putRec_length _ _ _ (by omega)]
  simp only [magic, List.length_cons, List.length_nil]; omega
theorem front_at0 (ms : List Mem) (ps : List Nat) (h : Lim ms) (hn : 0 < nsyms ms) (hl : longAll ms = []) : (front ms ps).length = 68 + (index ms ps).length := by
  unfold front; rw [if_pos hl]; exact front1_at ms ps h hn
theorem front_at1 (ms : List Mem) (ps : List Nat) (h : Lim ms) (hn : 0 < nsyms ms) (hl : ¬ longAll ms = []) : (front ms ps).length = (68 + (index ms ps).length) + (68 + (index ms ps).length) % 2 + 60 + (longAll ms).length := by
  have h2 := longAll_le ms h
  unfold front; rw [if_neg hl, putRec_length _ _ _ (by omega), front1_at ms ps h hn]
  simp only [List.length_cons, List.length_nil]; omega

end Go.Proofs.YtnpfnjkghlgooaaGreatDoor
