/-
  An archive as a row of records, in plain Lean: where they begin, what their headers hold.
  Conditions: none (definitions and lemmas).
-/
import Derived.Test.YtnpfnjkghlgooaaGreatDoorArEnt
namespace Go.Proofs.YtnpfnjkghlgooaaGreatDoor
set_option linter.unusedVariables false
set_option linter.unusedSimpArgs false
open Go Go.RowKit

structure Rec where
  name : List UInt8
  pos : Nat
  data : List UInt8
  deriving Inhabited

abbrev RawR := List (List UInt8 × List UInt8)
def rawAt (R : RawR) (k : Nat) : List UInt8 × List UInt8 := R.getD k ([], [])
def fileTo (R : RawR) : Nat → List UInt8
  | 0 => magic
  | k + 1 => putRec (fileTo R k) (rawAt R k).1 (rawAt R k).2
def fileOf (R : RawR) : List UInt8 := fileTo R R.length
structure OkR (R : RawR) : Prop where
  each : ∀ k, k < R.length → (rawAt R k).1.length ≤ 16 ∧ (∀ c, (rawAt R k).1.getLast? = some c → c ≠ 32) ∧ (rawAt R k).2.length ≤ 5000000
def posOf (R : RawR) (k : Nat) : Nat := (fileTo R k).length + (fileTo R k).length % 2
def recOf (R : RawR) (k : Nat) : Rec := ⟨(rawAt R k).1, posOf R k, (rawAt R k).2⟩
def recsTo (R : RawR) (k : Nat) : List Rec := (List.range k).map (recOf R)

theorem recsTo_succ (R : RawR) (k : Nat) : recsTo R (k + 1) = recsTo R k ++ [recOf R k] := by simp [recsTo, List.range_succ]
theorem fileTo_len (R : RawR) (h : OkR R) (k : Nat) (hk : k < R.length) : (fileTo R (k + 1)).length = posOf R k + 60 + (rawAt R k).2.length := by
  obtain ⟨h1, h2, h3⟩ := h.each k hk
  rw [fileTo, putRec_length _ _ _ (by omega)]
  unfold posOf
  omega
theorem evenB_len (b : List UInt8) : (evenB b).length = b.length + b.length % 2 := by
  unfold evenB; split <;> simp <;> omega
theorem fileTo_step (R : RawR) (k : Nat) : ∃ r, fileTo R (k + 1) = fileTo R k ++ r := by
  rw [fileTo, putRec]
  unfold evenB
  split
  · exact ⟨[10] ++ hdr (rawAt R k).1 (rawAt R k).2.length ++ (rawAt R k).2, by simp⟩
  · exact ⟨hdr (rawAt R k).1 (rawAt R k).2.length ++ (rawAt R k).2, by simp⟩
theorem fileTo_pre (R : RawR) (k : Nat) : ∀ m, k ≤ m → ∃ r, fileTo R m = fileTo R k ++ r
  | 0, h => ⟨[], by rw [show k = 0 by omega]; simp⟩
  | m + 1, h => by
    rcases Nat.lt_or_ge m k with h1 | h1
    · exact ⟨[], by rw [show k = m + 1 by omega]; simp⟩
    · obtain ⟨r, hr⟩ := fileTo_pre R k m h1
      obtain ⟨r2, hr2⟩ := fileTo_step R m
      exact ⟨r ++ r2, by rw [hr2, hr, List.append_assoc]⟩
theorem hdr_len60 (n : List UInt8) (d : Nat) (hn : n.length ≤ 16) (hd : d < 10000000000) : (hdr n d).length = 60 := by
  rw [hdr_len n d hd]; omega
/-- The pieces of a record, in the file. -/
theorem file_piece (R : RawR) (h : OkR R) (k : Nat) (hk : k < R.length) : ∃ pre post, fileOf R = pre ++ (hdr (rawAt R k).1 (rawAt R k).2.length ++ ((rawAt R k).2 ++ post)) ∧ pre.length = posOf R k := by
  obtain ⟨r, hr⟩ := fileTo_pre R (k + 1) R.length (by omega)
  refine ⟨evenB (fileTo R k), r, ?_, ?_⟩
  · unfold fileOf
    rw [hr, fileTo, putRec]
    simp
  · rw [evenB_len]; rfl
theorem file_hdr (R : RawR) (h : OkR R) (k : Nat) (hk : k < R.length) : ((fileOf R).drop (posOf R k)).take 60 = hdr (rawAt R k).1 (rawAt R k).2.length := by
  obtain ⟨pre, post, e, hp⟩ := file_piece R h k hk
  obtain ⟨h1, h2, h3⟩ := h.each k hk
  rw [e, ← hp, List.drop_left, ← hdr_len60 (rawAt R k).1 (rawAt R k).2.length h1 (by omega), List.take_left]
theorem file_data (R : RawR) (h : OkR R) (k : Nat) (hk : k < R.length) : ((fileOf R).drop (posOf R k + 60)).take (rawAt R k).2.length = (rawAt R k).2 := by
  obtain ⟨pre, post, e, hp⟩ := file_piece R h k hk
  obtain ⟨h1, h2, h3⟩ := h.each k hk
  rw [e, ← hp, ← List.drop_drop, List.drop_left, ← hdr_len60 (rawAt R k).1 (rawAt R k).2.length h1 (by omega), List.drop_left, List.take_left]
theorem file_mono (R : RawR) (k m : Nat) (h : k ≤ m) : (fileTo R k).length ≤ (fileTo R m).length := by
  obtain ⟨r, hr⟩ := fileTo_pre R k m h
  rw [hr]; simp
theorem file_room (R : RawR) (h : OkR R) (k : Nat) (hk : k < R.length) : posOf R k + 60 + (rawAt R k).2.length ≤ (fileOf R).length := by
  rw [← fileTo_len R h k hk]
  exact file_mono R _ _ (by omega)
theorem hdr_name (n : List UInt8) (d : Nat) (hn : n.length ≤ 16) : (hdr n d).take 16 = fld n 16 := by
  unfold hdr
  have e : (fld n 16).length = 16 := by rw [fld_length]; omega
  simp only [List.append_assoc]
  exact List.take_left' e
theorem hdr_size (n : List UInt8) (d : Nat) (hn : n.length ≤ 16) (hd : d < 10000000000) : ((hdr n d).drop 48).take 10 = fld (Lib.decDigits d) 10 := by
  have e : (fld n 16 ++ fld [48] 12 ++ fld [48] 6 ++ fld [48] 6 ++ fld [54, 52, 52] 8).length = 48 := by
    simp only [List.length_append, fld_length, List.length_cons, List.length_nil]; omega
  have e2 : (fld (Lib.decDigits d) 10).length = 10 := by
    have := dig10 d hd
    rw [fld_length]; omega
  have : hdr n d = (fld n 16 ++ fld [48] 12 ++ fld [48] 6 ++ fld [48] 6 ++ fld [54, 52, 52] 8) ++ (fld (Lib.decDigits d) 10 ++ [96, 10]) := by
    unfold hdr; simp
  rw [this, List.drop_left' e]
  exact List.take_left' e2
theorem trim_fld (s : List UInt8) (k : Nat) (h : ∀ c, s.getLast? = some c → c ≠ 32) : Lib.trimRightB (fld s k) 32 = s := by
  unfold Lib.trimRightB fld blanks
  rw [List.reverse_append, List.reverse_replicate]
  have : ∀ n : Nat, (List.replicate n (32 : UInt8) ++ s.reverse).dropWhile (· == 32) = s.reverse.dropWhile (· == 32) := by
    intro n
    induction n with
    | zero => rfl
    | succ n ih => simp [List.replicate_succ, ih]
  rw [this]
  have h2 : s.reverse.dropWhile (· == 32) = s.reverse := by
    cases hs : s.reverse with
    | nil => rfl
    | cons c r =>
      have h3 := h c (by rw [← List.head?_reverse, hs]; rfl)
      simp [h3]
  rw [h2, List.reverse_reverse]
theorem dec_last (d : Nat) : ∀ c, (Lib.decDigits d).getLast? = some c → c ≠ 32 := fun c hc e => by
  have := dec_digs d c (List.mem_of_getLast? hc)
  subst e
  simp [isDig] at this

end Go.Proofs.YtnpfnjkghlgooaaGreatDoor
