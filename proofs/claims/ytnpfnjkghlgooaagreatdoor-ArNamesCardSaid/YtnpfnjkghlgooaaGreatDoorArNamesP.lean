/-
  Two members with names of one letter each, in plain Lean: where their headers stand, what they hold.
  Conditions: none (lemmas).
-/
import Derived.Test.YtnpfnjkghlgooaaGreatDoorArLaw1
namespace Go.Proofs.YtnpfnjkghlgooaaGreatDoor
set_option linter.unusedVariables false
set_option linter.unusedSimpArgs false
open Go Go.RowKit

def nmA (n : Nat) : List UInt8 := List.replicate n 97
def nmB (n : Nat) : List UInt8 := List.replicate n 98
def msN (n m : Nat) (d : List UInt8) : List Mem := [⟨⟨(nmA n).toArray⟩, d, []⟩, ⟨⟨(nmB m).toArray⟩, d, []⟩]
def lgA (n : Nat) : List UInt8 := if n ≤ 15 then [] else nmA n ++ [47, 10]
def lgN (n m : Nat) : List UInt8 := if m ≤ 15 then lgA n else lgA n ++ nmB m ++ [47, 10]
def atN (n m : Nat) : Nat := if lgN n m = [] then 8 else 68 + (lgN n m).length + (lgN n m).length % 2
def nxN (n m : Nat) (d : List UInt8) : Nat := atN n m + 60 + d.length + d.length % 2
def hnA (n : Nat) : List UInt8 := if n ≤ 15 then nmA n ++ [47] else 47 :: Lib.decDigits 0
def hnB (n m : Nat) : List UInt8 := if m ≤ 15 then nmB m ++ [47] else 47 :: Lib.decDigits (lgA n).length

theorem okName_rep (c : UInt8) (hc : badCh c = false) (n : Nat) (h1 : 1 ≤ n) (h2 : n ≤ 128) : okName (List.replicate n c) = true := by
  unfold okName
  rw [Bool.and_eq_true, Bool.and_eq_true, decide_eq_true_eq, decide_eq_true_eq, List.length_replicate]
  refine ⟨⟨?_, h1⟩, h2⟩
  rw [List.all_eq_true]
  intro x hx
  rw [List.eq_of_mem_replicate hx, hc]; rfl
theorem msN_fault (n m : Nat) (d : List UInt8) (h1 : 1 ≤ n) (h2 : n ≤ 128) (h3 : 1 ≤ m) (h4 : m ≤ 128) (h5 : d.length ≤ 300) : faultOf (msN n m d) = 0 := by
  have e1 : okMem ⟨⟨(nmA n).toArray⟩, d, []⟩ = true := by
    unfold okMem
    have := okName_rep 97 (by decide) n h1 h2
    rw [show (⟨(nmA n).toArray⟩ : ByteArray).data.toList = List.replicate n 97 from rfl, this]; rfl
  have e2 : okMem ⟨⟨(nmB m).toArray⟩, d, []⟩ = true := by
    unfold okMem
    have := okName_rep 98 (by decide) m h3 h4
    rw [show (⟨(nmB m).toArray⟩ : ByteArray).data.toList = List.replicate m 98 from rfl, this]; rfl
  unfold faultOf msN
  have e3 : decide (1048576 < d.length) = false := decide_eq_false (by omega)
  simp [e1, e2]
  omega
theorem msN_weight (n m : Nat) (d : List UInt8) (h5 : d.length ≤ 300) : weight (msN n m d) ≤ 16384 := by
  simp [weight, msN]; omega
theorem msN_nsyms (n m : Nat) (d : List UInt8) : nsyms (msN n m d) = 0 := by simp [nsyms, msN]
theorem msN_lim (n m : Nat) (d : List UInt8) (h1 : 1 ≤ n) (h2 : n ≤ 128) (h3 : 1 ≤ m) (h4 : m ≤ 128) (h5 : d.length ≤ 300) : Lim (msN n m d) :=
  lim_of (msN_fault n m d h1 h2 h3 h4 h5) (light_nsy (msN_weight n m d h5))
theorem msN_fit (n m : Nat) (d : List UInt8) (h1 : n ≤ 128) (h2 : m ≤ 128) (h5 : d.length ≤ 300) : Fit (msN n m d) := by
  refine ⟨by simp [msN], fun i hi => ?_⟩
  have : i = 0 ∨ i = 1 := by simp [msN] at hi; omega
  rcases this with rfl | rfl
  · refine ⟨?_, ?_, ?_, fun j hj => ?_⟩
    · show (⟨(nmA n).toArray⟩ : ByteArray).size ≤ _
      rw [ba_size]; simp [nmA]; omega
    · show d.length ≤ _; omega
    · show (0 : Nat) ≤ _; omega
    · simp [msN] at hj
  · refine ⟨?_, ?_, ?_, fun j hj => ?_⟩
    · show (⟨(nmB m).toArray⟩ : ByteArray).size ≤ _
      rw [ba_size]; simp [nmB]; omega
    · show d.length ≤ _; omega
    · show (0 : Nat) ≤ _; omega
    · simp [msN] at hj
theorem msN_long1 (n m : Nat) (d : List UInt8) : longTo (msN n m d) 1 = lgA n := by
  show addLong [] (nmA n) = lgA n
  unfold addLong lgA
  rw [show (nmA n).length = n by simp [nmA]]
  rfl
theorem msN_long (n m : Nat) (d : List UInt8) : longAll (msN n m d) = lgN n m := by
  show addLong (longTo (msN n m d) 1) (nmB m) = lgN n m
  rw [msN_long1]
  unfold addLong lgN
  rw [show (nmB m).length = m by simp [nmB]]
theorem msN_nm0 (n m : Nat) (d : List UInt8) : nmAt (msN n m d) 0 = hnA n := by
  show mname [] (nmA n) = hnA n
  unfold mname hnA
  rw [show (nmA n).length = n by simp [nmA]]
  rfl
theorem msN_nm1 (n m : Nat) (d : List UInt8) : nmAt (msN n m d) 1 = hnB n m := by
  show mname (longTo (msN n m d) 1) (nmB m) = hnB n m
  rw [msN_long1]
  unfold mname hnB
  rw [show (nmB m).length = m by simp [nmB]]

/-- What stands where. -/
structure Facts (n m : Nat) (d x : List UInt8) : Prop where
  len : x.length = nxN n m d + 60 + d.length
  h0 : (x.drop (atN n m)).take 60 = hdr (hnA n) d.length
  h1 : (x.drop (nxN n m d)).take 60 = hdr (hnB n m) d.length
  lg : lgN n m ≠ [] → (x.drop 8).take 2 = [47, 47] ∧ (x.drop 68).take (lgN n m).length = lgN n m ∧ 68 + (lgN n m).length ≤ x.length
theorem msN_facts (n m : Nat) (d : List UInt8) (h1 : 1 ≤ n) (h2 : n ≤ 128) (h3 : 1 ≤ m) (h4 : m ≤ 128) (h5 : d.length ≤ 300) : Facts n m d (arBytes (msN n m d)) := by
  have hf := msN_fault n m d h1 h2 h3 h4 h5
  have hl := msN_lim n m d h1 h2 h3 h4 h5
  have hlen := light_len hl (msN_weight n m d h5)
  have his : Is (msN n m d) (arBytes (msN n m d)) := ⟨hf, rfl⟩
  obtain ⟨hok, hfile⟩ := is_ok his (by omega)
  have hlong := msN_long n m d
  have hns := msN_nsyms n m d
  have hH : headR (msN n m d) = if lgN n m = [] then [] else [([47, 47], lgN n m)] := by
    unfold headR
    rw [if_neg (by omega), hlong, List.nil_append]
  have hpos : posOf (rawsOf (msN n m d)) (headR (msN n m d)).length = atN n m := by
    unfold posOf
    rw [rawsOf, fileTo_app _ _ _ (Nat.le_refl _)]
    have e : (fileTo (headR (msN n m d)) (headR (msN n m d)).length).length = (front (msN n m d) (pls (msN n m d))).length := by
      have := head_file (msN n m d)
      unfold fileOf at this
      rw [this]
    rw [e]
    unfold front front1 atN
    rw [hlong, if_neg (show ¬ 0 < nsyms (msN n m d) by omega)]
    have hle := longAll_le _ hl
    rw [hlong] at hle
    by_cases hc : lgN n m = []
    · rw [if_pos hc, if_pos hc]; rfl
    · rw [if_neg hc, if_neg hc, putRec_length _ _ _ (by omega)]
      simp only [magic, List.length_cons, List.length_nil]
      omega
  have hR := rawsOf_len (msN n m d)
  have hR2 : (rawsOf (msN n m d)).length = (headR (msN n m d)).length + 2 := hR
  have r0 : rawAt (rawsOf (msN n m d)) ((headR (msN n m d)).length) = (hnA n, d) := by
    have := rawAt_mem (msN n m d) 0 (by show 0 < 2; omega)
    rw [msN_nm0] at this
    exact this
  have r1 : rawAt (rawsOf (msN n m d)) ((headR (msN n m d)).length + 1) = (hnB n m, d) := by
    have := rawAt_mem (msN n m d) 1 (by show 1 < 2; omega)
    rw [msN_nm1] at this
    exact this
  have l0 := fileTo_len _ hok (headR (msN n m d)).length (by omega)
  have l1 := fileTo_len _ hok ((headR (msN n m d)).length + 1) (by omega)
  rw [r0, hpos] at l0
  have l0 : (fileTo (rawsOf (msN n m d)) ((headR (msN n m d)).length + 1)).length = atN n m + 60 + d.length := l0
  have hev : atN n m % 2 = 0 := by
    unfold atN
    split <;> omega
  have hnx : posOf (rawsOf (msN n m d)) ((headR (msN n m d)).length + 1) = nxN n m d := by
    unfold posOf nxN
    rw [l0]
    omega
  rw [r1, hnx] at l1
  have q0 := file_hdr _ hok (headR (msN n m d)).length (by omega)
  have q1 := file_hdr _ hok ((headR (msN n m d)).length + 1) (by omega)
  rw [r0, hpos, ← hfile] at q0
  rw [r1, hnx, ← hfile] at q1
  refine ⟨?_, q0, q1, fun hc => ?_⟩
  · have e : arBytes (msN n m d) = fileTo (rawsOf (msN n m d)) ((headR (msN n m d)).length + 1 + 1) := by
      conv => lhs; rw [hfile]
      unfold fileOf
      rw [hR2]
    rw [e, l1]
  · rw [if_neg hc] at hH
    have hl1 : (headR (msN n m d)).length = 1 := by rw [hH]; rfl
    have r9 : rawAt (rawsOf (msN n m d)) 0 = ([47, 47], lgN n m) := by
      unfold rawsOf
      rw [rawAt_app_left _ _ _ (by rw [hl1]; omega), hH]; rfl
    have q2 := file_hdr _ hok 0 (by omega)
    have q3 := file_data _ hok 0 (by omega)
    have q4 := file_room _ hok 0 (by omega)
    have hp0 : posOf (rawsOf (msN n m d)) 0 = 8 := by unfold posOf fileTo; rfl
    rw [r9, hp0, ← hfile] at q2 q3 q4
    refine ⟨?_, q3, q4⟩
    have q5 := congrArg (List.take 2) q2
    rw [List.take_take] at q5
    rw [show min 2 60 = 2 from rfl] at q5
    rw [q5]
    rfl

/-! ### A header, byte for byte -/
theorem hdr_end (nm : List UInt8) (k : Nat) (hn : nm.length ≤ 16) (hk : k < 10000000000) : ∃ y, hdr nm k = y ++ [96, 10] ∧ y.length = 58 := by
  have h := hdr_len60 nm k hn hk
  refine ⟨fld nm 16 ++ fld [48] 12 ++ fld [48] 6 ++ fld [48] 6 ++ fld [54, 52, 52] 8 ++ fld (Lib.decDigits k) 10, rfl, ?_⟩
  unfold hdr at h
  simp only [List.length_append, List.length_cons, List.length_nil] at h ⊢
  omega
/-- What the walk of 'head' asks of a header. -/
structure HdAt (x : List UInt8) (at0 : Nat) (want : List UInt8) : Prop where
  wl : want.length ≤ 16
  room : at0 + 60 ≤ x.length
  beg : (x.drop at0).take want.length = want
  b58 : ∀ (h : at0 + 58 < x.length), x[at0 + 58] = 96
  b59 : ∀ (h : at0 + 59 < x.length), x[at0 + 59] = 10
  sp : ∀ (k : Nat) (h : at0 + k < x.length), want.length ≤ k → k < 16 → x[at0 + k] = 32
theorem hd_of {x want : List UInt8} {at0 k : Nat} (h : (x.drop at0).take 60 = hdr want k) (hr : at0 + 60 ≤ x.length) (hw : want.length ≤ 16) (hk : k < 10000000000) : HdAt x at0 want := by
  have hat : ∀ (j : Nat) (hj : at0 + j < x.length), j < 60 → (hdr want k)[j]? = some x[at0 + j] := fun j hj h60 => by
    rw [← h, List.getElem?_take, if_pos h60, List.getElem?_drop, List.getElem?_eq_getElem hj]
  obtain ⟨y, hy, hyl⟩ := hdr_end want k hw hk
  refine ⟨hw, hr, ?_, fun hj => ?_, fun hj => ?_, fun j hj h1 h2 => ?_⟩
  · have e := congrArg (List.take want.length) h
    rw [List.take_take, Nat.min_eq_left (by omega)] at e
    rw [e]
    unfold hdr fld
    simp only [List.append_assoc]
    exact List.take_left
  · have e := hat 58 hj (by omega)
    rw [hy, List.getElem?_append_right (by omega), hyl] at e
    exact (Option.some.inj e).symm
  · have e := hat 59 hj (by omega)
    rw [hy, List.getElem?_append_right (by omega), hyl] at e
    exact (Option.some.inj e).symm
  · have e := hat j hj (by omega)
    unfold hdr at e
    simp only [List.append_assoc] at e
    rw [List.getElem?_append_left (by rw [fld_length]; omega)] at e
    unfold fld blanks at e
    rw [List.getElem?_append_right h1, List.getElem?_replicate, if_pos (by omega)] at e
    exact (Option.some.inj e).symm

end Go.Proofs.YtnpfnjkghlgooaaGreatDoor
