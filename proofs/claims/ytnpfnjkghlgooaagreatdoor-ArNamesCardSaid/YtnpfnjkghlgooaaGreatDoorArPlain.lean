/-
  What an archive that was written holds, as a row of records: the plain law of the reading side: no program in sight.
  Conditions: none (definitions and lemmas).
-/
import Derived.Test.YtnpfnjkghlgooaaGreatDoorArRecs
namespace Go.Proofs.YtnpfnjkghlgooaaGreatDoor
set_option linter.unusedVariables false
set_option linter.unusedSimpArgs false
open Go Go.RowKit

/-- These members are what these bytes say. -/
def Is (ms : List Mem) (b : List UInt8) : Prop := faultOf ms = 0 ∧ arBytes ms = b

theorem rawAt_app_left (R S : RawR) (k : Nat) (h : k < R.length) : rawAt (R ++ S) k = rawAt R k := by
  simp [rawAt, List.getD, List.getElem?_append_left h]
theorem fileTo_app (R S : RawR) : ∀ k, k ≤ R.length → fileTo (R ++ S) k = fileTo R k
  | 0, _ => rfl
  | k + 1, h => by rw [fileTo, fileTo, fileTo_app R S k (by omega), rawAt_app_left R S k (by omega)]
theorem rawAt_last (R : RawR) (x : List UInt8 × List UInt8) : rawAt (R ++ [x]) R.length = x := by simp [rawAt, List.getD]
theorem fileOf_snoc (R : RawR) (x : List UInt8 × List UInt8) : fileOf (R ++ [x]) = putRec (fileOf R) x.1 x.2 := by
  unfold fileOf
  rw [List.length_append, List.length_singleton, fileTo, rawAt_last, fileTo_app R [x] _ (Nat.le_refl _)]

def headR (ms : List Mem) : RawR := (if 0 < nsyms ms then [([47], index ms (pls ms))] else []) ++ (if longAll ms = [] then [] else [([47, 47], longAll ms)])
def memR (ms : List Mem) (k : Nat) : RawR := (List.range k).map fun i => (nmAt ms i, (mAt ms i).data)
def rawsOf (ms : List Mem) : RawR := headR ms ++ memR ms ms.length
theorem memR_succ (ms : List Mem) (k : Nat) : memR ms (k + 1) = memR ms k ++ [(nmAt ms k, (mAt ms k).data)] := by simp [memR, List.range_succ]
theorem memR_len (ms : List Mem) (k : Nat) : (memR ms k).length = k := by simp [memR]

theorem head_file (ms : List Mem) : fileOf (headR ms) = front ms (pls ms) := by
  unfold headR front front1
  by_cases h1 : 0 < nsyms ms
  · by_cases h2 : longAll ms = []
    · rw [if_pos h1, if_pos h2, if_pos h2, if_pos h1]; rfl
    · rw [if_pos h1, if_neg h2, if_neg h2, if_pos h1, fileOf_snoc]; rfl
  · by_cases h2 : longAll ms = []
    · rw [if_neg h1, if_pos h2, if_pos h2, if_neg h1]; rfl
    · rw [if_neg h1, if_neg h2, if_neg h2, if_neg h1]; rfl
theorem mem_file (ms : List Mem) : ∀ k, fileOf (headR ms ++ memR ms k) = bodyTo (front ms (pls ms)) ms k
  | 0 => by
    rw [show memR ms 0 = [] from rfl, List.append_nil, head_file]; rfl
  | k + 1 => by rw [memR_succ, ← List.append_assoc, fileOf_snoc, mem_file ms k]; rfl
theorem raws_file (ms : List Mem) : fileOf (rawsOf ms) = arBytes ms := mem_file ms ms.length

theorem raw_le (R : RawR) (k : Nat) (hk : k < R.length) : (rawAt R k).2.length ≤ (fileOf R).length := by
  have h1 := file_mono R (k + 1) R.length hk
  unfold fileOf
  refine Nat.le_trans ?_ h1
  rw [fileTo, putRec]
  simp only [List.length_append]
  omega
theorem headR_len (ms : List Mem) : (headR ms).length ≤ 2 := by
  unfold headR
  split <;> split <;> simp
theorem rawAt_mem (ms : List Mem) (k : Nat) (hk : k < ms.length) : rawAt (rawsOf ms) ((headR ms).length + k) = (nmAt ms k, (mAt ms k).data) := by
  unfold rawsOf rawAt
  rw [List.getD, List.getElem?_append_right (by omega), Nat.add_sub_cancel_left]
  simp [memR, hk]
theorem rawsOf_len (ms : List Mem) : (rawsOf ms).length = (headR ms).length + ms.length := by
  rw [rawsOf, List.length_append, memR_len]
theorem idx_room (ms : List Mem) (h : 0 < nsyms ms) : 4 * nsyms ms ≤ (arBytes ms).length := by
  have h0 : 0 < (rawsOf ms).length := by
    rw [rawsOf_len]; unfold headR; rw [if_pos h]; simp; omega
  have h1 := raw_le (rawsOf ms) 0 h0
  rw [raws_file] at h1
  have h2 : (rawAt (rawsOf ms) 0).2 = index ms (pls ms) := by
    unfold rawsOf headR; rw [if_pos h]; rfl
  rw [h2] at h1
  refine Nat.le_trans ?_ h1
  have h3 := idxTo_length ms (pls ms) ms.length (Nat.le_refl _)
  rw [List.take_length] at h3
  unfold index
  rw [List.length_append, List.length_append, h3]
  omega
theorem nsyms_room (ms : List Mem) : 4 * nsyms ms ≤ (arBytes ms).length := by
  rcases Nat.eq_zero_or_pos (nsyms ms) with h | h
  · omega
  · exact idx_room ms h
theorem is_lim {ms : List Mem} {b : List UInt8} (h : Is ms b) (hb : b.length ≤ 1000000) : Lim ms := by
  refine lim_of h.1 ?_
  have := nsyms_room ms
  rw [h.2] at this
  omega
theorem okMem_at {ms : List Mem} (h : faultOf ms = 0) (k : Nat) (hk : k < ms.length) : okMem (mAt ms k) = true := by
  refine all_mAt ?_ k hk
  unfold faultOf at h
  split at h
  · assumption
  · cases h
theorem okName_parts {l : List UInt8} (h : okName l = true) : (∀ c ∈ l, badCh c = false) ∧ 1 ≤ l.length ∧ l.length ≤ 128 := by
  unfold okName at h
  rw [Bool.and_eq_true, Bool.and_eq_true, decide_eq_true_eq, decide_eq_true_eq] at h
  refine ⟨fun c hc => ?_, h.1.2, h.2⟩
  have := List.all_eq_true.1 h.1.1 c hc
  simpa using this
theorem name_at {ms : List Mem} (h : faultOf ms = 0) (k : Nat) (hk : k < ms.length) : okName (mAt ms k).name.data.toList = true := by
  have := okMem_at h k hk
  unfold okMem at this
  rw [Bool.and_eq_true] at this
  exact this.1
theorem name_no47 {l : List UInt8} (h : okName l = true) : (47 : UInt8) ∉ l := fun hm => by
  have := (okName_parts h).1 47 hm
  simp [badCh] at this
theorem nmAt_last (ms : List Mem) (k : Nat) : ∀ c, (nmAt ms k).getLast? = some c → c ≠ 32 := by
  intro c hc
  unfold nmAt mname at hc
  split at hc
  · rw [List.getLast?_append] at hc
    simp at hc
    rw [← hc]; decide
  · have h1 := dec_last (longTo ms k).length
    cases hd : Lib.decDigits (longTo ms k).length with
    | nil => have := dec_pos (longTo ms k).length; rw [hd] at this; simp at this
    | cons x r =>
      rw [hd] at hc h1
      rw [List.getLast?_cons_cons] at hc
      exact h1 c hc
theorem is_ok {ms : List Mem} {b : List UInt8} (h : Is ms b) (hb : b.length ≤ 1000000) : OkR (rawsOf ms) ∧ b = fileOf (rawsOf ms) := by
  have hl := is_lim h hb
  refine ⟨⟨fun k hk => ?_⟩, by rw [raws_file, h.2]⟩
  have h1 := raw_le (rawsOf ms) k hk
  rw [raws_file, h.2] at h1
  rcases Nat.lt_or_ge k (headR ms).length with h2 | h2
  · have h3 : rawAt (rawsOf ms) k = rawAt (headR ms) k := rawAt_app_left _ _ _ h2
    rw [h3] at h1 ⊢
    refine ⟨?_, ?_, by omega⟩
    all_goals
      unfold headR at h2 ⊢
      split
      all_goals
        rename_i g1
        simp only [g1] at h2
        split
        all_goals
          rename_i g2
          simp only [g2] at h2
          rcases k with _ | _ | k
          all_goals (first | (exfalso; simp at h2; done) | (exfalso; simp at h2; omega) | (simp [rawAt, List.getD]; done) | (intro c hc; simp [rawAt, List.getD] at hc; subst hc; decide))
  · obtain ⟨j, rfl⟩ : ∃ j, k = (headR ms).length + j := ⟨k - (headR ms).length, by omega⟩
    rw [rawsOf_len] at hk
    rw [rawAt_mem ms j (by omega)] at h1 ⊢
    exact ⟨nmAt_le16 ms hl j (by omega), nmAt_last ms j, by omega⟩

/-! ### Where records begin -/
theorem posOf_app (R S : RawR) (k : Nat) (h : k ≤ R.length) : posOf (R ++ S) k = posOf R k := by
  unfold posOf; rw [fileTo_app R S k h]
theorem pls_at (ms : List Mem) (h : Lim ms) (k : Nat) (hk : k < ms.length) : pAt (pls ms) k = placeAt (front ms (pls ms)) ms k := by
  have e : pls ms = placesOf ms (pls ms) := by
    rw [← plP_places ms (pls ms) h, ← front_len ms (zeros ms) (pls ms) h, plP_places ms (zeros ms) h]; rfl
  conv => lhs; rw [e]
  unfold placesOf placesTo
  simp [pAt, List.getD, hk]
theorem pos_mem (ms : List Mem) (h : Lim ms) (k : Nat) (hk : k < ms.length) : posOf (rawsOf ms) ((headR ms).length + k) = pAt (pls ms) k := by
  rw [pls_at ms h k hk]
  have e : rawsOf ms = (headR ms ++ memR ms k) ++ (rawsOf ms).drop ((headR ms).length + k) := by
    have h1 : (rawsOf ms).take ((headR ms).length + k) = headR ms ++ memR ms k := by
      unfold rawsOf
      rw [List.take_length_add_append]
      unfold memR
      rw [← List.map_take, List.take_range, Nat.min_eq_left (by omega)]
    conv => lhs; rw [← List.take_append_drop ((headR ms).length + k) (rawsOf ms), h1]
  have h2 : (headR ms ++ memR ms k).length = (headR ms).length + k := by rw [List.length_append, memR_len]
  rw [e, posOf_app _ _ _ (by omega)]
  unfold posOf placeAt
  rw [← h2]
  have := mem_file ms k
  unfold fileOf at this
  rw [this]
theorem pls_lt (ms : List Mem) (h : Lim ms) (i j : Nat) (hij : i < j) (hj : j < ms.length) : pAt (pls ms) i < pAt (pls ms) j := by
  rw [pls_at ms h i (by omega), pls_at ms h j hj]
  have step : ∀ k, k + 1 < ms.length → placeAt (front ms (pls ms)) ms k < placeAt (front ms (pls ms)) ms (k + 1) := fun k hk => by
    unfold placeAt
    rw [bodyTo_atTo _ ms h k (by omega), bodyTo_atTo _ ms h (k + 1) (by omega), atTo_succ]
    unfold evAt
    omega
  induction j with
  | zero => omega
  | succ j ih =>
    have h1 := step j hj
    rcases Nat.lt_or_ge i j with h2 | h2
    · have := ih h2 (by omega); omega
    · have : i = j := by omega
      subst this; exact h1

/-! ### An index that was written, read -/
/-- The index of these places and names. -/
def idxB (F : List (Nat × ByteArray)) : List UInt8 := be4 F.length ++ (F.map fun x => be4 x.1).flatten ++ (F.map fun x => symText x.2).flatten
structure OkF (F : List (Nat × ByteArray)) : Prop where
  len : F.length < 4294967296
  each : ∀ x ∈ F, x.1 < 4294967296 ∧ (0 : UInt8) ∉ x.2.data.toList
theorem be4_be (n : Nat) (h : n < 4294967296) : be (be4 n) = n := by
  simp only [be, be4, List.foldl_cons, List.foldl_nil, UInt8.toNat_ofNat']
  omega
theorem be4s_len (F : List (Nat × ByteArray)) : (F.map fun x => be4 x.1).flatten.length = 4 * F.length := by
  induction F with
  | nil => rfl
  | cons x F ih => simp only [List.map_cons, List.flatten_cons, List.length_append, ih, be4_length, List.length_cons]; omega
theorem idx_ent (F : List (Nat × ByteArray)) (i : Nat) (h : i < F.length) : ∃ r, (idxB F).drop (4 + 4 * i) = be4 F[i].1 ++ r := by
  have e : F = F.take i ++ F[i] :: F.drop (i + 1) := by
    rw [← List.drop_eq_getElem_cons (by omega), List.take_append_drop]
  have h1 : (F.map fun x => be4 x.1).flatten = ((F.take i).map fun x => be4 x.1).flatten ++ (be4 F[i].1 ++ ((F.drop (i + 1)).map fun x => be4 x.1).flatten) := by
    conv => lhs; rw [e, List.map_append, List.map_cons, List.flatten_append, List.flatten_cons]
  have h2 : (be4 F.length ++ ((F.take i).map fun x => be4 x.1).flatten).length = 4 + 4 * i := by
    rw [List.length_append, be4s_len, be4_length, List.length_take]; omega
  refine ⟨((F.drop (i + 1)).map fun x => be4 x.1).flatten ++ (F.map fun x => symText x.2).flatten, ?_⟩
  unfold idxB
  rw [h1, ← h2]
  have : be4 F.length ++ (((F.take i).map fun x => be4 x.1).flatten ++ (be4 F[i].1 ++ ((F.drop (i + 1)).map fun x => be4 x.1).flatten)) ++ (F.map fun x => symText x.2).flatten
      = (be4 F.length ++ ((F.take i).map fun x => be4 x.1).flatten) ++ (be4 F[i].1 ++ (((F.drop (i + 1)).map fun x => be4 x.1).flatten ++ (F.map fun x => symText x.2).flatten)) := by simp
  rw [this, List.drop_left]
theorem idxB_len (F : List (Nat × ByteArray)) : (idxB F).length = 4 + 4 * F.length + (F.map fun x => symText x.2).flatten.length := by
  unfold idxB
  rw [List.length_append, List.length_append, be4s_len, be4_length]
theorem idx_count (F : List (Nat × ByteArray)) (h : OkF F) : uErr (idxB F) 0 = 0 ∧ entC (idxB F) = F.length := by
  have h1 := idxB_len F
  refine ⟨uErr_in _ _ (by omega) (by omega), ?_⟩
  unfold entC rd4
  rw [List.drop_zero]
  unfold idxB
  rw [List.append_assoc, List.take_left' (be4_length _), be4_be _ h.len]
theorem idx_place (F : List (Nat × ByteArray)) (h : OkF F) (i : Nat) (hi : i < F.length) : uErr (idxB F) (4 + 4 * i) = 0 ∧ entP (idxB F) i = F[i].1 := by
  have h1 := idxB_len F
  refine ⟨uErr_in _ _ (by omega) (by omega), ?_⟩
  obtain ⟨r, hr⟩ := idx_ent F i hi
  unfold entP rd4
  rw [hr, List.take_left' (be4_length _), be4_be _ (h.each _ (List.getElem_mem hi)).1]
theorem idx_text (l : List UInt8) (t r : List UInt8) (o : Nat) (hd : l.drop o = t ++ (0 :: r)) (ht : (0 : UInt8) ∉ t) : tErr l o = 0 ∧ tVal l o = t := by
  have hlen : o ≤ l.length := by
    rcases Nat.lt_or_ge l.length o with h | h
    · rw [List.drop_eq_nil_of_le (by omega)] at hd
      have := congrArg List.length hd
      simp at this
    · exact h
  have hL := congrArg List.length hd
  simp at hL
  have hx : Lib.indexByte (l.drop o) 0 = t.length := by
    refine idx_zero l o t.length (by omega) (fun j hj h => ?_) ?_
    · rw [← List.getElem?_drop, hd, List.getElem?_append_left hj] at h
      exact ht (List.mem_of_getElem? h)
    · rw [← List.getElem?_drop, hd, List.getElem?_append_right (Nat.le_refl _), Nat.sub_self]; rfl
  have h5 := tErr_in l o (by omega) (by rw [hx]; omega)
  refine ⟨h5.1, ?_⟩
  rw [h5.2]
  unfold tLen
  rw [hx, Int.toNat_natCast, hd, List.take_left]
theorem idx_texts (F : List (Nat × ByteArray)) (h : OkF F) : ∀ i, i ≤ F.length → tOff (idxB F) i = 4 + 4 * F.length + ((F.take i).map fun x => symText x.2).flatten.length ∧ ∀ j, j < i → ∀ (hj : j < F.length), tErr (idxB F) (tOff (idxB F) j) = 0 ∧ tVal (idxB F) (tOff (idxB F) j) = F[j].2.data.toList
  | 0, _ => by
    refine ⟨?_, fun j hj => by omega⟩
    unfold tOff
    rw [(idx_count F h).2]; rfl
  | i + 1, hi => by
    obtain ⟨h1, h2⟩ := idx_texts F h i (by omega)
    have hi' : i < F.length := by omega
    have e : F = F.take i ++ F[i] :: F.drop (i + 1) := by
      rw [← List.drop_eq_getElem_cons (by omega), List.take_append_drop]
    have hd : (idxB F).drop (tOff (idxB F) i) = F[i].2.data.toList ++ (0 :: ((F.drop (i + 1)).map fun x => symText x.2).flatten) := by
      have h3 : (F.map fun x => symText x.2).flatten = ((F.take i).map fun x => symText x.2).flatten ++ (F[i].2.data.toList ++ (0 :: ((F.drop (i + 1)).map fun x => symText x.2).flatten)) := by
        conv => lhs; rw [e, List.map_append, List.map_cons, List.flatten_append, List.flatten_cons]
        simp only [symText, List.append_assoc, List.singleton_append]
      have h4 : (be4 F.length ++ (F.map fun x => be4 x.1).flatten ++ ((F.take i).map fun x => symText x.2).flatten).length = tOff (idxB F) i := by
        rw [h1, List.length_append, List.length_append, be4s_len, be4_length]
      have h5 : idxB F = (be4 F.length ++ (F.map fun x => be4 x.1).flatten ++ ((F.take i).map fun x => symText x.2).flatten) ++ (F[i].2.data.toList ++ (0 :: ((F.drop (i + 1)).map fun x => symText x.2).flatten)) := by
        unfold idxB
        rw [h3]; simp
      rw [← h4]
      conv => lhs; rw [h5]
      rw [List.drop_left]
    have h6 := idx_text _ _ _ _ hd (h.each _ (List.getElem_mem hi')).2
    refine ⟨?_, fun j hj hj' => ?_⟩
    · rw [tOff, h6.2, h1, List.take_succ_eq_append_getElem hi', List.map_append, List.flatten_append, List.length_append]
      simp [symText]; omega
    · rcases Nat.lt_or_ge j i with h7 | h7
      · exact h2 j h7 hj'
      · have : j = i := by omega
        subst this; exact h6
theorem idx_ok (F : List (Nat × ByteArray)) (h : OkF F) : EntOk (idxB F) := by
  have h1 := idx_count F h
  refine ⟨h1.1, ?_, fun i hi => ?_⟩
  · rw [h1.2, idxB_len]; omega
  · rw [h1.2] at hi
    exact ⟨(idx_place F h i hi).1, ((idx_texts F h F.length (Nat.le_refl _)).2 i hi hi).1⟩
theorem idx_name (F : List (Nat × ByteArray)) (h : OkF F) (i : Nat) (hi : i < F.length) : entN (idxB F) i = F[i].2 := by
  unfold entN
  rw [((idx_texts F h F.length (Nat.le_refl _)).2 i hi hi).2]
theorem idx_syms (F : List (Nat × ByteArray)) (h : OkF F) (p : Nat) : symsTo (idxB F) p (entC (idxB F)) = (F.filter fun x => decide (x.1 = p)).map Prod.snd := by
  rw [(idx_count F h).2]
  have : ∀ k, k ≤ F.length → symsTo (idxB F) p k = ((F.take k).filter fun x => decide (x.1 = p)).map Prod.snd := by
    intro k
    induction k with
    | zero => intro _; rfl
    | succ k ih =>
      intro hk
      rw [List.take_succ_eq_append_getElem (by omega), List.filter_append, List.map_append, ← ih (by omega)]
      have hp := (idx_place F h k (by omega)).2
      have hn := idx_name F h k (by omega)
      by_cases he : entP (idxB F) k = p
      · rw [symsTo_hit _ _ _ he, hn]
        rw [hp] at he
        simp [he]
      · rw [symsTo_miss _ _ _ he]
        rw [hp] at he
        simp [he]
  have := this F.length (Nat.le_refl _)
  rwa [List.take_length] at this

/-- The index's entries of the first k members. -/
def flatTo (ms : List Mem) (ps : List Nat) : Nat → List (Nat × ByteArray)
  | 0 => []
  | k + 1 => flatTo ms ps k ++ (mAt ms k).syms.map fun s => (pAt ps k, s)
theorem flat_idx (ms : List Mem) (ps : List Nat) : ∀ k, idxTo ms ps k = ((flatTo ms ps k).map fun x => be4 x.1).flatten
  | 0 => rfl
  | k + 1 => by
    rw [idxTo, flatTo, List.map_append, List.flatten_append, flat_idx ms ps k, List.map_map]
    congr 1
    congr 1
    exact (List.map_const' ..).symm
theorem flat_txt (ms : List Mem) (ps : List Nat) : ∀ k, txtTo ms k = ((flatTo ms ps k).map fun x => symText x.2).flatten
  | 0 => rfl
  | k + 1 => by
    rw [txtTo, flatTo, List.map_append, List.flatten_append, ← flat_txt ms ps k, List.map_map]
    rfl
theorem flat_len (ms : List Mem) (ps : List Nat) : ∀ k, k ≤ ms.length → (flatTo ms ps k).length = nsyms (ms.take k)
  | 0, _ => rfl
  | k + 1, hk => by
    rw [flatTo, List.length_append, flat_len ms ps k (by omega), nsyms_succ ms k (by omega), List.length_map]
theorem index_flat (ms : List Mem) (ps : List Nat) : index ms ps = idxB (flatTo ms ps ms.length) := by
  unfold index idxB
  rw [flat_idx ms ps, flat_txt ms ps, flat_len ms ps _ (Nat.le_refl _), List.take_length]
theorem flat_mem (ms : List Mem) (ps : List Nat) : ∀ k, k ≤ ms.length → ∀ x ∈ flatTo ms ps k, ∃ i, i < k ∧ x.1 = pAt ps i ∧ x.2 ∈ (mAt ms i).syms
  | 0, _, x, hx => by simp [flatTo] at hx
  | k + 1, hk, x, hx => by
    rw [flatTo] at hx
    rcases List.mem_append.1 hx with h | h
    · obtain ⟨i, h1, h2⟩ := flat_mem ms ps k (by omega) x h
      exact ⟨i, by omega, h2⟩
    · obtain ⟨s, hs, rfl⟩ := List.mem_map.1 h
      exact ⟨k, by omega, rfl, hs⟩
theorem flat_filter (ms : List Mem) (ps : List Nat) (hps : ∀ i j, i < j → j < ms.length → pAt ps i ≠ pAt ps j) (j : Nat) : ∀ k, k ≤ ms.length → j < ms.length → ((flatTo ms ps k).filter fun x => decide (x.1 = pAt ps j)).map Prod.snd = if j < k then (mAt ms j).syms else []
  | 0, _, _ => by simp [flatTo]
  | k + 1, hk, hj => by
    rw [flatTo, List.filter_append, List.map_append, flat_filter ms ps hps j k (by omega) hj]
    have h9 : ∀ (b : Bool) (l : List ByteArray), (decide (pAt ps k = pAt ps j)) = b → ((l.map fun s => (pAt ps k, s)).filter fun x => decide (x.1 = pAt ps j)).map Prod.snd = if b then l else [] := by
      intro b l hb
      induction l with
      | nil => cases b <;> rfl
      | cons s l ih =>
        rw [List.map_cons, List.filter_cons]
        simp only [hb]
        cases b
        · simpa using ih
        · simp only [if_true, List.map_cons]
          rw [ih]; rfl
    by_cases h : j = k
    · subst h
      rw [h9 true _ (by simp)]
      simp
    · have h2 : pAt ps k ≠ pAt ps j := by
        rcases Nat.lt_or_ge j k with h3 | h3
        · exact (hps j k h3 (by omega)).symm
        · exact hps k j (by omega) hj
      rw [h9 false _ (by simp [h2])]
      by_cases h4 : j < k
      · simp [h4, show j < k + 1 by omega]
      · simp [h4, show ¬ j < k + 1 by omega]

theorem okSym_no0 {l : List UInt8} (h : okSym l = true) : (0 : UInt8) ∉ l := fun hm => by
  unfold okSym at h
  rw [Bool.and_eq_true] at h
  have := List.all_eq_true.1 h.2 0 hm
  simp at this
theorem syms_at {ms : List Mem} (h : faultOf ms = 0) (k : Nat) (hk : k < ms.length) : ∀ s ∈ (mAt ms k).syms, okSym s.data.toList = true := by
  have := okMem_at h k hk
  unfold okMem at this
  rw [Bool.and_eq_true] at this
  exact fun s hs => List.all_eq_true.1 this.2 s hs
theorem is_okF {ms : List Mem} {b : List UInt8} (h : Is ms b) (hb : b.length ≤ 1000000) : OkF (flatTo ms (pls ms) ms.length) := by
  have hl := is_lim h hb
  refine ⟨?_, fun x hx => ?_⟩
  · rw [flat_len ms _ _ (Nat.le_refl _), List.take_length]
    have := hl.nsy; omega
  · obtain ⟨i, h1, h2, h3⟩ := flat_mem ms _ _ (Nat.le_refl _) x hx
    refine ⟨?_, okSym_no0 (syms_at h.1 i h1 _ h3)⟩
    have hlen : (pls ms).length = ms.length := by simp [pls, placesOf, placesTo]
    have := placesOf_lt hl (zeros ms) i (by show i < (pls ms).length; omega)
    have e : pAt (pls ms) i = (placesOf ms (zeros ms))[i]'(by show i < (pls ms).length; omega) := by
      unfold pAt pls
      simp [List.getD, show i < (placesOf ms (zeros ms)).length from by show i < (pls ms).length; omega]
    rw [h2, e]; exact this
/-- What an index says of a member. -/
theorem is_syms {ms : List Mem} {b : List UInt8} (h : Is ms b) (hb : b.length ≤ 1000000) (k : Nat) (hk : k < ms.length) : EntOk (index ms (pls ms)) ∧ symsTo (index ms (pls ms)) (pAt (pls ms) k) (entC (index ms (pls ms))) = (mAt ms k).syms := by
  have hF := is_okF h hb
  have hl := is_lim h hb
  rw [index_flat]
  refine ⟨idx_ok _ hF, ?_⟩
  rw [idx_syms _ hF, flat_filter ms (pls ms) (fun i j hij hj => Nat.ne_of_lt (pls_lt ms hl i j hij hj)) k _ (Nat.le_refl _) hk, if_pos hk]
theorem nsyms_none {ms : List Mem} (h : nsyms ms = 0) (k : Nat) (hk : k < ms.length) : (mAt ms k).syms = [] := by
  have h1 := nsyms_take_le ms (k + 1)
  rw [nsyms_succ ms k hk] at h1
  exact List.eq_nil_of_length_eq_zero (by omega)

/-! ### Names -/
theorem longTo_pre (ms : List Mem) (k : Nat) : ∀ m, k ≤ m → ∃ r, longTo ms m = longTo ms k ++ r
  | 0, h => ⟨[], by rw [show k = 0 by omega]; simp⟩
  | m + 1, h => by
    rcases Nat.lt_or_ge m k with h1 | h1
    · exact ⟨[], by rw [show k = m + 1 by omega]; simp⟩
    · obtain ⟨r, hr⟩ := longTo_pre ms k m h1
      rw [longTo, addLong]
      split
      · exact ⟨r, hr⟩
      · exact ⟨r ++ ((mAt ms m).name.data.toList ++ [47, 10]), by rw [hr]; simp⟩
theorem named_at {ms : List Mem} (h : faultOf ms = 0) (k : Nat) (hk : k < ms.length) : Named (nmAt ms k) (longAll ms) (mAt ms k).name.data.toList := by
  have hn := name_at h k hk
  have h1 := okName_parts hn
  have h2 := name_no47 hn
  unfold nmAt mname
  by_cases hs : (mAt ms k).name.data.toList.length ≤ 15
  · rw [if_pos hs]
    exact .inl ⟨rfl, fun e => by rw [e] at h1; simp at h1, h2⟩
  · rw [if_neg hs]
    refine .inr ⟨_, rfl, ?_⟩
    obtain ⟨r, hr⟩ := longTo_pre ms (k + 1) ms.length hk
    refine ⟨longTo ms k, r, ?_, rfl, h2⟩
    unfold longAll
    rw [hr, longTo, addLong, if_neg hs]
theorem nmAt_ne {ms : List Mem} (h : faultOf ms = 0) (k : Nat) (hk : k < ms.length) : nmAt ms k ≠ [47] ∧ nmAt ms k ≠ [47, 47] := by
  have hn := name_at h k hk
  have h1 := okName_parts hn
  have h2 := name_no47 hn
  unfold nmAt mname
  by_cases hs : (mAt ms k).name.data.toList.length ≤ 15
  · rw [if_pos hs]
    generalize (mAt ms k).name.data.toList = l at *
    cases l with
    | nil => simp at h1
    | cons c l =>
      constructor
      · intro e; simp at e
      · intro e; simp at e; exact h2 (by simp [e.1])
  · rw [if_neg hs]
    have h3 := dec_pos (longTo ms k).length
    have h4 := dec_digs (longTo ms k).length
    generalize Lib.decDigits (longTo ms k).length = l at *
    cases l with
    | nil => simp at h3
    | cons c l =>
      constructor
      · intro e; simp at e
      · intro e
        simp at e
        have := h4 c (by simp)
        rw [e.1] at this
        simp [isDig] at this

/-! ### The records of a file that was written -/
/-- What records say: an index (if any), the long names, the members' records. -/
structure Split (rs : List Rec) (ix : Option (List UInt8)) (long : List UInt8) (ms : List Rec) : Prop where
  eq : ∃ p q, rs = (match ix with | some d => [⟨[47], p, d⟩] | none => []) ++ (if long = [] then [] else [⟨[47, 47], q, long⟩]) ++ ms
def memRec (ms : List Mem) (k : Nat) : Rec := ⟨nmAt ms k, pAt (pls ms) k, (mAt ms k).data⟩
def memRecs (ms : List Mem) : List Rec := (List.range ms.length).map (memRec ms)
def ixOf (ms : List Mem) : Option (List UInt8) := if 0 < nsyms ms then some (index ms (pls ms)) else none
theorem memRecs_at (ms : List Mem) (k : Nat) (hk : k < ms.length) : (memRecs ms)[k]? = some (memRec ms k) := by simp [memRecs, hk]
theorem memRecs_len (ms : List Mem) : (memRecs ms).length = ms.length := by simp [memRecs]
theorem recs_split {ms : List Mem} {b : List UInt8} (h : Is ms b) (hb : b.length ≤ 1000000) : ∃ p q, recsTo (rawsOf ms) (rawsOf ms).length = (if 0 < nsyms ms then [⟨[47], p, index ms (pls ms)⟩] else []) ++ (if longAll ms = [] then [] else [⟨[47, 47], q, longAll ms⟩]) ++ memRecs ms := by
  have hl := is_lim h hb
  have h1 : recsTo (rawsOf ms) (rawsOf ms).length = recsTo (rawsOf ms) (headR ms).length ++ memRecs ms := by
    rw [rawsOf_len]
    unfold recsTo memRecs
    rw [List.range_add, List.map_append, List.map_map]
    congr 1
    refine List.map_congr_left fun k hk => ?_
    have hk' : k < ms.length := by simpa using hk
    show recOf (rawsOf ms) ((headR ms).length + k) = memRec ms k
    unfold recOf memRec
    rw [rawAt_mem ms k hk', pos_mem ms hl k hk']
  rw [h1]
  have h2 : ∀ k, k < (headR ms).length → recOf (rawsOf ms) k = ⟨(rawAt (headR ms) k).1, posOf (rawsOf ms) k, (rawAt (headR ms) k).2⟩ := fun k hk => by
    unfold recOf
    rw [show rawAt (rawsOf ms) k = rawAt (headR ms) k from rawAt_app_left _ _ _ hk]
  by_cases g1 : 0 < nsyms ms
  · by_cases g2 : longAll ms = []
    · have e : headR ms = [([47], index ms (pls ms))] := by unfold headR; rw [if_pos g1, if_pos g2]; rfl
      refine ⟨posOf (rawsOf ms) 0, 0, ?_⟩
      rw [if_pos g1, if_pos g2]
      congr 1
      have := h2 0 (by rw [e]; simp)
      rw [e] at this ⊢
      show [recOf (rawsOf ms) 0] = _
      rw [this]; rfl
    · have e : headR ms = [([47], index ms (pls ms)), ([47, 47], longAll ms)] := by unfold headR; rw [if_pos g1, if_neg g2]; rfl
      refine ⟨posOf (rawsOf ms) 0, posOf (rawsOf ms) 1, ?_⟩
      rw [if_pos g1, if_neg g2]
      congr 1
      have t0 := h2 0 (by rw [e]; simp)
      have t1 := h2 1 (by rw [e]; simp)
      rw [e] at t0 t1 ⊢
      show [recOf (rawsOf ms) 0, recOf (rawsOf ms) 1] = _
      rw [t0, t1]; rfl
  · by_cases g2 : longAll ms = []
    · have e : headR ms = [] := by unfold headR; rw [if_neg g1, if_pos g2]; rfl
      refine ⟨0, 0, ?_⟩
      rw [if_neg g1, if_pos g2, e]; rfl
    · have e : headR ms = [([47, 47], longAll ms)] := by unfold headR; rw [if_neg g1, if_neg g2]; rfl
      refine ⟨0, posOf (rawsOf ms) 0, ?_⟩
      rw [if_neg g1, if_neg g2]
      congr 1
      have t0 := h2 0 (by rw [e]; simp)
      rw [e] at t0 ⊢
      show [recOf (rawsOf ms) 0] = _
      rw [t0]; rfl

/-- What is left of records behind an index. -/
def tl1 (rs : List Rec) : List Rec := match rs with | r :: rs' => if r.name = [47] then rs' else rs | [] => []
def ix1 (rs : List Rec) : Option (List UInt8) := match rs with | r :: _ => if r.name = [47] then some r.data else none | [] => none
def tl2 (rs : List Rec) : List Rec := match rs with | r :: rs' => if r.name = [47, 47] then rs' else rs | [] => []
def lg2 (rs : List Rec) : List UInt8 := match rs with | r :: _ => if r.name = [47, 47] then r.data else [] | [] => []
theorem memRecs_ne {ms : List Mem} (h : faultOf ms = 0) (r : Rec) (rs : List Rec) (e : memRecs ms = r :: rs) : r.name ≠ [47] ∧ r.name ≠ [47, 47] := by
  have hlen : 0 < ms.length := by
    have := congrArg List.length e
    rw [memRecs_len] at this; simp at this; omega
  have h1 := memRecs_at ms 0 hlen
  rw [e] at h1
  cases h1
  exact nmAt_ne h 0 hlen
/-- The records of members' bytes: the index, the long names, the members. -/
theorem is_split {ms : List Mem} {b : List UInt8} (h : Is ms b) (hb : b.length ≤ 1000000) (rs : List Rec) (hrs : ∀ R, OkR R → b = fileOf R → rs = recsTo R R.length) :
    ix1 rs = ixOf ms ∧ lg2 (tl1 rs) = longAll ms ∧ tl2 (tl1 rs) = memRecs ms := by
  obtain ⟨h1, h2⟩ := is_ok h hb
  obtain ⟨p, q, h3⟩ := recs_split h hb
  rw [hrs _ h1 h2, h3]
  unfold ixOf
  by_cases g1 : 0 < nsyms ms
  · by_cases g2 : longAll ms = []
    · rw [if_pos g1, if_pos g2, if_pos g1, g2]
      refine ⟨rfl, ?_, ?_⟩
      all_goals
        show (_ : List _) = _
        simp only [tl1, List.append_nil, List.singleton_append, if_true]
        cases hm : memRecs ms with
        | nil => rfl
        | cons r rs =>
          have := (memRecs_ne h.1 r rs hm).2
          simp [lg2, tl2, this]
    · rw [if_pos g1, if_neg g2, if_pos g1]
      exact ⟨rfl, rfl, rfl⟩
  · by_cases g2 : longAll ms = []
    · rw [if_neg g1, if_pos g2, if_neg g1, g2]
      simp only [List.nil_append]
      cases hm : memRecs ms with
      | nil => exact ⟨rfl, rfl, rfl⟩
      | cons r rs =>
        have := memRecs_ne h.1 r rs hm
        simp [ix1, tl1, lg2, tl2, this.1, this.2]
    · rw [if_neg g1, if_neg g2, if_neg g1]
      refine ⟨?_, ?_, ?_⟩ <;> simp [ix1, tl1, lg2, tl2]

end Go.Proofs.YtnpfnjkghlgooaaGreatDoor
