/-
  Members as memory holds them; the walks that tell whether they may be: foundryref7.May, ar.faulty, ar.indexed, foundrylaw7.light, both Finds.
  Conditions: lengths below 10^9.
-/
import Derived.Test.YtnpfnjkghlgooaaGreatDoorArRef
namespace Go.Proofs.YtnpfnjkghlgooaaGreatDoor
set_option linter.unusedVariables false
set_option linter.unusedSimpArgs false
open Go Go.RowKit

/-- The slice value v reads as these members. -/
def RdM (w : World) (v : Value) (ms : List Mem) : Prop := ∃ a c, v = .slice a ms.length c ∧ ms.length ≤ c ∧ c ≤ maxLen ∧
  ∀ (i : Nat) (m : Mem), ms[i]? = some m → ∃ b o vd vs, a = some ⟨b, o, none⟩ ∧ w.cell? ⟨b, o + i * 3, none⟩ = some (.string m.name) ∧ w.cell? ⟨b, o + i * 3 + 1, none⟩ = some vd ∧ w.cell? ⟨b, o + i * 3 + 2, none⟩ = some vs ∧ RdB w vd m.data ∧ RdS w vs m.syms

theorem RdM.below {w w' : World} {v : Value} {ms : List Mem} (h : RdM w v ms) (hb : Below w.heap.size w w') : RdM w' v ms := by
  obtain ⟨a, c, hv, h1, h2, hc⟩ := h
  refine ⟨a, c, hv, h1, h2, fun i m hi => ?_⟩
  obtain ⟨b, o, vd, vs, ha, c0, c1, c2, hd, hs⟩ := hc i m hi
  exact ⟨b, o, vd, vs, ha, bel_cell hb c0, bel_cell hb c1, bel_cell hb c2, hd.below hb, hs.below hb⟩

theorem RdM.at {w : World} {a : Option Addr} {n c : Nat} {ms : List Mem} (h : RdM w (.slice a n c) ms) (i : Nat) (hi : i < ms.length) :
    ∃ b o da dc sa sc, a = some ⟨b, o, none⟩ ∧ w.cell? ⟨b, o + i * 3, none⟩ = some (.string ms[i].name) ∧ w.cell? ⟨b, o + i * 3 + 1, none⟩ = some (.slice da ms[i].data.length dc) ∧
      w.cell? ⟨b, o + i * 3 + 2, none⟩ = some (.slice sa ms[i].syms.length sc) ∧ RdB w (.slice da ms[i].data.length dc) ms[i].data ∧ RdS w (.slice sa ms[i].syms.length sc) ms[i].syms := by
  obtain ⟨a', c', hv, h1, h2, hc⟩ := h
  cases hv
  obtain ⟨b, o, vd, vs, ha, c0, c1, c2, hd, hs⟩ := hc i ms[i] (by simp [hi])
  obtain ⟨da, dc, rfl, hd'⟩ := id hd
  obtain ⟨sa, sc, rfl, hs'⟩ := id hs
  exact ⟨b, o, da, dc, sa, sc, ha, c0, c1, c2, hd, hs⟩
theorem RdS.at {w : World} {a : Option Addr} {n c : Nat} {l : List ByteArray} (h : RdS w (.slice a n c) l) (i : Nat) (hi : i < l.length) : ∃ b o, a = some ⟨b, o, none⟩ ∧ w.cell? ⟨b, o + i, none⟩ = some (.string l[i]) := by
  obtain ⟨a', c', hv, h1, h2, hc⟩ := h
  cases hv
  exact hc.str i hi
theorem RdB.at {w : World} {a : Option Addr} {n c : Nat} {l : List UInt8} (h : RdB w (.slice a n c) l) (i : Nat) (hi : i < l.length) : ∃ b o, a = some ⟨b, o, none⟩ ∧ w.cell? ⟨b, o + i, none⟩ = some (.int .u8 (l[i].toNat : Int)) := by
  obtain ⟨a', c', hv, h1, h2, hc⟩ := h
  cases hv
  exact hc.byte i hi

theorem RdI.at {w : World} {a : Option Addr} {n c : Nat} {l : List Int} (h : RdI w (.slice a n c) l) (i : Nat) (hi : i < l.length) : ∃ b o, a = some ⟨b, o, none⟩ ∧ w.cell? ⟨b, o + i, none⟩ = some (.int .i64 l[i]) := by
  obtain ⟨a', c', hv, h1, h2, hc⟩ := h
  cases hv
  exact hc.num i hi

theorem RdI.nat {w : World} {a : Option Addr} {n c : Nat} {l : List Nat} (h : RdI w (.slice a n c) (l.map fun (p : Nat) => (p : Int))) (i : Nat) (hi : i < l.length) : ∃ b o, a = some ⟨b, o, none⟩ ∧ w.cell? ⟨b, o + i, none⟩ = some (.int .i64 ((pAt l i : Nat) : Int)) := by
  obtain ⟨b, o, ha, hc⟩ := h.at i (by simpa using hi)
  refine ⟨b, o, ha, ?_⟩
  rw [hc]
  simp [pAt, List.getD, hi]

/-- What memory can bear. -/
structure Fit (ms : List Mem) : Prop where
  len : ms.length ≤ 1000000000
  each : ∀ (i : Nat) (h : i < ms.length), ms[i].name.size ≤ 1000000000 ∧ ms[i].data.length ≤ 1000000000 ∧ ms[i].syms.length ≤ 1000000000 ∧ ∀ (j : Nat) (h' : j < ms[i].syms.length), ms[i].syms[j].size ≤ 1000000000

def allOk (ms : List Mem) : Bool := ms.all okMem
theorem allOk_step (ms : List Mem) (k : Nat) (hk : k < ms.length) (h : allOk (ms.take k) = true) (hm : okMem ms[k] = true) : allOk (ms.take (k + 1)) = true := by
  unfold allOk at *
  rw [List.take_succ_eq_append_getElem hk, List.all_append, h]
  simp [hm]
def allSym (l : List ByteArray) : Bool := l.all fun s => okSym s.data.toList
theorem allSym_step (l : List ByteArray) (k : Nat) (hk : k < l.length) (h : allSym (l.take k) = true) (hm : okSym l[k].data.toList = true) : allSym (l.take (k + 1)) = true := by
  unfold allSym at *
  rw [List.take_succ_eq_append_getElem hk, List.all_append, h]
  simp [hm]
theorem okMem_good (m : Mem) (h1 : okName m.name.data.toList = true) (h2 : allSym m.syms = true) : okMem m = true := by
  unfold okMem; rw [h1]; exact h2
theorem okMem_badName (m : Mem) (h1 : okName m.name.data.toList = false) : okMem m = false := by
  unfold okMem; rw [h1]; rfl
theorem okMem_badSym (m : Mem) (j : Nat) (hj : j < m.syms.length) (h1 : okSym m.syms[j].data.toList = false) : okMem m = false := by
  unfold okMem
  have : (m.syms.all fun s => okSym s.data.toList) = false := by
    rw [List.all_eq_false]; exact ⟨_, List.getElem_mem hj, by simp [h1]⟩
  rw [this, Bool.and_false]
theorem faultOf_bad (ms : List Mem) (k : Nat) (hk : k < ms.length) (h : okMem ms[k] = false) : faultOf ms = 7 := by
  unfold faultOf
  have : ms.all okMem = false := by
    rw [List.all_eq_false]; exact ⟨_, List.getElem_mem hk, by simp [h]⟩
  rw [this]; rfl
theorem faultOf_long (ms : List Mem) (k : Nat) (hk : k < ms.length) (h0 : allOk ms = true) (h : 1048576 < ms[k].data.length) : faultOf ms = 6 := by
  unfold faultOf
  have h1 : ms.all okMem = true := h0
  have : (ms.any fun m => decide (1048576 < m.data.length)) = true := by
    rw [List.any_eq_true]; exact ⟨_, List.getElem_mem hk, by simp [h]⟩
  rw [h1, this]; rfl
def noLong (ms : List Mem) : Bool := ms.all fun m => decide (m.data.length ≤ 1048576)
theorem noLong_step (ms : List Mem) (k : Nat) (hk : k < ms.length) (h : noLong (ms.take k) = true) (hm : ms[k].data.length ≤ 1048576) : noLong (ms.take (k + 1)) = true := by
  unfold noLong at *
  rw [List.take_succ_eq_append_getElem hk, List.all_append, h]
  simp [hm]
theorem faultOf_end (ms : List Mem) (h0 : allOk ms = true) (h1 : noLong ms = true) : faultOf ms = if 64 < ms.length then 6 else 0 := by
  unfold faultOf
  have h2 : ms.all okMem = true := h0
  have : (ms.any fun m => decide (1048576 < m.data.length)) = false := by
    rw [List.any_eq_false]
    intro m hm
    have := (List.all_eq_true.1 h1) m hm
    simp at this ⊢
    omega
  rw [h2, this]; rfl
theorem allOk_end (ms : List Mem) (k : Nat) (h1 : k ≤ ms.length) (h2 : ¬ k < ms.length) (h : allOk (ms.take k) = true) : allOk ms = true := by
  have : k = ms.length := by omega
  rwa [this, List.take_length] at h
theorem allSym_end (ms : List ByteArray) (k : Nat) (h1 : k ≤ ms.length) (h2 : ¬ k < ms.length) (h : allSym (ms.take k) = true) : allSym ms = true := by
  have : k = ms.length := by omega
  rwa [this, List.take_length] at h
theorem noLong_end (ms : List Mem) (k : Nat) (h1 : k ≤ ms.length) (h2 : ¬ k < ms.length) (h : noLong (ms.take k) = true) : noLong ms = true := by
  have : k = ms.length := by omega
  rwa [this, List.take_length] at h
theorem okSym_parts (s : ByteArray) : okSym s.data.toList = (!s.toList.isEmpty && (noZero s.data.toList && decide ((s.size : Int) ≤ 128))) := by
  have e : s.toList.isEmpty = decide (s.size = 0) := by
    rw [ByteArray.toList_eq]
    cases h : s.data.toList with
    | nil => have := dl s; rw [h] at this; simp at this; simp [← this]
    | cons x l => have := dl s; rw [h] at this; simp at this; simp [← this]
  rw [e]
  unfold okSym noZero
  rw [dl, Bool.eq_iff_iff]
  simp only [Bool.and_eq_true, decide_eq_true_eq, Bool.not_eq_true', decide_eq_false_iff_not]
  constructor
  · rintro ⟨⟨h1, h2⟩, h3⟩; exact ⟨by omega, h3, by omega⟩
  · rintro ⟨h1, h2, h3⟩; exact ⟨⟨by omega, by omega⟩, h2⟩

set_option maxHeartbeats 1000000 in
theorem ref_May (v : Value) (ms : List Mem) (w : World) (hv : RdM w v ms) (hf : Fit ms) :
    Calls Tryz.prog 26 #[v] w fun e w' => e = .returned (.int .i64 (faultOf ms)) ∧ w = w' := by
  have hv' := hv
  obtain ⟨a, c, rfl, hc1, hc2, -⟩ := hv'
  have Hv := Lib.hid hv; clear hv
  have hl := hf.len
  have Hf := Lib.hid hf; clear hf
  go_enter Tryz.func26, Tryz.ntmps26
  go_wp2_with fail
  go_loop [3, 4] (fun i j => ∃ k : Nat, k ≤ ms.length ∧ i = .int .i64 k ∧ allOk (ms.take k) = true) (fun i _ => ms.length - (intOf i).toNat)
  case atStart => exact ⟨0, Nat.zero_le _, rfl, rfl⟩
  case round =>
    obtain ⟨k, hk, rfl, hr⟩ := hrel
    have Hr := Lib.hid hr; clear hr
    by_cases hlt : k < ms.length
    · obtain ⟨b, o, da, dc, sa, sc, rfl, c0, c1, c2, hd, hs⟩ := Hv.out.at k hlt
      have Hd := Lib.hid hd; clear hd
      have Hs := Lib.hid hs; clear hs
      obtain ⟨f1, f2, f3, f4⟩ := Hf.out.each k hlt
      have F4 := Lib.hid f4; clear f4
      go_wp2_with fail
      refine (ref_Name _ _ (by omega)).mono ?_
      rintro _ _ ⟨rfl, rfl⟩
      cases hN : okName ms[k].name.data.toList with
      | false =>
        have HE := Lib.hid (faultOf_bad ms k hlt (okMem_badName _ hN))
        go_wp2_with fail
        go_ret
        exact ⟨ret_int HE.out.symm, rfl⟩
      | true =>
        have HN := Lib.hid hN
        go_wp2_with fail
        go_loop [4] (fun j => ∃ i : Nat, i ≤ ms[k].syms.length ∧ j = .int .i64 i ∧ allSym (ms[k].syms.take i) = true) (fun j => ms[k].syms.length - (intOf j).toNat)
        case atStart => exact ⟨0, Nat.zero_le _, rfl, rfl⟩
        case round =>
          obtain ⟨i, hi, rfl, hr2⟩ := hrel
          have Hr2 := Lib.hid hr2; clear hr2
          by_cases hlt2 : i < ms[k].syms.length
          · obtain ⟨b2, o2, rfl, cs⟩ := Hs.out.at i hlt2
            have f5 := F4.out i hlt2
            cases hE : ms[k].syms[i].toList.isEmpty with
            | true =>
              have HE := Lib.hid (faultOf_bad ms k hlt (okMem_badSym _ i hlt2 (by rw [okSym_parts, hE]; rfl)))
              go_wp2_with fail
              go_ret
              exact ⟨ret_int HE.out.symm, rfl⟩
            | false =>
              have Ep := Lib.hid (okSym_parts ms[k].syms[i])
              go_wp2_with fail
              refine (ref3_May _ _ (by omega)).mono ?_
              rintro _ _ ⟨rfl, rfl⟩
              cases hO : (noZero ms[k].syms[i].data.toList && decide ((ms[k].syms[i].size : Int) ≤ 128)) with
              | true =>
                have hs2 := allSym_step _ i hlt2 Hr2.out (by rw [Ep.out, hO, hE]; rfl)
                have Hs2 := Lib.hid hs2; clear hs2
                go_wp2_with fail
                go_round
                case rel => exact ⟨i + 1, by omega, by go_num, Hs2.out⟩
                case measure => simp [intOf]; omega
              | false =>
                have HE := Lib.hid (faultOf_bad ms k hlt (okMem_badSym _ i hlt2 (by rw [Ep.out, hO]; simp)))
                go_wp2_with fail
                go_ret
                exact ⟨ret_int HE.out.symm, rfl⟩
          · have hs2 := allOk_step ms k hlt Hr.out (okMem_good _ HN.out (allSym_end _ i hi hlt2 Hr2.out))
            have Hs2 := Lib.hid hs2; clear hs2
            go_wp2_with fail
            go_round
            case rel => exact ⟨k + 1, by omega, by go_num, Hs2.out⟩
            case measure => simp [intOf]; omega
    · have hall := allOk_end ms k hk hlt Hr.out
      have Hall := Lib.hid hall; clear hall
      clear Hr
      go_wp2_with fail
      go_loop [5] (fun j => ∃ i : Nat, i ≤ ms.length ∧ j = .int .i64 i ∧ noLong (ms.take i) = true) (fun j => ms.length - (intOf j).toNat)
      case atStart => exact ⟨0, Nat.zero_le _, rfl, rfl⟩
      case round =>
        obtain ⟨i, hi, rfl, hr2⟩ := hrel
        have Hr2 := Lib.hid hr2; clear hr2
        by_cases hlt2 : i < ms.length
        · obtain ⟨b, o, da, dc, sa, sc, rfl, c0, c1, c2, hd, hs⟩ := Hv.out.at i hlt2
          clear hd hs
          obtain ⟨f1, f2, f3, f4⟩ := Hf.out.each i hlt2
          clear f4
          by_cases hL : ms[i].data.length ≤ 1048576
          · have hs2 := noLong_step _ i hlt2 Hr2.out hL
            have Hs2 := Lib.hid hs2; clear hs2
            have hL' : ¬ (1048576 : Int) < ms[i].data.length := by omega
            clear hL
            go_wp2_with fail
            go_round
            case rel => exact ⟨i + 1, by omega, by go_num, Hs2.out⟩
            case measure => simp [intOf]; omega
          · have HE := Lib.hid (faultOf_long ms i hlt2 Hall.out (by omega))
            have hL' : (1048576 : Int) < ms[i].data.length := by omega
            clear hL
            go_wp2_with fail
            go_ret
            exact ⟨ret_int HE.out.symm, rfl⟩
        · have he := faultOf_end ms Hall.out (noLong_end _ i hi hlt2 Hr2.out)
          have HE := Lib.hid he; clear he
          by_cases hL : (64 : Int) < ms.length
          · go_wp2_with fail
            go_ret
            exact ⟨ret_int (by rw [HE.out, if_pos (by omega)]), rfl⟩
          · go_wp2_with fail
            go_ret
            exact ⟨ret_int (by rw [HE.out, if_neg (by omega)]), rfl⟩

set_option maxHeartbeats 1000000 in
theorem ar_faulty (v : Value) (ms : List Mem) (w : World) (hv : RdM w v ms) (hf : Fit ms) :
    Calls Tryz.prog 20 #[v] w fun e w' => e = .returned (.int .i64 (faultOf ms)) ∧ Below w.heap.size w w' := by
  have hv' := hv
  obtain ⟨a, c, rfl, hc1, hc2, -⟩ := hv'
  have Hv := Lib.hid hv; clear hv
  have hl := hf.len
  have Hf := Lib.hid hf; clear hf
  go_enter Tryz.func20, Tryz.ntmps20
  go_wp2_with fail
  go_loopw [11] (fun i wr => ∃ k : Nat, k ≤ ms.length ∧ i = .int .i64 k ∧ allOk (ms.take k) = true ∧ Below w.heap.size w wr) (fun i _ => ms.length - (intOf i).toNat)
  case atStart => exact ⟨0, Nat.zero_le _, rfl, rfl, Below.refl _ _⟩
  case round =>
    obtain ⟨k, hk, rfl, hr, hb⟩ := hrel
    have Hr := Lib.hid hr; clear hr
    have hz := hb.size
    have Hb := Lib.hid hb; clear hb
    obtain ⟨wo, rfl⟩ : ∃ wo : World, wo = wr := ⟨_, rfl⟩
    by_cases hlt : k < ms.length
    · obtain ⟨b, o, da, dc, sa, sc, rfl, c0, c1, c2, hd, hs⟩ := (Hv.out.below Hb.out).at k hlt
      clear hd
      have Hs := Lib.hid hs; clear hs
      obtain ⟨f1, f2, f3, f4⟩ := Hf.out.each k hlt
      have F4 := Lib.hid f4; clear f4
      go_wp2_with fail
      refine (ar_name _ _ (by omega)).mono ?_
      rintro _ _ ⟨rfl, rfl⟩
      cases hN : okName ms[k].name.data.toList with
      | false =>
        have HE := Lib.hid (faultOf_bad ms k hlt (okMem_badName _ hN))
        go_wp2_with fail
        go_ret
        exact ⟨ret_int HE.out.symm, Hb.out.alloc hz _⟩
      | true =>
        have HN := Lib.hid hN
        go_wp2_with fail
        go_loop [22] (fun j => ∃ i : Nat, i ≤ ms[k].syms.length ∧ j = .int .i64 i ∧ allSym (ms[k].syms.take i) = true) (fun j => ms[k].syms.length - (intOf j).toNat)
        case atStart => exact ⟨0, Nat.zero_le _, rfl, rfl⟩
        case round =>
          obtain ⟨i, hi, rfl, hr2⟩ := hrel
          have Hr2 := Lib.hid hr2; clear hr2
          by_cases hlt2 : i < ms[k].syms.length
          · obtain ⟨b2, o2, rfl, cs⟩ := (Hs.out.below ((Below.refl _ wo).alloc (Nat.le_refl _) (.cells #[.string ms[k].name, .slice da ms[k].data.length dc, .slice sa ms[k].syms.length sc] 40))).at i hlt2
            have f5 := F4.out i hlt2
            go_wp2_with fail
            refine (ar_symbol _ _ (by omega)).mono ?_
            rintro _ _ ⟨rfl, rfl⟩
            cases hO : okSym ms[k].syms[i].data.toList with
            | true =>
              have hs2 := allSym_step _ i hlt2 Hr2.out hO
              have Hs2 := Lib.hid hs2; clear hs2
              go_wp2_with fail
              go_round
              case rel => exact ⟨i + 1, by omega, by go_num, Hs2.out⟩
              case measure => simp [intOf]; omega
            | false =>
              have HE := Lib.hid (faultOf_bad ms k hlt (okMem_badSym _ i hlt2 hO))
              go_wp2_with fail
              go_ret
              exact ⟨ret_int HE.out.symm, Hb.out.alloc hz _⟩
          · have hs2 := allOk_step ms k hlt Hr.out (okMem_good _ HN.out (allSym_end _ i hi hlt2 Hr2.out))
            have Hs2 := Lib.hid hs2; clear hs2
            go_wp2_with fail
            go_roundw
            case rel => exact ⟨k + 1, by omega, by go_num, Hs2.out, Hb.out.alloc hz _⟩
            case measure => simp [intOf]; omega
    · have hall := allOk_end ms k hk hlt Hr.out
      have Hall := Lib.hid hall; clear hall
      clear Hr
      go_wp2_with fail
      go_loopw [33] (fun j wr => ∃ i : Nat, i ≤ ms.length ∧ j = .int .i64 i ∧ noLong (ms.take i) = true ∧ Below w.heap.size w wr) (fun j _ => ms.length - (intOf j).toNat)
      case atStart => exact ⟨0, Nat.zero_le _, rfl, rfl, Hb.out⟩
      case round =>
        obtain ⟨i, hi, rfl, hr2, hb2⟩ := hrel
        have Hr2 := Lib.hid hr2; clear hr2
        have hz2 := hb2.size
        have Hb2 := Lib.hid hb2; clear hb2
        by_cases hlt2 : i < ms.length
        · obtain ⟨b, o, da, dc, sa, sc, rfl, c0, c1, c2, hd, hs⟩ := (Hv.out.below Hb2.out).at i hlt2
          clear hd hs
          obtain ⟨f1, f2, f3, f4⟩ := Hf.out.each i hlt2
          clear f4
          by_cases hL : ms[i].data.length ≤ 1048576
          · have hs2 := noLong_step _ i hlt2 Hr2.out hL
            have Hs2 := Lib.hid hs2; clear hs2
            have hL' : ¬ (1048576 : Int) < ms[i].data.length := by omega
            clear hL
            go_wp2_with fail
            go_roundw
            case rel => exact ⟨i + 1, by omega, by go_num, Hs2.out, Hb2.out.alloc hz2 _⟩
            case measure => simp [intOf]; omega
          · have HE := Lib.hid (faultOf_long ms i hlt2 Hall.out (by omega))
            have hL' : (1048576 : Int) < ms[i].data.length := by omega
            clear hL
            go_wp2_with fail
            go_ret
            exact ⟨ret_int HE.out.symm, Hb2.out.alloc hz2 _⟩
        · have he := faultOf_end ms Hall.out (noLong_end _ i hi hlt2 Hr2.out)
          have HE := Lib.hid he; clear he
          by_cases hL : (64 : Int) < ms.length
          · go_wp2_with fail
            go_ret
            exact ⟨ret_int (by rw [HE.out, if_pos (by omega)]), Hb2.out⟩
          · go_wp2_with fail
            go_ret
            exact ⟨ret_int (by rw [HE.out, if_neg (by omega)]), Hb2.out⟩

theorem nsyms_zero (ms : List Mem) (k : Nat) (h1 : k ≤ ms.length) (h2 : ¬ k < ms.length) (h : nsyms (ms.take k) = 0) : nsyms ms = 0 := by
  have : k = ms.length := by omega
  rwa [this, List.take_length] at h
theorem nsyms_take (ms : List Mem) (k : Nat) (hk : k < ms.length) : nsyms (ms.take (k + 1)) = nsyms (ms.take k) + ms[k].syms.length := by
  unfold nsyms
  rw [List.take_succ_eq_append_getElem hk, List.map_append, List.sum_append]
  simp
theorem nsyms_le (ms : List Mem) (k : Nat) : nsyms (ms.take k) ≤ nsyms ms := by
  unfold nsyms
  conv => rhs; rw [← List.take_append_drop k ms, List.map_append, List.sum_append]
  omega

set_option maxHeartbeats 1000000 in
theorem ar_indexed (v : Value) (ms : List Mem) (w : World) (hv : RdM w v ms) (hf : Fit ms) :
    Calls Tryz.prog 22 #[v] w fun e w' => e = .returned (.bool (decide (0 < nsyms ms))) ∧ Below w.heap.size w w' := by
  have hv' := hv
  obtain ⟨a, c, rfl, hc1, hc2, -⟩ := hv'
  have Hv := Lib.hid hv; clear hv
  have hl := hf.len
  have Hf := Lib.hid hf; clear hf
  go_enter Tryz.func22, Tryz.ntmps22
  go_wp2_with fail
  go_loopw [7] (fun i wr => ∃ k : Nat, k ≤ ms.length ∧ i = .int .i64 k ∧ nsyms (ms.take k) = 0 ∧ Below w.heap.size w wr) (fun i _ => ms.length - (intOf i).toNat)
  case atStart => exact ⟨0, Nat.zero_le _, rfl, rfl, Below.refl _ _⟩
  case round =>
    obtain ⟨k, hk, rfl, hr, hb⟩ := hrel
    have Hr := Lib.hid hr; clear hr
    have hz := hb.size
    have Hb := Lib.hid hb; clear hb
    by_cases hlt : k < ms.length
    · obtain ⟨b, o, da, dc, sa, sc, rfl, c0, c1, c2, hd, hs⟩ := (Hv.out.below Hb.out).at k hlt
      clear hd hs
      have Ht := Lib.hid (nsyms_take ms k hlt)
      have Hl := Lib.hid (nsyms_le ms (k + 1))
      by_cases hS : (0 : Int) < ms[k].syms.length
      · go_wp2_with fail
        go_ret
        refine ⟨ret_bool ?_, Hb.out.alloc hz _⟩
        have h1 := Hl.out
        rw [Ht.out] at h1
        exact (decide_eq_true (by omega)).symm
      · go_wp2_with fail
        go_roundw
        case rel => exact ⟨k + 1, by omega, by go_num, by rw [Ht.out, Hr.out]; omega, Hb.out.alloc hz _⟩
        case measure => simp [intOf]; omega
    · have HE := Lib.hid (nsyms_zero ms k hk hlt Hr.out)
      go_wp2_with fail
      go_ret
      exact ⟨ret_bool (by rw [HE.out]; rfl), Hb.out⟩

def weight (ms : List Mem) : Nat := (ms.map fun m => m.data.length + 100 * m.syms.length).sum
theorem weight_take (ms : List Mem) (k : Nat) (hk : k < ms.length) : weight (ms.take (k + 1)) = weight (ms.take k) + (ms[k].data.length + 100 * ms[k].syms.length) := by
  unfold weight
  rw [List.take_succ_eq_append_getElem hk, List.map_append, List.sum_append]
  simp
theorem weight_le (ms : List Mem) (k : Nat) : weight (ms.take k) ≤ weight ms := by
  unfold weight
  conv => rhs; rw [← List.take_append_drop k ms, List.map_append, List.sum_append]
  omega
def lightB (ms : List Mem) : Bool := decide (ms.length ≤ 80) && decide (weight ms ≤ 16384)
theorem weight_end (ms : List Mem) (k : Nat) (h1 : k ≤ ms.length) (h2 : ¬ k < ms.length) : weight (ms.take k) = weight ms := by
  have : k = ms.length := by omega
  rw [this, List.take_length]

set_option maxHeartbeats 1000000 in
theorem law_light (v : Value) (ms : List Mem) (w : World) (hv : RdM w v ms) (hf : Fit ms) (hw : weight ms ≤ 1000000000000) :
    Calls Tryz.prog 8 #[v] w fun e w' => e = .returned (.bool (lightB ms)) ∧ Below w.heap.size w w' := by
  have hv' := hv
  obtain ⟨a, c, rfl, hc1, hc2, -⟩ := hv'
  have Hv := Lib.hid hv; clear hv
  have hl := hf.len
  have Hf := Lib.hid hf; clear hf
  go_enter Tryz.func8, Tryz.ntmps8
  go_wp2_with fail
  go_loopw [3, 4] (fun n i wr => ∃ k : Nat, k ≤ ms.length ∧ i = .int .i64 k ∧ n = .int .i64 (weight (ms.take k) : Nat) ∧ Below w.heap.size w wr) (fun _ i _ => ms.length - (intOf i).toNat)
  case atStart => exact ⟨0, Nat.zero_le _, rfl, by simp [weight], Below.refl _ _⟩
  case round =>
    obtain ⟨k, hk, rfl, rfl, hb⟩ := hrel
    have hz := hb.size
    have Hb := Lib.hid hb; clear hb
    by_cases hlt : k < ms.length
    · obtain ⟨b, o, da, dc, sa, sc, rfl, c0, c1, c2, hd, hs⟩ := (Hv.out.below Hb.out).at k hlt
      clear hd hs
      obtain ⟨f1, f2, f3, f4⟩ := Hf.out.each k hlt
      clear f4
      have Ht := Lib.hid (weight_take ms k hlt)
      have hl2 := weight_le ms (k + 1)
      rw [Ht.out] at hl2
      go_wp2_with fail
      go_quiet (fail)
      go_wp2_with fail
      go_roundw
      case rel => exact ⟨k + 1, by omega, by go_num, by rw [Ht.out]; go_num, below_drewN Hb.out _⟩
      case measure => simp [intOf]; omega
    · have Ht := Lib.hid (weight_end ms k hk hlt)
      by_cases h8 : (ms.length : Int) ≤ 80
      · go_wp2_with fail
        go_ret
        refine ⟨ret_bool ?_, Hb.out⟩
        rw [Ht.out]
        unfold lightB
        rw [Bool.eq_iff_iff]
        simp
        omega
      · go_wp2_with fail
        go_ret
        refine ⟨ret_bool ?_, Hb.out⟩
        unfold lightB
        rw [Bool.eq_iff_iff]
        simp
        omega

/-- The first member that has a name. -/
def hasSym (s : ByteArray) (m : Mem) : Bool := m.syms.any fun x => x.toList == s.toList
def findAt (ms : List Mem) (s : ByteArray) : Nat × Bool := match ms.findIdx? (hasSym s) with | some i => (i, true) | none => (0, false)
def noneIn (l : List ByteArray) (s : ByteArray) : Bool := l.all fun x => !(x.toList == s.toList)
def noneOf (ms : List Mem) (s : ByteArray) : Bool := ms.all fun m => !hasSym s m
theorem noneIn_step (l : List ByteArray) (s : ByteArray) (k : Nat) (hk : k < l.length) (h : noneIn (l.take k) s = true) (hm : (l[k].toList == s.toList) = false) : noneIn (l.take (k + 1)) s = true := by
  unfold noneIn at *
  rw [List.take_succ_eq_append_getElem hk, List.all_append, h]
  rw [List.all_cons, hm]; rfl
theorem noneIn_end (l : List ByteArray) (s : ByteArray) (k : Nat) (h1 : k ≤ l.length) (h2 : ¬ k < l.length) (h : noneIn (l.take k) s = true) : noneIn l s = true := by
  have : k = l.length := by omega
  rwa [this, List.take_length] at h
theorem noneOf_step (ms : List Mem) (s : ByteArray) (k : Nat) (hk : k < ms.length) (h : noneOf (ms.take k) s = true) (hm : noneIn ms[k].syms s = true) : noneOf (ms.take (k + 1)) s = true := by
  unfold noneOf at *
  rw [List.take_succ_eq_append_getElem hk, List.all_append, h]
  have : hasSym s ms[k] = false := by
    unfold hasSym; unfold noneIn at hm
    rw [List.any_eq_false]; intro x hx
    have := List.all_eq_true.1 hm x hx
    simpa using this
  simp [this]
theorem findAt_end (ms : List Mem) (s : ByteArray) (k : Nat) (h1 : k ≤ ms.length) (h2 : ¬ k < ms.length) (h : noneOf (ms.take k) s = true) : findAt ms s = (0, false) := by
  have : k = ms.length := by omega
  rw [this, List.take_length] at h
  unfold findAt
  have : ms.findIdx? (hasSym s) = none := by
    rw [List.findIdx?_eq_none_iff]; intro m hm
    have := List.all_eq_true.1 h m hm
    simpa using this
  rw [this]
theorem findAt_hit (ms : List Mem) (s : ByteArray) (k i : Nat) (hk : k < ms.length) (h : noneOf (ms.take k) s = true) (hi : i < ms[k].syms.length) (he : (ms[k].syms[i].toList == s.toList) = true) : findAt ms s = (k, true) := by
  unfold findAt
  have : ms.findIdx? (hasSym s) = some k := by
    rw [List.findIdx?_eq_some_iff_getElem]
    refine ⟨hk, ?_, fun j hj => ?_⟩
    · unfold hasSym; rw [List.any_eq_true]; exact ⟨_, List.getElem_mem hi, he⟩
    · have := List.all_eq_true.1 h ms[j] (by rw [List.mem_take_iff_getElem]; exact ⟨j, by omega, rfl⟩)
      simpa using this
  rw [this]

set_option maxHeartbeats 1000000 in
theorem ar_Find (v : Value) (ms : List Mem) (s : ByteArray) (w : World) (hv : RdM w v ms) (hf : Fit ms) :
    Calls Tryz.prog 11 #[v, .string s] w fun e w' => e = .returned (.tuple #[.int .i64 ((findAt ms s).1 : Nat), .bool (findAt ms s).2]) ∧ Below w.heap.size w w' := by
  have hv' := hv
  obtain ⟨a, c, rfl, hc1, hc2, -⟩ := hv'
  have Hv := Lib.hid hv; clear hv
  have hl := hf.len
  have Hf := Lib.hid hf; clear hf
  go_enter Tryz.func11, Tryz.ntmps11
  go_wp2_with fail
  go_loopw [12] (fun i wr => ∃ k : Nat, k ≤ ms.length ∧ i = .int .i64 k ∧ noneOf (ms.take k) s = true ∧ Below w.heap.size w wr) (fun i _ => ms.length - (intOf i).toNat)
  case atStart => exact ⟨0, Nat.zero_le _, rfl, rfl, Below.refl _ _⟩
  case round =>
    obtain ⟨k, hk, rfl, hr, hb⟩ := hrel
    have Hr := Lib.hid hr; clear hr
    have hz := hb.size
    have Hb := Lib.hid hb; clear hb
    obtain ⟨wo, rfl⟩ : ∃ wo : World, wo = wr := ⟨_, rfl⟩
    by_cases hlt : k < ms.length
    · obtain ⟨b, o, da, dc, sa, sc, rfl, c0, c1, c2, hd, hs⟩ := (Hv.out.below Hb.out).at k hlt
      clear hd
      have Hs := Lib.hid hs; clear hs
      obtain ⟨f1, f2, f3, f4⟩ := Hf.out.each k hlt
      clear f4
      go_wp2_with fail
      go_loop [20] (fun j => ∃ i : Nat, i ≤ ms[k].syms.length ∧ j = .int .i64 i ∧ noneIn (ms[k].syms.take i) s = true) (fun j => ms[k].syms.length - (intOf j).toNat)
      case atStart => exact ⟨0, Nat.zero_le _, rfl, rfl⟩
      case round =>
        obtain ⟨i, hi, rfl, hr2⟩ := hrel
        have Hr2 := Lib.hid hr2; clear hr2
        by_cases hlt2 : i < ms[k].syms.length
        · obtain ⟨b2, o2, rfl, cs⟩ := (Hs.out.below ((Below.refl _ wo).alloc (Nat.le_refl _) (.cells #[.string ms[k].name, .slice da ms[k].data.length dc, .slice sa ms[k].syms.length sc] 40))).at i hlt2
          cases he : (ms[k].syms[i].toList == s.toList) with
          | true =>
            have HE := Lib.hid (findAt_hit ms s k i hlt Hr.out hlt2 he)
            go_wp2_with fail
            go_ret2
            exact ⟨ret_pair (by rw [HE.out]; rfl) (by rw [HE.out]; rfl), Hb.out.alloc hz _⟩
          | false =>
            have Hs2 := Lib.hid (noneIn_step _ s i hlt2 Hr2.out he)
            go_wp2_with fail
            go_round
            case rel => exact ⟨i + 1, by omega, by go_num, Hs2.out⟩
            case measure => simp [intOf]; omega
        · have Hs2 := Lib.hid (noneOf_step ms s k hlt Hr.out (noneIn_end _ s i hi hlt2 Hr2.out))
          go_wp2_with fail
          go_roundw
          case rel => exact ⟨k + 1, by omega, by go_num, Hs2.out, Hb.out.alloc hz _⟩
          case measure => simp [intOf]; omega
    · have HE := Lib.hid (findAt_end ms s k hk hlt Hr.out)
      go_wp2_with fail
      go_ret2
      exact ⟨ret_pair (by rw [HE.out]; rfl) (by rw [HE.out]; rfl), Hb.out⟩

set_option maxHeartbeats 1000000 in
theorem ref_Find (v : Value) (ms : List Mem) (s : ByteArray) (w : World) (hv : RdM w v ms) (hf : Fit ms) :
    Calls Tryz.prog 12 #[v, .string s] w fun e w' => e = .returned (.tuple #[.int .i64 ((findAt ms s).1 : Nat), .bool (findAt ms s).2]) ∧ w = w' := by
  have hv' := hv
  obtain ⟨a, c, rfl, hc1, hc2, -⟩ := hv'
  have Hv := Lib.hid hv; clear hv
  have hl := hf.len
  have Hf := Lib.hid hf; clear hf
  go_enter Tryz.func12, Tryz.ntmps12
  go_wp2_with fail
  go_loop [6, 7] (fun i _ => ∃ k : Nat, k ≤ ms.length ∧ i = .int .i64 k ∧ noneOf (ms.take k) s = true) (fun i _ => ms.length - (intOf i).toNat)
  case atStart => exact ⟨0, Nat.zero_le _, rfl, rfl⟩
  case round =>
    obtain ⟨k, hk, rfl, hr⟩ := hrel
    have Hr := Lib.hid hr; clear hr
    by_cases hlt : k < ms.length
    · obtain ⟨b, o, da, dc, sa, sc, rfl, c0, c1, c2, hd, hs⟩ := Hv.out.at k hlt
      clear hd
      have Hs := Lib.hid hs; clear hs
      obtain ⟨f1, f2, f3, f4⟩ := Hf.out.each k hlt
      clear f4
      go_wp2_with fail
      go_loop [7] (fun j => ∃ i : Nat, i ≤ ms[k].syms.length ∧ j = .int .i64 i ∧ noneIn (ms[k].syms.take i) s = true) (fun j => ms[k].syms.length - (intOf j).toNat)
      case atStart => exact ⟨0, Nat.zero_le _, rfl, rfl⟩
      case round =>
        obtain ⟨i, hi, rfl, hr2⟩ := hrel
        have Hr2 := Lib.hid hr2; clear hr2
        by_cases hlt2 : i < ms[k].syms.length
        · obtain ⟨b2, o2, rfl, cs⟩ := Hs.out.at i hlt2
          cases he : (ms[k].syms[i].toList == s.toList) with
          | true =>
            have HE := Lib.hid (findAt_hit ms s k i hlt Hr.out hlt2 he)
            go_wp2_with fail
            go_ret2
            exact ⟨ret_pair (by rw [HE.out]; rfl) (by rw [HE.out]; rfl), rfl⟩
          | false =>
            have Hs2 := Lib.hid (noneIn_step _ s i hlt2 Hr2.out he)
            go_wp2_with fail
            go_round
            case rel => exact ⟨i + 1, by omega, by go_num, Hs2.out⟩
            case measure => simp [intOf]; omega
        · have Hs2 := Lib.hid (noneOf_step ms s k hlt Hr.out (noneIn_end _ s i hi hlt2 Hr2.out))
          go_wp2_with fail
          go_round
          case rel => exact ⟨k + 1, by omega, by go_num, Hs2.out⟩
          case measure => simp [intOf]; omega
    · have HE := Lib.hid (findAt_end ms s k hk hlt Hr.out)
      go_wp2_with fail
      go_ret2
      exact ⟨ret_pair (by rw [HE.out]; rfl) (by rw [HE.out]; rfl), rfl⟩

end Go.Proofs.YtnpfnjkghlgooaaGreatDoor
