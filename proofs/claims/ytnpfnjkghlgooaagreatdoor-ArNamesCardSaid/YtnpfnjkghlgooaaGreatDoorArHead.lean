/-
  The walk of foundrylaw7.head, where a header stands.
  Conditions: lengths below 10^6.
-/
import Derived.Test.YtnpfnjkghlgooaaGreatDoorArNamesP
namespace Go.Proofs.YtnpfnjkghlgooaaGreatDoor
set_option linter.unusedVariables false
set_option linter.unusedSimpArgs false
open Go Go.RowKit

theorem ret_strV {a b : ByteArray} (h : a = b) : Value.string a = .string b := by rw [h]
def wantOf (name : ByteArray) (place : Nat) : List UInt8 := if name.size ≤ 15 then name.data.toList ++ [47] else 47 :: Lib.decDigits place

set_option maxHeartbeats 1000000 in
set_option maxRecDepth 20000 in
theorem law_head (v : Value) (x : List UInt8) (at0 : Nat) (name : ByteArray) (place : Nat) (w : World) (hv : RdB w v x) (hl : x.length ≤ 1000000) (hn : name.size ≤ 200) (hp : place ≤ 1000000) (h : HdAt x at0 (wantOf name place)) :
    Calls Tryz.prog 19 #[v, .int .i64 at0, .string name, .int .i64 place] w fun e w' => e = .returned (.bool true) ∧ Below w.heap.size w w' := by
  obtain ⟨a, c, rfl, hc1, hc2, -⟩ := id hv
  have Hv := Lib.hid hv; clear hv
  have HH := Lib.hid h
  have hroom := h.room
  have hw16 := h.wl
  clear h
  obtain ⟨b, o, rfl, -⟩ := Hv.out.at 0 (by omega)
  go_enter Tryz.func19, Tryz.ntmps19
  go_upto_if 15 with fail
  go_cut [9] (fun sv wx => sv = .string ⟨(wantOf name place).toArray⟩ ∧ Below w.heap.size w wx)
  case first =>
    by_cases h15 : name.size ≤ 15
    · have h15' : ¬ (15 : Int) < name.size := by omega
      have e : wantOf name place = name.data.toList ++ [47] := by unfold wantOf; rw [if_pos h15]
      have E := Lib.hid e; clear e h15
      go_wp2_with fail
      go_meet
      rw [E.out]
      exact ⟨by rw [ba_app_r name [47]], Below.refl _ _⟩
    · have h15' : (15 : Int) < name.size := by omega
      have e : wantOf name place = 47 :: Lib.decDigits place := by unfold wantOf; rw [if_neg h15]
      have E := Lib.hid e; clear e h15
      have hd := dig10 place (by omega)
      go_wp2_with fail
      refine (ref_Digits place _ (by omega) (by omega)).mono ?_
      rintro _ w1 ⟨rfl, hb1⟩
      rw [Int.toNat_natCast]
      have Hb1 := Lib.hid hb1; clear hb1
      go_wp2_with fail
      go_meet
      rw [E.out]
      exact ⟨ret_strV (ba_app [47] _), Hb1.out⟩
  case rest =>
    obtain ⟨rfl, hb⟩ := hcut
    have Hb := Lib.hid hb; clear hb
    generalize wantOf name place = want at *
    have hvx := Hv.out.below Hb.out
    have h58 := HH.out.b58 (by omega)
    have h59 := HH.out.b59 (by omega)
    obtain ⟨b', o', e, c58⟩ := hvx.at (at0 + 58) (by omega)
    cases e
    obtain ⟨b', o', e, c59⟩ := hvx.at (at0 + 59) (by omega)
    cases e
    rw [h58] at c58
    rw [h59] at c59
    have c58' := c58
    rw [← Nat.add_assoc] at c58'
    have c59' := c59
    rw [← Nat.add_assoc] at c59'
    have hp2 := hvx.piece at0 (at0 + want.length) (by omega) (by omega)
    rw [Nat.add_sub_cancel_left, HH.out.beg] at hp2
    have hcv := run_str (P := Tryz.prog) TB.und Tryz.underlying5 Tryz.underlying9 (hp2 (some ⟨b, o + at0, none⟩) want.length (c - at0) (by (intro b o e he; cases e; first | rfl | (simp [Addr.add]; done) | (rw [if_neg (by omega)]; simp [Addr.add]; done) | (simp [Addr.add]; omega))) (by omega) rfl)
    have Hvx := Lib.hid hvx
    clear hp2 hvx h58 h59
    have hne : ¬ c = at0 := by omega
    go_wp2_with fail
    go_loop [10] (fun kv => ∃ k : Nat, want.length ≤ k ∧ k ≤ 16 ∧ kv = .int .i64 k) (fun kv => 16 - (intOf kv).toNat)
    case atStart => exact ⟨want.length, Nat.le_refl _, hw16, rfl⟩
    case round =>
      obtain ⟨k, hk1, hk2, rfl⟩ := hrel
      by_cases hlt : k < 16
      · have h32 := HH.out.sp k (by omega) hk1 hlt
        obtain ⟨b', o', e, c32⟩ := Hvx.out.at (at0 + k) (by omega)
        cases e
        rw [h32] at c32
        have c32' := c32
        rw [← Nat.add_assoc] at c32'
        clear h32
        go_wp2_with fail
        go_round
        case rel => exact ⟨k + 1, by omega, by omega, by go_num⟩
        case measure => simp [intOf]; omega
      · go_wp2_with fail
        go_ret
        exact ⟨rfl, Hb.out⟩

end Go.Proofs.YtnpfnjkghlgooaaGreatDoor
