/-
  The walks of foundrylaw7.begun and ArWrites.
  Conditions: members that memory can bear.
-/
import Derived.Test.YtnpfnjkghlgooaaGreatDoorArRead
namespace Go.Proofs.YtnpfnjkghlgooaaGreatDoor
set_option linter.unusedVariables false
set_option linter.unusedSimpArgs false
open Go Go.RowKit

theorem bodyTo_len2 (b : List UInt8) (ms : List Mem) (h : Lim ms) : ∀ k, k ≤ ms.length → (bodyTo b ms k).length ≤ b.length + 61 * k + weight (ms.take k)
  | 0, _ => by simp [bodyTo]
  | k + 1, hk => by
    have ih := bodyTo_len2 b ms h k (by omega)
    have h1 := (h.each k (by omega)).2.1
    have h2 := nmAt_le16 ms h k (by omega)
    have h3 := weight_take ms k (by omega)
    rw [← mAt_lt ms k (by omega)] at h3
    rw [bodyTo, putRec_length _ _ _ (by omega), h3]
    omega
theorem nsyms_weight (ms : List Mem) : 100 * nsyms ms ≤ weight ms := by
  unfold nsyms weight
  induction ms with
  | nil => simp
  | cons m ms ih => simp only [List.map_cons, List.sum_cons]; omega
/-- A light row's archive is short. -/
theorem light_len {ms : List Mem} (h : Lim ms) (hw : weight ms ≤ 16384) : (arBytes ms).length ≤ 60000 := by
  have h1 := bodyTo_len2 (front ms (pls ms)) ms h ms.length (Nat.le_refl _)
  have h2 := front_le ms (pls ms) h
  have h3 := nsyms_weight ms
  have h4 := h.len
  rw [List.take_length] at h1
  show (bodyTo (front ms (pls ms)) ms ms.length).length ≤ 60000
  omega
theorem light_nsy {ms : List Mem} (hw : weight ms ≤ 16384) : nsyms ms ≤ 1000000 := by
  have := nsyms_weight ms; omega
theorem light_is {ms : List Mem} (hw : weight ms ≤ 16384) (h : (arWrite ms).2 = 0) : Is ms (arWrite ms).1 ∧ (arWrite ms).1.length ≤ 60000 := by
  have hf : faultOf ms = 0 := by
    unfold arWrite at h
    by_cases h1 : faultOf ms = 0
    · exact h1
    · rw [if_neg h1] at h; exact h
  have hl := lim_of hf (light_nsy hw)
  have h2 := light_len hl hw
  have e : arWrite ms = (arBytes ms, 0) := by
    unfold arWrite
    rw [if_pos hf, if_neg (by omega)]
  rw [e]
  exact ⟨⟨hf, rfl⟩, h2⟩

/-- The one member of 'begun'. -/
def ms0 : List Mem := [⟨⟨#[97]⟩, [120], [⟨#[102]⟩]⟩]
theorem ms0_fault : faultOf ms0 = 0 := by decide
theorem ms0_weight : weight ms0 ≤ 16384 := by decide
theorem ms0_lim : Lim ms0 := lim_of ms0_fault (light_nsy ms0_weight)
theorem ms0_write : (arWrite ms0).2 = 0 := by
  have := light_len ms0_lim ms0_weight
  unfold arWrite
  rw [if_pos ms0_fault, if_neg (by omega)]
theorem magic_file1 (R : RawR) : ∃ r, fileOf R = magic ++ r := by
  obtain ⟨r, hr⟩ := fileTo_pre R 0 R.length (Nat.zero_le _)
  exact ⟨r, hr⟩
theorem is_magic1 {ms : List Mem} {b : List UInt8} (h : Is ms b) (hb : b.length ≤ 1000000) : 8 ≤ b.length ∧ b.take 8 = magic := by
  obtain ⟨h1, h2⟩ := is_ok h hb
  obtain ⟨r, hr⟩ := magic_file1 (rawsOf ms)
  rw [h2, hr]
  refine ⟨by simp [magic], ?_⟩
  exact List.take_left' rfl
theorem ms0_fit : Fit ms0 := by
  refine ⟨by decide, fun i hi => ?_⟩
  have : i = 0 := by simp [ms0] at hi; omega
  subst this
  refine ⟨by show (1 : Nat) ≤ _; decide, by show (1 : Nat) ≤ _; decide, by show (1 : Nat) ≤ _; decide, fun j hj => ?_⟩
  have : j = 0 := by simp [ms0] at hj; omega
  subst this
  show (1 : Nat) ≤ _
  decide
theorem ms0_find : findAt ms0 ⟨#[102]⟩ = (0, true) := findAt_hit ms0 ⟨#[102]⟩ 0 0 (by decide) rfl (by decide) (by show (_ == _) = true; exact beq_self_eq_true _)
theorem rd_lit (w : World) (l : List UInt8) (fr : Nat × Nat) (hl : l.length ≤ maxLen) : RdB (w.alloc (.cells (l.map BV).toArray 5 fr)) (.slice (some ⟨w.heap.size, 0, none⟩) l.length l.length) l :=
  ⟨_, _, rfl, Nat.le_refl _, hl, fun j u hj => ⟨_, _, rfl, by rw [cell_at (heap_alloc_new w _), Nat.zero_add]; simpa using hj⟩⟩
theorem ms0_rd (w : World) : RdM (((w.alloc (.cells #[.int .u8 120] 5 (1, 2))).alloc (.cells #[.string ⟨#[102]⟩] 9)).alloc (.cells #[.string ⟨#[97]⟩, .slice (some ⟨w.heap.size, 0, none⟩) 1 1, .slice (some ⟨w.heap.size + 1, 0, none⟩) 1 1] 40)) (.slice (some ⟨w.heap.size + 1 + 1, 0, none⟩) 1 1) ms0 := by
  refine ⟨_, 1, rfl, Nat.le_refl _, by decide, fun i m hi => ?_⟩
  have hi0 : i = 0 := by
    have := (List.getElem?_eq_some_iff.1 hi).1
    simp [ms0] at this; omega
  subst hi0
  have hm : m = ⟨⟨#[97]⟩, [120], [⟨#[102]⟩]⟩ := (Option.some.inj hi).symm
  subst hm
  refine ⟨_, _, _, _, rfl, by simp [go_sem], by simp [go_sem]; rfl, by simp [go_sem]; rfl, ⟨_, 1, rfl, Nat.le_refl _, by decide, fun j u hj => ?_⟩, ⟨_, 1, rfl, Nat.le_refl _, by decide, fun j u hj => ?_⟩⟩
  · match j, hj with
    | 0, hj =>
      simp [BV] at hj; subst hj
      refine ⟨_, _, rfl, ?_⟩
      have e := rd_lit w [120] (1, 2) (by decide)
      obtain ⟨b', o', h1, h2⟩ := e.at 0 (by decide)
      cases h1
      have h3 := bel_cell (bel_alloc (bel_alloc (Below.refl _ _) (.cells #[.string ⟨#[102]⟩] 9)) (.cells #[.string ⟨#[97]⟩, .slice (some ⟨w.heap.size, 0, none⟩) 1 1, .slice (some ⟨w.heap.size + 1, 0, none⟩) 1 1] 40)) h2
      exact h3
  · match j, hj with
    | 0, hj => simp at hj; subst hj; exact ⟨_, _, rfl, by simp [go_sem]⟩

set_option maxHeartbeats 2000000 in
set_option maxRecDepth 20000 in
theorem law_begun (w : World) (hG : GlobE w) :
    Calls Tryz.prog 7 #[] w fun e w' => e = .returned (.bool true) ∧ Below w.heap.size w w' := by
  have HG := Lib.hid hG; clear hG
  have kc := fun (w : World) (C : Array Value) (n c : Nat) => Lib.run_convert_bytes_const (P := Tryz.prog) w 25 5 C n c Tryz.underlying25 Tryz.underlying5
  go_enter Tryz.func7, Tryz.ntmps7
  go_wp2_with fail
  have hrd := ms0_rd w
  obtain ⟨W, hW⟩ : ∃ W, W = ((w.alloc (.cells #[.int .u8 120] 5 (1, 2))).alloc (.cells #[.string ⟨#[102]⟩] 9)).alloc (.cells #[.string ⟨#[97]⟩, .slice (some ⟨w.heap.size, 0, none⟩) 1 1, .slice (some ⟨w.heap.size + 1, 0, none⟩) 1 1] 40) := ⟨_, rfl⟩
  have hb : Below w.heap.size w W := by rw [hW]; exact ((((Below.refl _ w).alloc (Nat.le_refl _) _).alloc (by simp) _).alloc (by simp; omega) _)
  rw [← hW] at hrd ⊢
  clear hW
  have Hb := Lib.hid hb; clear hb
  have h0 := ms0_write
  obtain ⟨hi, hln⟩ := light_is ms0_weight h0
  refine (ar_Write _ ms0 W hrd ms0_fit (light_nsy ms0_weight) (HG.out.below Hb.out).glob).mono ?_
  rintro _ w1 ⟨bv, rfl, hbv, hb1⟩
  rw [h0]
  have hrb := OwnL.rdB hbv
  clear hrd hbv
  generalize (arWrite ms0).1 = l1 at *
  obtain ⟨ba, bc, rfl, -, -, -⟩ := id hrb
  have Hb1 := Lib.hid (bel_trans Hb.out hb1); clear hb1
  have Hrb := Lib.hid hrb; clear hrb
  have Hi := Lib.hid hi; clear hi
  clear h0
  go_wp2_with fail
  refine (ar_Read _ l1 w1 Hrb.out hln (HG.out.below Hb1.out)).mono ?_
  rintro _ w2 ⟨h2, hb2⟩
  have Hb2 := Lib.hid (bel_trans Hb1.out hb2); clear hb2
  rcases h2 with ⟨rfl, h3⟩ | ⟨v2, ms, xs, rfl, hr2, ho2, -, -, h6⟩
  · exact (h3 _ Hi.out).elim
  · have := h6 _ Hi.out
    subst this
    have hrm := hr2.rdM
    obtain ⟨sa, sc, rfl, -, -, -⟩ := id hrm
    obtain ⟨b0, o0, da, dc, sa0, sc0, rfl, c0, -, -, -, -⟩ := hrm.at 0 (by decide)
    have Hrm := Lib.hid hrm; clear hrm hr2 h6 ho2
    simp only [Nat.zero_mul, Nat.add_zero] at c0
    rw [show (ms0[0]'(by decide)).name = ⟨#[97]⟩ from rfl] at c0
    rw [show ms0.length = 1 from rfl] at Hrm ⊢
    go_wp2_with fail
    refine (ar_Find _ ms0 ⟨#[102]⟩ w2 Hrm.out ms0_fit).mono ?_
    rintro _ w3 ⟨rfl, hb3⟩
    rw [ms0_find]
    have c3 := bel_cell hb3 c0
    have Hb3 := Lib.hid (bel_trans Hb2.out hb3); clear hb3 c0
    go_wp2_with fail
    have hr7 := rd_lit w3 [33, 60, 97, 114, 99, 104, 62] (7, 8) (by decide)
    have hb7 := Below.alloc (Below.refl w3.heap.size w3) (Nat.le_refl _) (.cells ([33, 60, 97, 114, 99, 104, 62].map BV).toArray 5 (7, 8))
    have c7 := bel_cell hb7 c3
    refine (ar_Read _ [33, 60, 97, 114, 99, 104, 62] _ hr7 (by decide) ((HG.out.below Hb3.out).below hb7)).mono ?_
    rintro _ w4 ⟨h4, hb4⟩
    have Hb4 := Lib.hid (bel_trans (bel_trans Hb3.out hb7) hb4)
    rcases h4 with ⟨rfl, -⟩ | ⟨v4, ms4, xs4, rfl, -, -, -, h5, -⟩
    · have c8 := bel_cell hb4 c7
      clear hr7 hb7 hb4 c7 c3
      go_wp2_with fail
      go_ret
      exact ⟨rfl, Hb4.out⟩
    · have := (is_magic1 h5 (by decide)).1
      simp at this

end Go.Proofs.YtnpfnjkghlgooaaGreatDoor
