/-
  The walk of ar.Read: bytes are read as the members that write them, or refused.
  Conditions: lengths up to 60000.
-/
import Derived.Test.YtnpfnjkghlgooaaGreatDoorArCatch
namespace Go.Proofs.YtnpfnjkghlgooaaGreatDoor
set_option linter.unusedVariables false
set_option linter.unusedSimpArgs false
open Go Go.RowKit

theorem is_write (ms : List Mem) (b : List UInt8) (hb : b.length ≤ 4194304) : Is ms b ↔ ((arWrite ms).2 = 0 ∧ (arWrite ms).1 = b) := by
  unfold Is arWrite
  by_cases h : faultOf ms = 0
  · rw [if_pos h]
    by_cases h2 : 4194304 < (arBytes ms).length
    · rw [if_pos h2]
      constructor
      · rintro ⟨_, rfl⟩; omega
      · rintro ⟨h3, _⟩; cases h3
    · rw [if_neg h2]
      exact ⟨fun h3 => ⟨rfl, h3.2⟩, fun h3 => ⟨h, h3.2⟩⟩
  · rw [if_neg h]
    exact ⟨fun h3 => (h h3.1).elim, fun h3 => (h h3.1).elim⟩

theorem bel_set {B : Nat} {w a : World} (h : Below B w a) {g i : Nat} {u : Value} (hg : B ≤ g) : Below B w (a.setCell ⟨g, i, none⟩ u) := by
  refine ⟨h.os, h.tape, h.output, Nat.le_trans h.size (by simp), fun k hk => ?_⟩
  rw [Below.heap_setCell _ _ _ _ (by show k ≠ g; omega)]
  exact h.block k hk
theorem lib_bEqual (v : Value) (l : List UInt8) (v2 : Value) (l2 : List UInt8) (w : World) (h : RdB w v l) (h2 : RdB w v2 l2) :
    Calls Tryz.prog 31 #[v, v2] w fun e w' => e = .returned (.bool (l == l2)) ∧ w = w' := by
  obtain ⟨a, c, rfl, hc, _, _⟩ := id h
  obtain ⟨a2, c2, rfl, _, _, _⟩ := id h2
  have := Tryz.bytes_Equal_all a a2 l.length c l2.length c2 _ _ w (by simp) (by simp) h.bytesIn h2.bytesIn
  rw [bytesOf_toNat, bytesOf_toNat] at this
  exact this.mono fun _ _ h => ⟨h.1, h.2.symm⟩

/-- A store into an older block leaves the rows as they are. -/
theorem OwnD.old {S : Nat → Prop} {w w' : World} {B : Nat} {v : Value} {xs : List Value} (h : OwnD w B v xs) (hf : Fr S w w') (hS : ∀ k, S k → k < B) : OwnD w' B v xs :=
  ⟨fun i vd hi => by obtain ⟨l, h1⟩ := h.own i vd hi; exact ⟨l, h1.fr hf fun k hk hs => by have := hS k hs; have := (h1.lt k hk).1; omega⟩,
   fun i vd hi => by obtain ⟨l, h1⟩ := h.ownS i vd hi; exact ⟨l, h1.fr hf fun k hk hs => by have := hS k hs; have := (h1.lt k hk).1; omega⟩, h.sepv, h.sepS, h.sep⟩
theorem MemCells.old {S : Nat → Prop} {w w' : World} {B : Nat} {v : Value} {ms : List Mem} {xs : List Value} (h : MemCells w ms xs) (ho : OwnD w B v xs) (hf : Fr S w w') (hS : ∀ k, S k → k < B) : MemCells w' ms xs := by
  refine ⟨h.1, fun i m hi => ?_⟩
  obtain ⟨g1, vd, vs, g2, g3, g4, g5⟩ := h.2 i m hi
  refine ⟨g1, vd, vs, g2, g3, g4.fr hf fun a n c e hs => ?_, g5.fr hf fun a n c e hs => ?_⟩
  · subst e
    obtain ⟨l, h1⟩ := ho.own i _ g2
    have := (h1.lt a.block rfl).1
    have := hS _ hs; omega
  · subst e
    obtain ⟨l, h1⟩ := ho.ownS i _ g3
    have := (h1.lt a.block rfl).1
    have := hS _ hs; omega

/-- Members that were read: a row of its own, all that it holds in rows of their own. -/
structure Read1 (w : World) (B : Nat) (v : Value) (ms : List Mem) (xs : List Value) : Prop where
  own : Own w B 40 3 v ms.length xs
  mem : MemCells w ms xs
  dat : OwnD w B v xs
theorem Read1.old {S : Nat → Prop} {w w' : World} {B : Nat} {v : Value} {ms : List Mem} {xs : List Value} (h : Read1 w B v ms xs) (hf : Fr S w w') (hS : ∀ k, S k → k < B) : Read1 w' B v ms xs :=
  ⟨h.own.fr hf fun k hk hs => by have := hS k hs; have := (h.own.lt k hk).1; omega, h.mem.old h.dat hf hS, h.dat.old hf hS⟩
theorem Read1.below {w w' : World} {B : Nat} {v : Value} {ms : List Mem} {xs : List Value} (h : Read1 w B v ms xs) (hb : Below w.heap.size w w') : Read1 w' B v ms xs :=
  ⟨h.own.below hb, h.mem.below hb, h.dat.below hb⟩
theorem Read1.mono {w : World} {B B' : Nat} {v : Value} {ms : List Mem} {xs : List Value} (h : Read1 w B v ms xs) (hB : B' ≤ B) : Read1 w B' v ms xs := ⟨h.own.mono hB, h.mem, h.dat.mono hB⟩
theorem Read1.rdM {w : World} {B : Nat} {v : Value} {ms : List Mem} {xs : List Value} (h : Read1 w B v ms xs) : RdM w v ms := h.mem.rdM h.own

set_option maxHeartbeats 2000000 in
set_option maxRecDepth 20000 in
theorem ar_Read (v : Value) (b : List UInt8) (w : World) (hv : RdB w v b) (hl : b.length ≤ 60000) (hG : GlobE w) :
    Calls Tryz.prog 15 #[v] w fun e w' => ((e = .returned (.tuple #[.slice none 0 0, .int .i64 4]) ∧ ∀ ms, ¬ Is ms b) ∨ (∃ v' ms xs, e = .returned (.tuple #[v', .int .i64 0]) ∧ Read1 w' w.heap.size v' ms xs ∧ Outs b.length ms ∧ ms.length ≤ 64 ∧ Is ms b ∧ ∀ ms', Is ms' b → ms = ms')) ∧ Below w.heap.size w w' := by
  obtain ⟨a, c, rfl, hc1, hc2, -⟩ := id hv
  have Hv := Lib.hid hv; clear hv
  have HG := Lib.hid hG; clear hG
  have hmf : ∀ (fn : Fn) (first cap : Array Value) (w : World), (Instr.makeFunc fn first cap).run Tryz.prog w = .ok (.func fn first cap) w := fun _ _ _ _ => rfl
  go_enter_defers Tryz.func15, Tryz.ntmps15
  go_wp2_with fail
  obtain ⟨W2, hW2⟩ : ∃ W2, W2 = (w.alloc (.cells #[.slice none 0 0] 22)).alloc (.cells #[.int .i64 0] 26) := ⟨_, rfl⟩
  rw [← hW2]
  have hb2 : Below w.heap.size w W2 := by rw [hW2]; exact bel_alloc (bel_alloc (Below.refl _ w) _) _
  have hz2 : W2.heap.size = w.heap.size + 2 := by rw [hW2, World.size_alloc, World.size_alloc]
  have kl : W2.cell? ⟨w.heap.size, 0, none⟩ = some (.slice none 0 0) := by rw [hW2]; simp [go_sem]
  have ke : W2.cell? ⟨w.heap.size + 1, 0, none⟩ = some (.int .i64 0) := by rw [hW2]; simp [go_sem]
  have fl : W2.frozen? ⟨w.heap.size, 0, none⟩ = false := by rw [hW2]; simp [go_sem]
  have fe : W2.frozen? ⟨w.heap.size + 1, 0, none⟩ = false := by rw [hW2]; simp [go_sem]
  clear hW2
  have Hb2 := Lib.hid hb2; clear hb2
  refine (ar_members _ b W2 (Hv.out.below Hb2.out) hl (HG.out.below Hb2.out)).mono ?_
  rintro _ w3 ⟨h3, hb3⟩
  have kl3 := bel_cell hb3 kl
  have ke3 := bel_cell hb3 ke
  have fl3 := bel_frozen hb3 kl fl
  have fe3 := bel_frozen hb3 ke fe
  have hz3 := hb3.size
  have Hb3 := Lib.hid (bel_trans Hb2.out hb3); clear hb3
  clear kl ke fl fe
  rcases h3 with ⟨rfl, h4⟩ | ⟨v', os, xs, rfl, ho, hm, hd, hou, h64, hms⟩
  · go_wp2_with fail
    refine leaves_cons (f := 28) (args := #[.pointer (some ⟨w.heap.size, 0, none⟩), .pointer (some ⟨w.heap.size + 1, 0, none⟩)]) (by simp) (by simp [go_sem]) ?_
    refine (catch_fault w.heap.size (w.heap.size + 1) w3 _ _ kl3 ke3 fl3 fe3 (by omega) (by omega)).mono ?_
    rintro e u' w'' ⟨rfl, rfl, rfl⟩
    have k1 := bel_cell (bel_alloc (Below.refl _ w3) (.cells #[] 56)) kl3
    have k2 := bel_cell (bel_alloc (Below.refl _ w3) (.cells #[] 56)) ke3
    simp [Leaves, settle, results, Tryz.results15, go_sem, k1, k2]
    exact ⟨h4, bel_set (bel_set (bel_alloc Hb3.out _) (Nat.le_refl _)) (Nat.le_succ _)⟩
  · obtain ⟨sa, sc, rfl, -, -, -⟩ := ho.cells
    have HR := Lib.hid (show Read1 w3 W2.heap.size _ os xs from ⟨ho, hm, hd⟩)
    clear ho hm hd
    have hln := hou.nsy
    have hfit := hou.fit (by omega) (by omega)
    have hns : nsyms os ≤ 1000000 := by
      have : b.length * os.length ≤ 60000 * 64 := Nat.mul_le_mul hl h64
      omega
    have HF := Lib.hid hfit; clear hfit hln
    have HO := Lib.hid hou; clear hou
    have Hms := Lib.hid hms; clear hms
    go_upto_region 5 with (fail)
    have hst : Fr (fun k => k = w.heap.size) w3 (w3.setCell ⟨w.heap.size, 0, none⟩ (.slice sa os.length sc)) := Fr.of_grown (grown_setCell w3 w.heap.size 0 _) (fun k h => by cases h; rfl)
    obtain ⟨W3, hW3⟩ : ∃ W3, W3 = w3.setCell ⟨w.heap.size, 0, none⟩ (.slice sa os.length sc) := ⟨_, rfl⟩
    rw [← hW3] at hst ⊢
    have kl4 : W3.cell? ⟨w.heap.size, 0, none⟩ = some (.slice sa os.length sc) := by rw [hW3]; simp [go_sem, kl3]
    have ke4 : W3.cell? ⟨w.heap.size + 1, 0, none⟩ = some (.int .i64 0) := by rw [hW3]; simp [go_sem, ke3]
    have fl4 : W3.frozen? ⟨w.heap.size, 0, none⟩ = false := by rw [hW3]; simp [go_sem, fl3]
    have fe4 : W3.frozen? ⟨w.heap.size + 1, 0, none⟩ = false := by rw [hW3]; simp [go_sem, fe3]
    have HR4 := Lib.hid (HR.out.old hst (fun k hk => by omega))
    have Hb4 := Lib.hid (below_fr Hb3.out hst (by have := Hb3.out.size; omega) (fun i _ h => by omega))
    have hz4 := hst.size
    clear hW3 hst kl3 ke3 fl3 fe3
    go_wp2_with fail
    refine (ar_Write _ os W3 HR4.out.rdM HF.out hns (HG.out.below Hb4.out).glob).mono ?_
    rintro _ w5 ⟨bv, rfl, hbv, hb5⟩
    have kl5 := bel_cell hb5 kl4
    have ke5 := bel_cell hb5 ke4
    have fl5 := bel_frozen hb5 kl4 fl4
    have fe5 := bel_frozen hb5 ke4 fe4
    have HR5 := Lib.hid (HR4.out.below hb5)
    have Hb5 := Lib.hid (bel_trans Hb4.out hb5)
    have hz5 := hb5.size
    clear kl4 ke4 fl4 fe4 hb5
    have hrb := OwnL.rdB hbv
    obtain ⟨ba, bc, rfl, -, -, -⟩ := hbv.cells
    rw [List.length_map] at hrb ⊢
    clear hbv
    have HrB := Lib.hid hrb; clear hrb
    have hiw := is_write os b (by omega)
    have HI := Lib.hid hiw; clear hiw
    have HNo := Lib.hid (show ¬ Is os b → ∀ ms, ¬ Is ms b from fun h ms h2 => h (by rw [Hms.out ms h2]; exact h2))
    generalize (arWrite os).2 = E at *
    generalize (arWrite os).1 = l5 at *
    by_cases hE : E = 0
    · subst hE
      go_wp2_with fail
      refine (lib_bEqual _ l5 _ b _ HrB.out (Hv.out.below Hb5.out)).mono ?_
      rintro _ _ ⟨rfl, rfl⟩
      cases heq : (l5 == b) with
      | false =>
        have HN := Lib.hid (HNo.out fun h => by rw [(HI.out.1 h).2] at heq; simp at heq)
        clear heq
        go_wp2_with fail
        refine (ar_must_no _).mono ?_
        rintro _ _ ⟨rfl, rfl⟩
        go_wp2_with fail
        refine leaves_cons (f := 28) (args := #[.pointer (some ⟨w.heap.size, 0, none⟩), .pointer (some ⟨w.heap.size + 1, 0, none⟩)]) (by simp) (by simp [go_sem]) ?_
        refine (catch_fault w.heap.size (w.heap.size + 1) w5 _ _ kl5 ke5 fl5 fe5 (by omega) (by omega)).mono ?_
        rintro e u' w'' ⟨rfl, rfl, rfl⟩
        have k1 := bel_cell (bel_alloc (Below.refl _ w5) (.cells #[] 56)) kl5
        have k2 := bel_cell (bel_alloc (Below.refl _ w5) (.cells #[] 56)) ke5
        simp [Leaves, settle, results, Tryz.results15, go_sem, k1, k2]
        refine ⟨HN.out, bel_set (bel_set (bel_alloc Hb5.out _) (Nat.le_refl _)) (Nat.le_succ _)⟩
      | true =>
        have HY := Lib.hid (HI.out.2 ⟨by first | rfl | trivial, by simpa using heq⟩)
        clear heq
        go_wp2_with fail
        refine (ar_must_ok _).mono ?_
        rintro _ _ ⟨rfl, rfl⟩
        have hf6 : Fr (fun k => k = w.heap.size ∨ k = w.heap.size + 1) w5 ((w5.setCell ⟨w.heap.size, 0, none⟩ (.slice sa os.length sc)).setCell ⟨w.heap.size + 1, 0, none⟩ (.int .i64 0)) :=
          (Fr.of_grown (S := fun k => k = w.heap.size ∨ k = w.heap.size + 1) (grown_setCell w5 w.heap.size 0 _) (fun k h => by cases h; exact .inl rfl)).trans (Fr.of_grown (S := fun k => k = w.heap.size + 1) (grown_setCell _ (w.heap.size + 1) 0 _) (fun k h => by cases h; rfl)) (fun i _ h => .inr h)
        have HR6 := Lib.hid (HR5.out.old hf6 (fun k hk => by omega))
        clear hf6
        go_wp2_with fail
        refine leaves_cons (f := 28) (args := #[.pointer (some ⟨w.heap.size, 0, none⟩), .pointer (some ⟨w.heap.size + 1, 0, none⟩)]) (by simp) (by simp [go_sem]) ?_
        refine (catch_idle w.heap.size (w.heap.size + 1) _).mono ?_
        rintro e u' w'' ⟨rfl, rfl, rfl⟩
        simp [Leaves, settle, results, Tryz.results15, go_sem, kl5, ke5]
        refine ⟨⟨os, ⟨xs, HR6.out.mono (by omega)⟩, HO.out, h64, HY.out, Hms.out⟩, bel_set (bel_set Hb5.out (Nat.le_refl _)) (Nat.le_succ _)⟩
    · have hE' : (E == 0) = false := by rw [beq_eq_false_iff_ne]; exact hE
      have HN := Lib.hid (HNo.out fun h => hE (HI.out.1 h).1)
      clear hE
      go_wp2_with fail
      refine (ar_must_no _).mono ?_
      rintro _ _ ⟨rfl, rfl⟩
      go_wp2_with fail
      refine leaves_cons (f := 28) (args := #[.pointer (some ⟨w.heap.size, 0, none⟩), .pointer (some ⟨w.heap.size + 1, 0, none⟩)]) (by simp) (by simp [go_sem]) ?_
      refine (catch_fault w.heap.size (w.heap.size + 1) w5 _ _ kl5 ke5 fl5 fe5 (by omega) (by omega)).mono ?_
      rintro e u' w'' ⟨rfl, rfl, rfl⟩
      have k1 := bel_cell (bel_alloc (Below.refl _ w5) (.cells #[] 56)) kl5
      have k2 := bel_cell (bel_alloc (Below.refl _ w5) (.cells #[] 56)) ke5
      simp [Leaves, settle, results, Tryz.results15, go_sem, k1, k2]
      refine ⟨HN.out, bel_set (bel_set (bel_alloc Hb5.out _) (Nat.le_refl _)) (Nat.le_succ _)⟩

end Go.Proofs.YtnpfnjkghlgooaaGreatDoor
