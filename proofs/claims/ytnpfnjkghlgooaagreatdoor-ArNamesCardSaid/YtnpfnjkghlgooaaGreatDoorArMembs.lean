/-
  The walk of ar.members.
  Conditions: lengths up to 60000.
-/
import Derived.Test.YtnpfnjkghlgooaaGreatDoorArRecV
namespace Go.Proofs.YtnpfnjkghlgooaaGreatDoor
set_option linter.unusedVariables false
set_option linter.unusedSimpArgs false
open Go Go.RowKit

/-- Each member's bytes are a row of its own, and so are its names. -/
structure OwnD (w : World) (B : Nat) (v : Value) (xs : List Value) : Prop where
  own : ∀ (i : Nat) (vd : Value), xs[3 * i + 1]? = some vd → ∃ l : List UInt8, OwnL w B 5 vd (l.map BV)
  ownS : ∀ (i : Nat) (vs : Value), xs[3 * i + 2]? = some vs → ∃ l : List ByteArray, OwnL w B 9 vs (l.map Value.string)
  sepv : ∀ (i : Nat) (vd : Value), xs[3 * i + 1]? = some vd → Sep vd v
  sepS : ∀ (i : Nat) (vs : Value), xs[3 * i + 2]? = some vs → Sep vs v
  sep : ∀ (i j : Nat) (vd vd' : Value), xs[3 * i + 1]? = some vd → xs[3 * j + 1]? = some vd' → i ≠ j → Sep vd vd'
theorem OwnD.nil (w : World) (B : Nat) (v : Value) : OwnD w B v [] := ⟨fun i vd h => by simp at h, fun i vd h => by simp at h, fun i vd h => by simp at h, fun i vd h => by simp at h, fun i j vd vd' h => by simp at h⟩
theorem OwnD.below {w w' : World} {B : Nat} {v : Value} {xs : List Value} (h : OwnD w B v xs) (hb : Below w.heap.size w w') : OwnD w' B v xs :=
  ⟨fun i vd hi => by obtain ⟨l, h1⟩ := h.own i vd hi; exact ⟨l, h1.below hb⟩, fun i vd hi => by obtain ⟨l, h1⟩ := h.ownS i vd hi; exact ⟨l, h1.below hb⟩, h.sepv, h.sepS, h.sep⟩
theorem OwnD.mono {w : World} {B B' : Nat} {v : Value} {xs : List Value} (h : OwnD w B v xs) (hB : B' ≤ B) : OwnD w B' v xs :=
  ⟨fun i vd hi => by obtain ⟨l, h1⟩ := h.own i vd hi; exact ⟨l, h1.mono hB⟩, fun i vd hi => by obtain ⟨l, h1⟩ := h.ownS i vd hi; exact ⟨l, h1.mono hB⟩, h.sepv, h.sepS, h.sep⟩
/-- The row of members grows: one more at its end. -/
theorem OwnD.snoc {w w' : World} {B n : Nat} {e : TypeId} {v v' : Value} {ys xs : List Value} (h : OwnD w B v xs) (hv : Own w B e 3 v n ys) (hx : xs.length = 3 * n) (u1 u2 u3 : Value) (l : List UInt8) (ls : List ByteArray) (hd : OwnL w B 5 u2 (l.map BV)) (hs : OwnL w B 9 u3 (ls.map Value.string))
    (hnew : ∀ k, u2.ownBlock = some k → (∀ (i : Nat) (vd : Value), xs[3 * i + 1]? = some vd → vd.ownBlock ≠ some k) ∧ v.ownBlock ≠ some k) (hnewS : ∀ k, u3.ownBlock = some k → v.ownBlock ≠ some k)
    (hg : w.grownBy w' v.ownBlock) (hk : ∀ k, v'.ownBlock = some k → v.ownBlock = some k ∨ w.heap.size ≤ k) : OwnD w' B v' (xs ++ [u1, u2, u3]) := by
  have hcase : ∀ (d i : Nat) (vd : Value), d < 3 → (xs ++ [u1, u2, u3])[3 * i + d]? = some vd → (xs[3 * i + d]? = some vd ∧ i < n) ∨ ([u1, u2, u3][d]? = some vd ∧ i = n) := by
    intro d i vd hd3 hi
    rcases Nat.lt_or_ge i n with h1 | h1
    · rw [List.getElem?_append_left (by omega)] at hi
      exact .inl ⟨hi, h1⟩
    · rw [List.getElem?_append_right (by omega)] at hi
      rcases Nat.lt_or_ge n i with h2 | h2
      · have := (List.getElem?_eq_some_iff.1 hi).1
        simp at this; omega
      · have e1 : i = n := by omega
        subst e1
        rw [show 3 * i + d - xs.length = d by omega] at hi
        exact .inr ⟨hi, rfl⟩
  have hc1 : ∀ (i : Nat) (vd : Value), (xs ++ [u1, u2, u3])[3 * i + 1]? = some vd → (xs[3 * i + 1]? = some vd ∧ i < n) ∨ (vd = u2 ∧ i = n) := fun i vd hi => by
    rcases hcase 1 i vd (by omega) hi with h1 | ⟨h1, h2⟩
    · exact .inl h1
    · exact .inr ⟨(Option.some.inj h1).symm, h2⟩
  have hc2 : ∀ (i : Nat) (vd : Value), (xs ++ [u1, u2, u3])[3 * i + 2]? = some vd → (xs[3 * i + 2]? = some vd ∧ i < n) ∨ (vd = u3 ∧ i = n) := fun i vd hi => by
    rcases hcase 2 i vd (by omega) hi with h1 | ⟨h1, h2⟩
    · exact .inl h1
    · exact .inr ⟨(Option.some.inj h1).symm, h2⟩
  have sepN : Sep u2 v := fun k h1 => (hnew k h1).2
  have sepM : Sep u3 v := fun k h1 => hnewS k h1
  refine ⟨fun i vd hi => ?_, fun i vd hi => ?_, fun i vd hi => ?_, fun i vd hi => ?_, fun i j vd vd' hi hj hij => ?_⟩
  · rcases hc1 i vd hi with ⟨h1, _⟩ | ⟨rfl, _⟩
    · obtain ⟨l', h2⟩ := h.own i vd h1
      exact ⟨l', h2.keep hg (h.sepv i vd h1).symm⟩
    · exact ⟨l, hd.keep hg sepN.symm⟩
  · rcases hc2 i vd hi with ⟨h1, _⟩ | ⟨rfl, _⟩
    · obtain ⟨l', h2⟩ := h.ownS i vd h1
      exact ⟨l', h2.keep hg (h.sepS i vd h1).symm⟩
    · exact ⟨ls, hs.keep hg sepM.symm⟩
  · rcases hc1 i vd hi with ⟨h1, _⟩ | ⟨rfl, _⟩
    · obtain ⟨l', h2⟩ := h.own i vd h1
      exact ((h.sepv i vd h1).symm.step h2 hk).symm
    · exact (sepN.symm.step hd hk).symm
  · rcases hc2 i vd hi with ⟨h1, _⟩ | ⟨rfl, _⟩
    · obtain ⟨l', h2⟩ := h.ownS i vd h1
      exact ((h.sepS i vd h1).symm.step h2 hk).symm
    · exact (sepM.symm.step hs hk).symm
  · rcases hc1 i vd hi with ⟨h1, g1⟩ | ⟨rfl, g1⟩ <;> rcases hc1 j vd' hj with ⟨h2, g2⟩ | ⟨rfl, g2⟩
    · exact h.sep i j vd vd' h1 h2 hij
    · exact fun k k1 k2 => (hnew k k2).1 i vd h1 k1
    · exact fun k k1 k2 => (hnew k k1).1 j vd' h2 k2
    · omega
theorem RdS.fr {S : Nat → Prop} {w w' : World} {v : Value} {l : List ByteArray} (h : RdS w v l) (hf : Fr S w w') (hn : ∀ a n c, v = .slice (some a) n c → ¬ S a.block) : RdS w' v l := by
  obtain ⟨a, c, hv, h1, h2, hc⟩ := h
  exact ⟨a, c, hv, h1, h2, hc.fr hf fun b hb => hn b l.length c (by rw [hv, hb])⟩
/-- The members that are there stay as they read, while their row grows. -/
theorem MemCells.keep {w w' : World} {B : Nat} {v : Value} {ms : List Mem} {xs : List Value} (h : MemCells w ms xs) (ho : OwnD w B v xs) (hg : w.grownBy w' v.ownBlock) : MemCells w' ms xs := by
  have hf : Fr (fun k => v.ownBlock = some k) w w' := Fr.of_grown hg fun _ h => h
  refine ⟨h.1, fun i m hi => ?_⟩
  obtain ⟨g1, vd, vs, g2, g3, g4, g5⟩ := h.2 i m hi
  refine ⟨g1, vd, vs, g2, g3, g4.fr hf fun a n c e => ?_, g5.fr hf fun a n c e => ?_⟩
  · subst e; exact ho.sepv i _ g2 a.block rfl
  · subst e; exact ho.sepS i _ g3 a.block rfl

theorem TMem : ElT Tryz.prog 22 40 3 64 := by
  refine ⟨Tryz.underlying22, ?_, by decide⟩
  obtain ⟨i, h1, h2, h3, h4⟩ := info_parts (show (Tryz.prog.info? 40).map (fun i => (i.zero, i.size, i.bytes)) = some (some (.agg #[.string ⟨#[]⟩, .slice none 0 0, .slice none 0 0]), 3, 64) by kernel_rfl)
  exact ⟨i, _, h1, h2, h3, h4, rfl⟩

/-- Does the first record bear this name? -/
def isNm (rs : List Rec) (nm : List UInt8) : Bool := match rs with | r :: _ => r.name == nm | [] => false
theorem isNm_yes {rs : List Rec} {nm : List UInt8} (h : isNm rs nm = true) : ∃ r rs', rs = r :: rs' ∧ r.name = nm := by
  cases rs with
  | nil => cases h
  | cons r rs' => exact ⟨r, rs', rfl, by simpa [isNm] using h⟩
theorem isNm_no1 {rs : List Rec} (h : isNm rs [47] = false) : tl1 rs = rs ∧ ix1 rs = none := by
  cases rs with
  | nil => exact ⟨rfl, rfl⟩
  | cons r rs' =>
    have : ¬ r.name = [47] := by simpa [isNm] using h
    simp [tl1, ix1, this]
theorem isNm_no2 {rs : List Rec} (h : isNm rs [47, 47] = false) : tl2 rs = rs ∧ lg2 rs = [] := by
  cases rs with
  | nil => exact ⟨rfl, rfl⟩
  | cons r rs' =>
    have : ¬ r.name = [47, 47] := by simpa [isNm] using h
    simp [tl2, lg2, this]
theorem isNm_yes1 {r : Rec} {rs : List Rec} (h : r.name = [47]) : tl1 (r :: rs) = rs ∧ ix1 (r :: rs) = some r.data := by simp [tl1, ix1, h]
theorem isNm_yes2 {r : Rec} {rs : List Rec} (h : r.name = [47, 47]) : tl2 (r :: rs) = rs ∧ lg2 (r :: rs) = r.data := by simp [tl2, lg2, h]
theorem tl1_mem (rs : List Rec) : ∀ r ∈ tl1 rs, r ∈ rs := by
  intro r hr
  cases rs with
  | nil => exact hr
  | cons x rs' =>
    unfold tl1 at hr
    split at hr
    · rename_i e
      cases e
      split at hr
      · exact List.mem_cons_of_mem _ hr
      · exact hr
    · rename_i e; cases e
theorem tl2_mem (rs : List Rec) : ∀ r ∈ tl2 rs, r ∈ rs := by
  intro r hr
  cases rs with
  | nil => exact hr
  | cons x rs' =>
    unfold tl2 at hr
    split at hr
    · rename_i e
      cases e
      split at hr
      · exact List.mem_cons_of_mem _ hr
      · exact hr
    · rename_i e; cases e
theorem tl1_len (rs : List Rec) : (tl1 rs).length ≤ rs.length := by
  cases rs with
  | nil => exact Nat.le_refl _
  | cons x rs' => unfold tl1; simp only; split <;> simp
theorem tl2_len (rs : List Rec) : (tl2 rs).length ≤ rs.length := by
  cases rs with
  | nil => exact Nat.le_refl _
  | cons x rs' => unfold tl2; simp only; split <;> simp
theorem lg2_len (rs : List Rec) (n : Nat) (h : ∀ r ∈ rs, r.data.length ≤ n) : (lg2 rs).length ≤ n := by
  cases rs with
  | nil => exact Nat.zero_le _
  | cons x rs' =>
    unfold lg2
    simp only
    split
    · exact h x (by simp)
    · exact Nat.zero_le _
theorem ixD_len (rs : List Rec) (n : Nat) (h : ∀ r ∈ rs, r.data.length ≤ n) : (ixD rs).length ≤ n := by
  unfold ixD ix1
  cases rs with
  | nil => exact Nat.zero_le _
  | cons x rs' =>
    simp only
    by_cases hx : x.name = [47]
    · rw [if_pos hx]; exact h x (by simp)
    · rw [if_neg hx]; exact Nat.zero_le _
theorem psTo_at (l : List UInt8) (k i : Nat) (h : i < k) : (psTo l k)[i]'(by rw [psTo_len]; exact h) = ((entP l i : Nat) : Int) := by simp [psTo]
theorem nsTo_at (l : List UInt8) (k i : Nat) (h : i < k) : (nsTo l k)[i]'(by rw [nsTo_len]; exact h) = entN l i := by simp [nsTo]
theorem Src.one1d {P : Program} {w : World} {tx e' e : TypeId} (hk : P.underlying tx = some (.slice e')) (u : Value) (h1 : u.oneCell' = true) : Src P 1 tx (.slice (some ⟨w.heap.size, 0, none⟩) 1 1) 1 [u] (w.alloc (.cells #[u] e)).drew :=
  Src.ofSlice _ hk _ 1 1 [u] rfl (fun j v hj => by
    match j, hj with
    | 0, hj =>
      simp at hj
      subst hj
      rw [addr_add, Nat.zero_add]
      have := World.cell?_alloc_new w #[u] e 0
      exact this) (by intro u' hu; simp at hu; subst hu; exact h1)
theorem ent_room {l : List UInt8} (h : EntOk l) : 4 * entC l ≤ l.length := by
  rcases Nat.eq_zero_or_pos (entC l) with g | g
  · omega
  · have := uErr_room (h.all (entC l - 1) (by omega)).1
    omega
theorem rdI_nil (w : World) : RdI w (.slice none 0 0) [] := ⟨none, 0, rfl, Nat.zero_le _, Nat.zero_le _, Cells.nil _ _⟩
theorem rdS_nil (w : World) : RdS w (.slice none 0 0) [] := ⟨none, 0, rfl, Nat.zero_le _, Nat.zero_le _, Cells.nil _ _⟩

theorem bel_alloc {w a : World} (h : Below w.heap.size w a) (o : Obj) : Below w.heap.size w (a.alloc o) := bel_trans h ((Below.refl _ _).alloc (Nat.le_refl _) _)
theorem bel_lt {w a : World} (h : Below w.heap.size w a) : w.heap.size ≤ a.heap.size := h.size
theorem box_new {X w' : World} {e : TypeId} (hb : Below (X.alloc (.cells #[.string ⟨#[]⟩, .slice none 0 0, .slice none 0 0] e)).heap.size (X.alloc (.cells #[.string ⟨#[]⟩, .slice none 0 0, .slice none 0 0] e)) w') : w'.heap[X.heap.size]? = some (.cells #[.string ⟨#[]⟩, .slice none 0 0, .slice none 0 0] e (0, 0)) := by
  rw [hb.block _ (by simp)]
  exact heap_alloc_new X _
theorem box_newd {X w' : World} {e : TypeId} (hb : Below (X.alloc (.cells #[.string ⟨#[]⟩, .slice none 0 0, .slice none 0 0] e)).drew.heap.size (X.alloc (.cells #[.string ⟨#[]⟩, .slice none 0 0, .slice none 0 0] e)).drew w') : w'.heap[X.heap.size]? = some (.cells #[.string ⟨#[]⟩, .slice none 0 0, .slice none 0 0] e (0, 0)) := by
  rw [hb.block _ (by show X.heap.size < (X.alloc _).heap.size; simp)]
  exact heap_alloc_new X _
theorem box_step {w w' : World} (hb : Below w.heap.size w w') {g : Nat} {o : Obj} (h : w.heap[g]? = some o) : w'.heap[g]? = some o := by
  rw [hb.block _ (Array.getElem?_eq_some_iff.1 h).1]; exact h
theorem size_drew (w : World) : w.drew.heap.size = w.heap.size := rfl
theorem tri_box1 {w X : World} {e1 e2 e : TypeId} {dv u1 u2 u3 : Value} {ld : List Value} (hX : Below w.heap.size w X) (ho : OwnL X w.heap.size e2 dv ld) :
    Tri w (X.alloc (.cells #[u1, u2, u3] e)) e1 e2 e (.slice none 0 0) dv (.slice (some ⟨X.heap.size, 0, none⟩) 3 3) [] ld [u1, u2, u3] :=
  (Tri.box (e3 := e) (c := .slice none 0 0) (lc := []) ⟨Own.nil _ _ _ _, ho, Own.nil _ _ _ _, fun k h => by simp [Value.ownBlock] at h, fun k h => by simp [Value.ownBlock] at h, fun k _ h => by simp [Value.ownBlock] at h, hX⟩ #[u1, u2, u3] 3 rfl (by omega))
theorem tri_box2 {w X : World} {e1 e2 e : TypeId} {dv z1 z2 z3 u1 u2 u3 : Value} {ld : List Value} {g : Nat} (hX : Below w.heap.size w X) (ho : OwnL X w.heap.size e2 dv ld) (hg : X.heap[g]? = some (.cells #[z1, z2, z3] e (0, 0))) (hlt : w.heap.size ≤ g) (hne : ¬ dv.ownBlock = some g) :
    Tri w (((X.setCell ⟨g, 0, none⟩ u1).setCell ⟨g, 1, none⟩ u2).setCell ⟨g, 2, none⟩ u3) e1 e2 e (.slice none 0 0) dv (.slice (some ⟨g, 0, none⟩) 3 3) [] ld [u1, u2, u3] := by
  have hb : OwnL X w.heap.size e (.slice (some ⟨g, 0, none⟩) 3 3) [z1, z2, z3] := ⟨rfl, .inr ⟨g, 3, _, 0, 0, rfl, hlt, hg, .inl (Nat.le_refl _), Nat.le_refl _, by decide, by simp, rfl⟩⟩
  have h0 : Tri w X e1 e2 e (.slice none 0 0) dv (.slice (some ⟨g, 0, none⟩) 3 3) [] ld [z1, z2, z3] :=
    ⟨Own.nil _ _ _ _, ho, hb, fun k h => by simp [Value.ownBlock] at h, fun k h => by simp [Value.ownBlock] at h, fun k h1 h2 => by simp [Value.ownBlock] at h2; subst h2; exact hne h1, hX⟩
  exact ((h0.storeC rfl 0 u1).storeC rfl 1 u2).storeC rfl 2 u3
theorem box3 {w : World} {g : Nat} {a b c : Value} {e : TypeId} (h : w.heap[g]? = some (.cells #[a, b, c] e (0, 0))) : w.cell? ⟨g, 0, none⟩ = some a ∧ w.cell? ⟨g, 1, none⟩ = some b ∧ w.cell? ⟨g, 2, none⟩ = some c ∧
    w.frozen? ⟨g, 0, none⟩ = false ∧ w.frozen? ⟨g, 1, none⟩ = false ∧ w.frozen? ⟨g, 2, none⟩ = false :=
  ⟨cell_at h, cell_at h, cell_at h, frozen_at h (.inl (Nat.le_refl _)), frozen_at h (.inl (Nat.le_refl _)), frozen_at h (.inl (Nat.le_refl _))⟩

theorem lib_Clone (v : Value) (l : List UInt8) (w : World) (hv : RdB w v l) (hl : l.length ≤ 1000000000) :
    Calls Tryz.prog 49 #[v] w fun e w' => ∃ v', e = .returned v' ∧ OwnL w' w.heap.size 5 v' (l.map BV) ∧ Below w.heap.size w w' := by
  obtain ⟨a, c, rfl, h1, h2, hc⟩ := hv
  cases a with
  | none =>
    have : l = [] := by
      cases l with
      | nil => rfl
      | cons x r => obtain ⟨b, o, h3, _⟩ := hc.byte 0 (by simp); cases h3
    subst this
    refine (Tryz.bytes_Clone_nil 0 c w).mono ?_
    rintro e w' ⟨rfl, rfl⟩
    exact ⟨_, rfl, Own.nil _ _ _ _, Below.refl _ _⟩
  | some a =>
    refine (Tryz.bytes_Clone_at a l.length c (l.map fun c => (c.toNat : Int)) w (by simp) (by omega) fun i hi => ?_).mono ?_
    · obtain ⟨b, o, h3, h4⟩ := hc.byte i hi
      cases h3
      rw [addr_add, h4, List.getD, List.getElem?_map, List.getElem?_eq_getElem hi]; rfl
    · rintro e w' ⟨v', rfl, h3, h4, h5⟩
      refine ⟨v', rfl, ?_, h5⟩
      have := Own.of_row h3
      rw [List.map_map] at this
      exact this.toL rfl

set_option maxHeartbeats 2000000 in
set_option maxRecDepth 20000 in
theorem ar_members (v : Value) (b : List UInt8) (w : World) (hv : RdB w v b) (hl : b.length ≤ 60000) (hG : GlobE w) :
    Calls Tryz.prog 29 #[v] w fun e w' => ((e = Ending.panicked [{ v := Value.iface 56 (Value.agg #[]), recovered := false }] ∧ ∀ ms, ¬ Is ms b) ∨ (∃ v' os xs, e = .returned v' ∧ Own w' w.heap.size 40 3 v' os.length xs ∧ MemCells w' os xs ∧ OwnD w' w.heap.size v' xs ∧ Outs b.length os ∧ os.length ≤ 64 ∧ ∀ ms, Is ms b → os = ms)) ∧ Below w.heap.size w w' := by
  have Hv := Lib.hid hv; clear hv
  have HG := Lib.hid hG; clear hG
  go_enter Tryz.func29, Tryz.ntmps29
  go_wp2_with fail
  refine (ar_records v b w Hv.out (by omega) HG.out).mono ?_
  rintro _ w1 ⟨h1, hb1⟩
  have Hb1 := Lib.hid hb1; clear hb1
  rcases h1 with ⟨rfl, h2⟩ | ⟨v1, rs, xs, rfl, ho, hra, hok, hrs⟩
  · go_wp2_with fail
    refine ⟨rfl, .inl ⟨rfl, fun ms h => ?_⟩, Hb1.out⟩
    obtain ⟨h3, h4⟩ := is_ok h (by omega)
    exact h2 _ h3 h4
  · have hR : RdRec 1 2 w1 v1 rs := RdRec.own ho hra.2 Hb1.out
    have HS := Lib.hid (fun ms (h : Is ms b) => is_split h (by omega) rs hrs)
    have Hok := Lib.hid hok
    have hlen := hok.len
    clear ho hra hrs hok
    obtain ⟨a, c, rfl, hc1, hc2, -⟩ := id hR
    have HR := Lib.hid hR; clear hR
    go_upto_region 4 with (fail)
    go_cut [24] (fun tv wx => tv = .bool (isNm rs [47]) ∧ wx = w1)
    case first =>
      cases rs with
      | nil =>
        go_wp2_with fail
        go_meet
        exact ⟨rfl, rfl⟩
      | cons r rs' =>
        obtain ⟨bl, o, da, dc, rfl, c0, c1, c2, hd⟩ := HR.out.at 0 (by simp)
        simp only [List.getElem_cons_zero, Nat.zero_mul, Nat.add_zero] at c0 c1 c2 hd
        have Hd := Lib.hid hd; clear hd
        go_wp2_with fail
        go_meet
        exact ⟨rfl, rfl⟩
    case rest =>
      obtain ⟨rfl, rfl⟩ := hcut
      go_upto_if 24 with fail
      go_cut [3, 4, 5] (fun lv av nv wx => RdRec 1 2 wx lv (tl1 rs) ∧ RdI wx av (psTo (ixD rs) (ixN rs)) ∧ RdS wx nv (nsTo (ixD rs) (ixN rs)) ∧ 4 * ixN rs ≤ b.length ∧ Below w.heap.size w wx)
      case first =>
        cases hn : isNm rs [47] with
        | false =>
          obtain ⟨h1, h2⟩ := isNm_no1 hn
          go_wp2_with fail
          go_meet
          unfold ixD ixN
          rw [h1, h2]
          exact ⟨HR.out, rdI_nil _, rdS_nil _, Nat.zero_le _, Hb1.out⟩
        | true =>
          obtain ⟨r, rs', rfl, hnm⟩ := isNm_yes hn
          clear hn
          obtain ⟨h1, h2⟩ := isNm_yes1 (rs := rs') hnm
          clear hnm
          obtain ⟨bl, o, da, dc, rfl, c0, c1, c2, hd⟩ := HR.out.at 0 (by simp)
          simp only [List.getElem_cons_zero, Nat.zero_mul, Nat.add_zero] at c0 c1 c2 hd
          have hdl := (Hok.out.each r (by simp)).2.2
          have Hd := Lib.hid hd; clear hd
          go_wp2_with fail
          refine (ar_entries _ _ _ Hd.out (by omega)).mono ?_
          rintro _ w2 ⟨h3, hb2⟩
          have Hb2 := Lib.hid (bel_trans Hb1.out hb2)
          have HR2 := Lib.hid (HR.out.below hb2)
          clear hb2
          rcases h3 with ⟨rfl, h4⟩ | ⟨h4, va, vn, rfl, h5, h6⟩
          · go_wp2_with fail
            refine ⟨rfl, .inl ⟨rfl, fun ms h => ?_⟩, Hb2.out⟩
            exact h4 (is_entOk h (by omega) _ (HS.out ms h).1 _ h2)
          · have H5 := Lib.hid h5
            have H6 := Lib.hid h6
            have H4 := Lib.hid h4
            clear h4 h5 h6
            go_wp2_with fail
            all_goals
              go_meet
              rw [h1]
              refine ⟨HR2.out.tail _ _ _ (fun h9 => ?_) rfl (by first | rfl | omega), by unfold ixD ixN; rw [h2]; exact H5.out, by unfold ixD ixN; rw [h2]; exact H6.out, ?_, Hb2.out⟩
              · first | rfl | (exfalso; simp at hc1; omega)
              · have h9 := ent_room H4.out
                unfold ixN; rw [h2]; show 4 * entC r.data ≤ b.length
                omega
      case rest =>
        obtain ⟨hR1, hA, hN, hix, hb2⟩ := hcut
        have hlen1 := tl1_len rs
        have hixd := ixD_len rs b.length (fun r hr => (Hok.out.each r hr).2.2)
        have hok1 := fun r (hr : r ∈ tl1 rs) => Hok.out.each r (tl1_mem rs r hr)
        have hS := HS.out
        clear HS HR Hb1 Hok
        generalize tl1 rs = rs1 at *
        have HS := Lib.hid hS; clear hS
        have Hok1 := Lib.hid hok1; clear hok1
        obtain ⟨la, lc, rfl, hc3, hc4, -⟩ := id hR1
        have HR1 := Lib.hid hR1; clear hR1
        have HA := Lib.hid hA; clear hA
        have HN := Lib.hid hN; clear hN
        have Hb2 := Lib.hid hb2; clear hb2
        obtain ⟨w2, hw2⟩ : ∃ w2, w2 = wc := ⟨_, rfl⟩
        go_upto_region 8 with (fail)
        go_cut [44] (fun tv wx => tv = .bool (isNm rs1 [47, 47]) ∧ wx = w2)
        case first =>
          subst hw2
          cases rs1 with
          | nil =>
            go_wp2_with fail
            go_meet
            exact ⟨rfl, rfl⟩
          | cons r rs' =>
            obtain ⟨bl, o, da, dc, rfl, c0, c1, c2, hd⟩ := HR1.out.at 0 (by simp)
            simp only [List.getElem_cons_zero, Nat.zero_mul, Nat.add_zero] at c0 c1 c2 hd
            have Hd := Lib.hid hd; clear hd
            go_wp2_with fail
            go_meet
            exact ⟨rfl, rfl⟩
        case rest =>
          obtain ⟨rfl, hwx⟩ := hcut
          rw [hw2] at hwx
          subst hwx
          go_upto_if 44 with fail
          go_cut [3, 6] (fun lv sv wx => RdRec 1 2 wx lv (tl2 rs1) ∧ sv = .string ⟨(lg2 rs1).toArray⟩ ∧ wx = w2)
          case first =>
            cases hn : isNm rs1 [47, 47] with
            | false =>
              obtain ⟨h1, h2⟩ := isNm_no2 hn
              go_wp2_with fail
              go_meet
              rw [h1, h2]
              exact ⟨HR1.out, rfl, hw2.symm⟩
            | true =>
              obtain ⟨r, rs', rfl, hnm⟩ := isNm_yes hn
              clear hn
              obtain ⟨h1, h2⟩ := isNm_yes2 (rs := rs') hnm
              clear hnm
              obtain ⟨bl, o, da, dc, rfl, c0, c1, c2, hd⟩ := HR1.out.at 0 (by simp)
              simp only [List.getElem_cons_zero, Nat.zero_mul, Nat.add_zero] at c0 c1 c2 hd
              have hcv := run_str (P := Tryz.prog) TB.und Tryz.underlying5 Tryz.underlying9 hd
              have Hd := Lib.hid hd; clear hd
              go_wp2_with fail
              all_goals
                go_meet
                rw [h1, h2]
                refine ⟨HR1.out.tail _ _ _ (fun h9 => ?_) rfl (by first | rfl | omega), rfl, hw2.symm⟩
                first | rfl | (exfalso; simp at hc3; omega)
          case rest =>
            obtain ⟨hR2, rfl, hwx⟩ := hcut
            rw [hw2] at hwx
            subst hwx
            clear hw2
            have hlen2 := tl2_len rs1
            have hok2 := fun r (hr : r ∈ tl2 rs1) => Hok1.out r (tl2_mem rs1 r hr)
            have hlg := lg2_len rs1 b.length (fun r hr => (Hok1.out r hr).2.2)
            have hS := HS.out
            clear HS HR1 Hok1
            generalize tl2 rs1 = rs2 at *
            generalize lg2 rs1 = lg at *
            have HS := Lib.hid hS; clear hS
            have Hok2 := Lib.hid hok2; clear hok2
            obtain ⟨ra, rc, rfl, hc5, hc6, -⟩ := id hR2
            have HR2 := Lib.hid hR2; clear hR2
            by_cases h64 : (rs2.length : Int) ≤ 64
            · go_wp2_with fail
              refine (ar_must_ok _).mono ?_
              rintro _ _ ⟨rfl, rfl⟩
              go_wp2_with fail
              obtain ⟨wl, rfl⟩ : ∃ wl : World, wl = wc := ⟨_, rfl⟩
              obtain ⟨aa, ac, rfl, hc7, hc8, -⟩ := id HA.out
              obtain ⟨na, nc, rfl, hc9, hc10, -⟩ := id HN.out
              rw [psTo_len] at hc7 HA ⊢
              rw [nsTo_len] at hc9 HN ⊢
              go_loopw [7, 58] (fun ov i wr => ∃ (k : Nat) (os : List Mem) (xs : List Value), i = .int .i64 k ∧ k ≤ rs2.length ∧ os.length = k ∧ Own wr wl.heap.size 40 3 ov k xs ∧ MemCells wr os xs ∧ OwnD wr wl.heap.size ov xs ∧ Outs b.length os ∧ (∀ ms, Is ms b → os = ms.take k) ∧ Below wl.heap.size wl wr) (fun _ i _ => rs2.length - (intOf i).toNat)
              case atStart => exact ⟨0, [], [], rfl, Nat.zero_le _, rfl, Own.nil _ _ _ _, MemCells.nil _, OwnD.nil _ _ _, Outs.nil _, fun ms h => rfl, Below.refl _ _⟩
              case round =>
                obtain ⟨k, os, xs, rfl, hk, hos, hown, hmc, hod, hou, hms, hb⟩ := hrel
                obtain ⟨wo, rfl⟩ : ∃ wo : World, wo = wr := ⟨_, rfl⟩
                obtain ⟨sa, sc, rfl, -, -, -⟩ := hown.cells
                have Hown := Lib.hid hown; clear hown
                have Hmc := Lib.hid hmc; clear hmc
                have Hod := Lib.hid hod; clear hod
                have Hou := Lib.hid hou; clear hou
                have Hms := Lib.hid hms; clear hms
                have hz := hb.size
                have Hb := Lib.hid hb; clear hb
                by_cases hlt : k < rs2.length
                · obtain ⟨bl, o, da, dc, rfl, c0, c1, c2, hd⟩ := (HR2.out.below Hb.out).at k hlt
                  obtain ⟨r, hr⟩ : ∃ r, r = rs2[k] := ⟨_, rfl⟩
                  rw [← hr] at c0 c1 c2 hd
                  obtain ⟨r1, r2, r3⟩ := Hok2.out r (by rw [hr]; exact List.getElem_mem hlt)
                  have hrk : ∀ ms, Is ms b → k < ms.length ∧ r = memRec ms k ∧ lg = longAll ms := fun ms h => by
                    obtain ⟨g1, g2, g3⟩ := HS.out ms h
                    have g4 : k < ms.length := by rw [g3, memRecs_len] at hlt; exact hlt
                    refine ⟨g4, ?_, g2⟩
                    have g5 := memRecs_at ms k g4
                    rw [← g3, List.getElem?_eq_getElem hlt, ← hr] at g5
                    exact Option.some.inj g5
                  have HRk := Lib.hid hrk; clear hrk
                  have HNo := Lib.hid (show (∀ nm, ¬ Named r.name lg nm) → ∀ ms, ¬ Is ms b from fun h9 ms h => by
                    obtain ⟨g1, g2, g3⟩ := HRk.out ms h
                    refine h9 (mAt ms k).name.data.toList ?_
                    rw [g2, g3]
                    exact named_at h.1 k g1)
                  have Hr := Lib.hid hr; clear hr
                  have Hd := Lib.hid hd; clear hd
                  go_upto_region 16 with (fail)
                  obtain ⟨W1, hW1⟩ : ∃ W1, W1 = wo.alloc (.cells #[.string ⟨r.name.toArray⟩, .int .i64 (r.pos : Nat), .slice da r.data.length dc] 78) := ⟨_, rfl⟩
                  obtain ⟨p, hp⟩ : ∃ p, p = wo.heap.size := ⟨_, rfl⟩
                  rw [← hW1, ← hp]
                  have k0 : W1.cell? ⟨p, 0, none⟩ = some (.string ⟨r.name.toArray⟩) := by rw [hW1, hp]; simp [go_sem]
                  have k1 : W1.cell? ⟨p, 1, none⟩ = some (.int .i64 (r.pos : Nat)) := by rw [hW1, hp]; simp [go_sem]
                  have k2 : W1.cell? ⟨p, 2, none⟩ = some (.slice da r.data.length dc) := by rw [hW1, hp]; simp [go_sem]
                  have hbW : Below wo.heap.size wo W1 := by rw [hW1]; exact bel_alloc (Below.refl _ wo) _
                  have HbW := Lib.hid hbW; clear hbW
                  clear hW1 hp c0 c1 c2
                  have k0d : W1.drew.cell? ⟨p, 0, none⟩ = some (.string ⟨r.name.toArray⟩) := k0
                  have k2d : W1.drew.cell? ⟨p, 2, none⟩ = some (.slice da r.data.length dc) := k2
                  have k0a : (W1.alloc (.cells #[.string ⟨#[]⟩, .slice none 0 0, .slice none 0 0] 40)).drew.cell? ⟨p, 0, none⟩ = some (.string ⟨r.name.toArray⟩) := bel_cell (Below.drew (bel_alloc (Below.refl W1.heap.size W1) (.cells #[.string ⟨#[]⟩, .slice none 0 0, .slice none 0 0] 40))) k0
                  have k2a : (W1.alloc (.cells #[.string ⟨#[]⟩, .slice none 0 0, .slice none 0 0] 40)).drew.cell? ⟨p, 2, none⟩ = some (.slice da r.data.length dc) := bel_cell (Below.drew (bel_alloc (Below.refl W1.heap.size W1) (.cells #[.string ⟨#[]⟩, .slice none 0 0, .slice none 0 0] 40))) k2
                  have HbA := Lib.hid (Below.drew (Below.refl W1.heap.size W1))
                  have HbAd := Lib.hid (Below.drew (bel_alloc (Below.refl W1.heap.size W1) (.cells #[.string ⟨#[]⟩, .slice none 0 0, .slice none 0 0] 40)))
                  have HbB := Lib.hid (bel_trans (Hb2.out.trans (Hb.out.mono Hb2.out.size)) HbW.out)
                  have HG1 := Lib.hid (HG.out.below HbB.out)
                  have Hd1 := Lib.hid (Hd.out.below HbW.out)
                  go_cut [10] (fun p10 wx => ∃ (g : Nat) (t : List UInt8) (a5 : Option Addr) (c5 : Nat), p10 = .pointer (some ⟨g, 0, none⟩) ∧ t.length ≤ 16 + b.length ∧ (∀ nm, Named r.name lg nm → t = nm) ∧
                    Tri W1 wx 9 5 40 (.slice none 0 0) (.slice a5 r.data.length c5) (.slice (some ⟨g, 0, none⟩) 3 3) [] (r.data.map BV) [.string ⟨t.toArray⟩, .slice a5 r.data.length c5, .slice none 0 0])
                  case first =>
                    go_region_law
                      (first
                        | (go_simp; go_at_call 48; refine (ar_named ⟨r.name.toArray⟩ ⟨lg.toArray⟩ _ (by rw [ba_size]; omega) (by rw [ba_size]; omega) (HG1.out.below (by first | exact HbA.out | exact HbAd.out | exact Hc5.out | exact bel_alloc Hc5.out _))).mono ?_; rintro _ w4 ⟨h4, hb4⟩; have Hc4 := Lib.hid (show Below W1.heap.size W1 w4 from by first | exact bel_trans HbA.out hb4 | exact bel_trans HbAd.out hb4 | exact bel_trans Hc5.out hb4 | exact bel_trans (bel_alloc Hc5.out _) hb4); (try have g2 := bel_cell hb4 k2); (try have g2 := bel_cell hb4 k2d); (try have g2 := bel_cell hb4 k2a); (try have g2a := bel_cell (bel_alloc (Below.refl _ w4) (.cells #[.string ⟨#[]⟩, .slice none 0 0, .slice none 0 0] 40)) g2); (first | have eB := box_new (w' := w4) (by with_reducible exact hb4) | have eB := box_newd (w' := w4) (by with_reducible exact hb4) | have eB := box_step hb4 eB | skip); (try (have eC := box3 eB; obtain ⟨q0, q1, q2, q3, q4, q5⟩ := eC)); have hs4 := bel_lt hb4; (try simp only [World.size_alloc, size_drew] at hs4); (try have Ho5 := Lib.hid (Ho5.out.below hb4)); (try have Ho5 := Lib.hid (Ho5.out.below (bel_trans (bel_alloc (Below.refl _ _) _) hb4))); clear hb4; rcases h4 with ⟨rfl, h5⟩ | ⟨t, rfl, h5, h6⟩; (focus (go_wp2_with fail; exact ⟨rfl, .inl ⟨rfl, fun ms h => HNo.out h5 ms h⟩, bel_trans HbB.out Hc4.out⟩)); have H5 := Lib.hid h5; have H6 := Lib.hid h6; clear h5 h6)
                        | (go_simp; go_at_call 49; refine (lib_Clone _ r.data _ (Hd1.out.below (by first | exact HbA.out | exact HbAd.out | exact Hc4.out | exact bel_alloc Hc4.out _)) (by omega)).mono ?_; rintro _ w5 ⟨v5, rfl, h5o, hb5⟩; have Hc5 := Lib.hid (show Below W1.heap.size W1 w5 from by first | exact bel_trans HbA.out hb5 | exact bel_trans HbAd.out hb5 | exact bel_trans Hc4.out hb5 | exact bel_trans (bel_alloc Hc4.out _) hb5); (try have g0 := bel_cell hb5 k0); (try have g0 := bel_cell hb5 k0d); (try have g0 := bel_cell hb5 k0a); (try have g0a := bel_cell (bel_alloc (Below.refl _ w5) (.cells #[.string ⟨#[]⟩, .slice none 0 0, .slice none 0 0] 40)) g0); (first | have eB := box_new (w' := w5) (by with_reducible exact hb5) | have eB := box_newd (w' := w5) (by with_reducible exact hb5) | have eB := box_step hb5 eB | skip); (try (have eC := box3 eB; obtain ⟨q0, q1, q2, q3, q4, q5⟩ := eC)); have hs5 := bel_lt hb5; (try simp only [World.size_alloc, size_drew] at hs5); clear hb5; obtain ⟨a5, c5, hv5, -, -, -⟩ := h5o.cells; rw [List.length_map] at hv5; subst hv5; have hl5 := fun k hk => h5o.lt k hk; (try simp only [World.size_alloc, size_drew] at hl5); have HL5 := Lib.hid hl5; clear hl5; have Ho5 := Lib.hid (h5o.mono (B' := W1.heap.size) (by first | exact HbA.out.size | exact HbAd.out.size | exact Hc4.out.size | exact (bel_alloc Hc4.out _).size)); clear h5o))
                    all_goals
                      go_wp2_with fail
                      go_meet
                      refine ⟨_, t, a5, c5, rfl, ?_, H6.out, ?_⟩
                      · have h9 := H5.out
                        rw [ba_size, ba_size] at h9
                        omega
                      · first
                          | exact tri_box1 Hc5.out Ho5.out
                          | exact tri_box1 Hc4.out Ho5.out
                          | exact tri_box2 Hc5.out Ho5.out eB (by first | exact Nat.le_refl _ | omega) (fun h9 => by have h8 := HL5.out _ h9; omega)
                          | exact tri_box2 Hc4.out Ho5.out eB (by first | exact Nat.le_refl _ | omega) (fun h9 => by have h8 := HL5.out _ h9; omega)
                  case rest =>
                    obtain ⟨g, t, a5, c5, rfl, ht, htn, hT⟩ := hcut
                    have Htn := Lib.hid htn; clear htn
                    have hT0 : Tri W1 wc 9 5 40 (.slice none 0 0) (.slice a5 r.data.length c5) (.slice (some ⟨g, 0, none⟩) 3 3) ((symsTo (ixD rs) r.pos 0).map Value.string) (r.data.map BV) [.string ⟨t.toArray⟩, .slice a5 r.data.length c5, .slice none 0 0] := hT
                    have HT0 := Lib.hid hT0; clear hT hT0
                    clear k0 k0d k0a k2 k2d k2a
                    go_wp2_with fail
                    go_loopw [72] (fun iv wx => ∃ (j : Nat) (pa : Option Addr) (pc : Nat), iv = .int .i64 j ∧ j ≤ ixN rs ∧
                      Tri W1 wx 9 5 40 (.slice pa (symsTo (ixD rs) r.pos j).length pc) (.slice a5 r.data.length c5) (.slice (some ⟨g, 0, none⟩) 3 3) ((symsTo (ixD rs) r.pos j).map Value.string) (r.data.map BV) [.string ⟨t.toArray⟩, .slice a5 r.data.length c5, .slice pa (symsTo (ixD rs) r.pos j).length pc]) (fun iv _ => ixN rs - (intOf iv).toNat)
                    case atStart => exact ⟨0, none, 0, rfl, Nat.zero_le _, HT0.out⟩
                    case round =>
                      obtain ⟨j, pa, pc, rfl, hj, hT⟩ := hrel
                      obtain ⟨e0, f0⟩ := hT.cellC rfl 0 _ rfl
                      obtain ⟨e1, f1⟩ := hT.cellC rfl 1 _ rfl
                      obtain ⟨e2, f2⟩ := hT.cellC rfl 2 _ rfl
                      have hpos := bel_cell hT.be k1
                      have HT := Lib.hid hT; clear hT
                      clear HT0
                      have hsl := symsTo_len (ixD rs) r.pos j
                      by_cases hjl : j < ixN rs
                      · obtain ⟨ab, ao, rfl, ca⟩ := (((HA.out.below Hb.out).below HbW.out).below HT.out.be).at j (by rw [psTo_len]; exact hjl)
                        obtain ⟨nb, no, rfl, cn⟩ := (((HN.out.below Hb.out).below HbW.out).below HT.out.be).at j (by rw [nsTo_len]; exact hjl)
                        rw [psTo_at _ _ _ hjl] at ca
                        rw [nsTo_at _ _ _ hjl] at cn
                        by_cases hpp : entP (ixD rs) j = r.pos
                        · have hpp' : ((entP (ixD rs) j : Nat) : Int) = r.pos := by omega
                          have Hss := Lib.hid (symsTo_hit (ixD rs) r.pos j hpp)
                          clear hpp
                          have q1 : ((List.map Value.string (symsTo (ixD rs) r.pos j)).length + 1) * 16 ≤ 140737488355328 := by rw [List.length_map]; omega
                          have q2 : (List.map Value.string (symsTo (ixD rs) r.pos j)).length + 1 ≤ maxLen := by unfold maxLen; rw [List.length_map]; omega
                          have e2a := bel_cell (bel_alloc (Below.refl _ wr) (.cells #[.string (entN (ixD rs) j)] 9)) e2
                          go_upto_region 21 with (fail)
                          go_region_law
                            (refine step_app _ _ _ _ (by rfl) (by rfl) TS W1.heap.size (((HT.out.alloc _).bel (Below.drew (Below.refl _ _))).oa) (by rfl) (Src.one1d TS.und _ rfl) (by rfl) q1 q2 (((HT.out.alloc _).bel (Below.drew (Below.refl _ _))).be.size) ?_; intro v7 w7 h7 h7g h7k; have t7 := ((HT.out.alloc _).bel (Below.drew (Below.refl _ _))).app h7 rfl h7g h7k; obtain ⟨xa, xc, hx, -, -, -⟩ := h7.cells; rw [List.length_map] at hx; subst hx; obtain ⟨g8, g9⟩ := t7.cellC rfl 2 _ rfl; have T7 := Lib.hid t7; clear h7 h7g h7k t7)
                          all_goals
                            have T8 := Lib.hid (T7.out.storeC rfl 2 (.slice xa ((symsTo (ixD rs) r.pos j).length + 1) xc))
                            go_wp2_with fail
                            go_roundw
                            case rel =>
                              refine ⟨j + 1, xa, xc, by go_num, by omega, ?_⟩
                              have h8 := T8.out
                              rw [Hss.out, List.length_append, List.map_append]
                              exact h8
                            case measure => simp [intOf]; omega
                        · have hpp' : (((entP (ixD rs) j : Nat) : Int) == (r.pos : Int)) = false := by rw [beq_eq_false_iff_ne]; omega
                          have Hss := Lib.hid (symsTo_miss (ixD rs) r.pos j hpp)
                          clear hpp
                          go_wp2_with fail
                          go_roundw
                          case rel => refine ⟨j + 1, pa, pc, by go_num, by omega, ?_⟩; rw [Hss.out]; exact HT.out
                          case measure => simp [intOf]; omega
                      · have hjN : j = ixN rs := by omega
                        subst hjN
                        clear hj hjl
                        have Ho7 := Lib.hid (((Hown.out.below HbW.out).below HT.out.be))
                        go_wp2_with (at_builtin; refine stop_here ?_)
                        have hz9 : wl.heap.size ≤ wr.heap.size := Nat.le_trans hz (Nat.le_trans HbW.out.size HT.out.be.size)
                        have Hmc9 : xs.length = 3 * k := by rw [Hmc.out.1, hos]
                        have hzW : wl.heap.size ≤ W1.heap.size := Nat.le_trans hz HbW.out.size
                        refine stop_out ?_
                        refine wpList_app _ _ _ _ rfl rfl TMem wl.heap.size (Ho7.out.alloc _) rfl (Src.one3 TMem.und _ _ _ rfl rfl rfl) rfl ?ab1a ?ab1b ?ab1c ?_
                        case ab1a => (first | omega | (simp only [List.length_append, List.length_map, List.length_cons, List.length_nil, List.length_reverse]; omega))
                        case ab1b => (unfold maxLen; first | omega | (simp only [List.length_append, List.length_map, List.length_cons, List.length_nil, List.length_reverse]; omega))
                        case ab1c => (first | omega | (simp only [World.size_alloc]; omega) | (simp; done) | exact (Hid.out ‹Hid (Below _ _ _)›).size | (refine Nat.le_trans (Hid.out ‹Hid (Below _ _ _)›).size ?_; simp))
                        intro v9 w9 h9 h9g h9k
                        have H9 := Lib.hid h9; clear h9
                        have H9g := Lib.hid h9g; clear h9g
                        have H9k := Lib.hid h9k; clear h9k
                        have hbo := bel_alloc (bel_trans HbW.out HT.out.be) (.cells #[.string ⟨t.toArray⟩, .slice a5 r.data.length c5, .slice pa (symsTo (ixD rs) r.pos (ixN rs)).length pc] 40)
                        have sep1 : Sep (.slice sa k sc) (.slice a5 r.data.length c5) := fun i h1 h2 => by
                          have g1 := (Hown.out.lt i h1).2
                          have g2 := (HT.out.ob.lt i h2).1
                          have g3 := HbW.out.size
                          omega
                        have sep2 : Sep (.slice sa k sc) (.slice pa (symsTo (ixD rs) r.pos (ixN rs)).length pc) := fun i h1 h2 => by
                          have g1 := (Hown.out.lt i h1).2
                          have g2 := (HT.out.oa.lt i h2).1
                          have g3 := HbW.out.size
                          omega
                        have od := (HT.out.ob.alloc (.cells #[.string ⟨t.toArray⟩, .slice a5 r.data.length c5, .slice pa (symsTo (ixD rs) r.pos (ixN rs)).length pc] 40)).keep H9g.out sep1
                        have os2 := (HT.out.oa.alloc (.cells #[.string ⟨t.toArray⟩, .slice a5 r.data.length c5, .slice pa (symsTo (ixD rs) r.pos (ixN rs)).length pc] 40)).keep H9g.out sep2
                        have M9 := Lib.hid (((Hmc.out.below hbo).keep (Hod.out.below hbo) H9g.out).snoc ⟨⟨t.toArray⟩, r.data, symsTo (ixD rs) r.pos (ixN rs)⟩ _ _ (OwnL.rdB od) (OwnL.rdS os2))
                        have D9 := Lib.hid ((Hod.out.below hbo).snoc (Ho7.out.alloc _) Hmc9 (.string ⟨t.toArray⟩) (.slice a5 r.data.length c5) (.slice pa (symsTo (ixD rs) r.pos (ixN rs)).length pc) r.data (symsTo (ixD rs) r.pos (ixN rs)) ((HT.out.ob.alloc _).mono hzW) ((HT.out.oa.alloc _).mono hzW) (fun i h1 => by
                          have g2 := (HT.out.ob.lt i h1).1
                          have g3 := HbW.out.size
                          refine ⟨fun i2 vd h2 h3 => ?_, fun h3 => sep1 i h3 h1⟩
                          obtain ⟨l2, h4⟩ := Hod.out.own i2 vd h2
                          have := (h4.lt i h3).2
                          omega) (fun i h1 h3 => sep2 i h3 h1) H9g.out H9k.out)
                        have B9 := Lib.hid (below_own (hb := bel_alloc (bel_trans (bel_trans Hb.out HbW.out) HT.out.be) _) (by rw [World.size_alloc]; omega) (Ho7.out.alloc _) H9g.out)
                        have O9 := Lib.hid (Hou.out.snoc ⟨⟨t.toArray⟩, r.data, symsTo (ixD rs) r.pos (ixN rs)⟩ ⟨by rw [ba_size]; exact ht, r3, by show 4 * (symsTo (ixD rs) r.pos (ixN rs)).length ≤ _; omega, fun s hs => Nat.le_trans (symsTo_size _ _ _ s hs) hixd⟩)
                        have Q9 := Lib.hid (show ∀ ms, Is ms b → os ++ [⟨⟨t.toArray⟩, r.data, symsTo (ixD rs) r.pos (ixN rs)⟩] = ms.take (k + 1) from fun ms h => by
                          obtain ⟨g1, g2, g3⟩ := HRk.out ms h
                          rw [take_mem ms k g1, ← Hms.out ms h]
                          congr 2
                          refine (mem_ext _ _ _ _ ?_ ?_ ?_).symm
                          · refine (Htn.out _ ?_).symm
                            rw [g2, g3]
                            exact named_at h.1 k g1
                          · rw [g2]; rfl
                          · rw [g2]
                            exact (is_symsOf h (by omega) rs (HS.out ms h).1 k g1).symm)
                        clear od os2 sep1 sep2 hbo
                        go_wp2_with (at_builtin; refine stop_here ?_)
                        go_roundw
                        case rel => exact ⟨k + 1, _, _, by go_num, by omega, by simp [hos], H9.out, M9.out, D9.out, O9.out, Q9.out, B9.out⟩
                        case measure => simp [intOf]; omega
                · go_wp2_with fail
                  go_ret
                  have hkk : k = rs2.length := by omega
                  refine ⟨.inr ⟨_, os, xs, rfl, (Hown.out.mono Hb2.out.size).cast hos.symm rfl, Hmc.out, ?_, Hou.out, by omega, fun ms h => ?_⟩, Hb2.out.trans (Hb.out.mono Hb2.out.size)⟩
                  · exact Hod.out.mono Hb2.out.size
                  · have h9 := (HS.out ms h).2.2
                    rw [Hms.out ms h, List.take_of_length_le]
                    rw [hkk, h9, memRecs_len]; exact Nat.le_refl _
            · have h64' : decide ((rs2.length : Int) ≤ 64) = false := decide_eq_false h64
              go_wp2_with fail
              refine (ar_must_no _).mono ?_
              rintro _ _ ⟨rfl, rfl⟩
              go_wp2_with fail
              refine ⟨rfl, .inl ⟨rfl, fun ms h => ?_⟩, Hb2.out⟩
              have h9 := (HS.out ms h).2.2
              have h10 := is_len h
              rw [h9, memRecs_len] at h64
              omega

end Go.Proofs.YtnpfnjkghlgooaaGreatDoor
