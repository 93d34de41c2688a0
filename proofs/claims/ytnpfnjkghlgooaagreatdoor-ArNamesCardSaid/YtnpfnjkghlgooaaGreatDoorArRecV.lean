/-
  Records as memory holds them, read by either side; what is known of the records of bytes that members wrote.
  Conditions: none (definitions and lemmas).
-/
import Derived.Test.YtnpfnjkghlgooaaGreatDoorArPlain
namespace Go.Proofs.YtnpfnjkghlgooaaGreatDoor
set_option linter.unusedVariables false
set_option linter.unusedSimpArgs false
open Go Go.RowKit

/-- The slice value v reads as these records (the place at cell jp of each, its bytes at cell jd). -/
def RdRec (jp jd : Nat) (w : World) (v : Value) (rs : List Rec) : Prop := ∃ a c, v = .slice a rs.length c ∧ rs.length ≤ c ∧ c ≤ maxLen ∧
  ∀ (i : Nat) (r : Rec), rs[i]? = some r → ∃ b o vd, a = some ⟨b, o, none⟩ ∧ w.cell? ⟨b, o + i * 3, none⟩ = some (.string ⟨r.name.toArray⟩) ∧ w.cell? ⟨b, o + i * 3 + jp, none⟩ = some (.int .i64 (r.pos : Nat)) ∧
    w.cell? ⟨b, o + i * 3 + jd, none⟩ = some vd ∧ RdB w vd r.data
theorem RdRec.below {jp jd : Nat} {w w' : World} {v : Value} {rs : List Rec} (h : RdRec jp jd w v rs) (hb : Below w.heap.size w w') : RdRec jp jd w' v rs := by
  obtain ⟨a, c, hv, h1, h2, hc⟩ := h
  refine ⟨a, c, hv, h1, h2, fun i m hi => ?_⟩
  obtain ⟨b, o, vd, ha, c0, c1, c2, hd⟩ := hc i m hi
  exact ⟨b, o, vd, ha, bel_cell hb c0, bel_cell hb c1, bel_cell hb c2, hd.below hb⟩
theorem RdRec.at {jp jd : Nat} {w : World} {a : Option Addr} {n c : Nat} {rs : List Rec} (h : RdRec jp jd w (.slice a n c) rs) (i : Nat) (hi : i < rs.length) :
    ∃ b o da dc, a = some ⟨b, o, none⟩ ∧ w.cell? ⟨b, o + i * 3, none⟩ = some (.string ⟨rs[i].name.toArray⟩) ∧ w.cell? ⟨b, o + i * 3 + jp, none⟩ = some (.int .i64 (rs[i].pos : Nat)) ∧
      w.cell? ⟨b, o + i * 3 + jd, none⟩ = some (.slice da rs[i].data.length dc) ∧ RdB w (.slice da rs[i].data.length dc) rs[i].data := by
  obtain ⟨a', c', hv, h1, h2, hc⟩ := h
  cases hv
  obtain ⟨b, o, vd, ha, c0, c1, c2, hd⟩ := hc i rs[i] (by simp [hi])
  obtain ⟨da, dc, rfl, hd'⟩ := id hd
  exact ⟨b, o, da, dc, ha, c0, c1, c2, hd⟩
theorem RdRec.len {jp jd : Nat} {w : World} {a : Option Addr} {n c : Nat} {rs : List Rec} (h : RdRec jp jd w (.slice a n c) rs) : n = rs.length ∧ n ≤ c ∧ c ≤ maxLen := by
  obtain ⟨a', c', hv, h1, h2, hc⟩ := h
  cases hv
  exact ⟨rfl, h1, h2⟩
theorem RdRec.tail {jp jd : Nat} {w : World} {b o n c : Nat} {r : Rec} {rs : List Rec} (h : RdRec jp jd w (.slice (some ⟨b, o, none⟩) n c) (r :: rs)) (X : Option Addr) (N C : Nat) (hX : 0 < rs.length → X = some ⟨b, o + 3, none⟩) (hN : N = rs.length) (hC : C = c - 1) :
    RdRec jp jd w (.slice X N C) rs := by
  obtain ⟨a', c', hv, h1, h2, hc⟩ := h
  cases hv
  subst hN; subst hC
  simp only [List.length_cons] at h1
  refine ⟨X, _, rfl, by omega, by omega, fun i m hi => ?_⟩
  have hlt := (List.getElem?_eq_some_iff.1 hi).1
  obtain ⟨b', o', vd, ha, c0, c1, c2, hd⟩ := hc (i + 1) m (by simpa using hi)
  cases ha
  have e : o + (i + 1) * 3 = o + 3 + i * 3 := by omega
  rw [e] at c0 c1 c2
  exact ⟨b, o + 3, vd, hX (by omega), c0, c1, c2, hd⟩
theorem RdRec.own {jp jd : Nat} {w w' : World} {B : Nat} {e : TypeId} {v : Value} {rs : List Rec} {xs : List Value} (ho : Own w B e 3 v rs.length xs)
    (hx : ∀ (i : Nat) (r : Rec), rs[i]? = some r → xs[3 * i]? = some (.string ⟨r.name.toArray⟩) ∧ xs[3 * i + jp]? = some (.int .i64 (r.pos : Nat)) ∧ ∃ vd, xs[3 * i + jd]? = some vd ∧ RdB w' vd r.data) (hb : Below w'.heap.size w' w) : RdRec jp jd w v rs := by
  obtain ⟨a, c, rfl, h1, h2, hc⟩ := ho.cells
  refine ⟨a, c, rfl, h1, h2, fun i r hi => ?_⟩
  obtain ⟨g1, g2, vd, g3, g4⟩ := hx i r hi
  obtain ⟨b, o, ha, k1⟩ := hc _ _ g1
  obtain ⟨b2, o2, ha2, k2⟩ := hc _ _ g2
  obtain ⟨b3, o3, ha3, k3⟩ := hc _ _ g3
  subst ha
  cases ha2
  cases ha3
  refine ⟨b, o, vd, rfl, ?_, ?_, ?_, g4.below hb⟩
  · rw [Nat.mul_comm i 3]; exact k1
  · rw [Nat.mul_comm i 3, Nat.add_assoc]; exact k2
  · rw [Nat.mul_comm i 3, Nat.add_assoc]; exact k3

def ixD (rs : List Rec) : List UInt8 := match ix1 rs with | some d => d | none => []
def ixN (rs : List Rec) : Nat := match ix1 rs with | some d => entC d | none => 0
theorem is_symsOf {ms : List Mem} {b : List UInt8} (h : Is ms b) (hb : b.length ≤ 1000000) (rs : List Rec) (hix : ix1 rs = ixOf ms) (k : Nat) (hk : k < ms.length) : symsTo (ixD rs) (pAt (pls ms) k) (ixN rs) = (mAt ms k).syms := by
  unfold ixD ixN
  rw [hix]
  unfold ixOf
  by_cases g : 0 < nsyms ms
  · rw [if_pos g]
    exact (is_syms h hb k hk).2
  · rw [if_neg g, nsyms_none (by omega) k hk]; rfl
theorem is_len {ms : List Mem} {b : List UInt8} (h : Is ms b) : ms.length ≤ 64 := by
  have := h.1
  unfold faultOf at this
  split at this
  · split at this
    · cases this
    · split at this
      · cases this
      · omega
  · cases this
theorem is_entOk {ms : List Mem} {b : List UInt8} (h : Is ms b) (hb : b.length ≤ 1000000) (rs : List Rec) (hix : ix1 rs = ixOf ms) (d : List UInt8) (hd : ix1 rs = some d) : EntOk d := by
  rw [hix] at hd
  unfold ixOf at hd
  split at hd
  · cases hd
    rename_i g
    have hF := is_okF h hb
    rw [index_flat]
    exact idx_ok _ hF
  · cases hd
theorem mem_ext (m : Mem) (a : ByteArray) (d : List UInt8) (s : List ByteArray) (h1 : m.name.data.toList = a.data.toList) (h2 : m.data = d) (h3 : m.syms = s) : m = ⟨a, d, s⟩ := by
  cases m with
  | mk n d' s' =>
    simp only at h1 h2 h3
    subst h2; subst h3
    congr 1
    apply ByteArray.ext
    exact Array.toList_inj.1 h1
theorem take_mem (ms : List Mem) (k : Nat) (hk : k < ms.length) : ms.take (k + 1) = ms.take k ++ [mAt ms k] := by
  rw [List.take_succ_eq_append_getElem hk, mAt_lt ms k hk]

/-- Members, in the cells that a reader lays for them. -/
def MemCells (w : World) (ms : List Mem) (xs : List Value) : Prop := xs.length = 3 * ms.length ∧
  ∀ (i : Nat) (m : Mem), ms[i]? = some m → xs[3 * i]? = some (.string m.name) ∧ ∃ vd vs, xs[3 * i + 1]? = some vd ∧ xs[3 * i + 2]? = some vs ∧ RdB w vd m.data ∧ RdS w vs m.syms
theorem MemCells.nil (w : World) : MemCells w [] [] := ⟨rfl, fun i r h => by simp at h⟩
theorem MemCells.below {w w' : World} {ms : List Mem} {xs : List Value} (h : MemCells w ms xs) (hb : Below w.heap.size w w') : MemCells w' ms xs :=
  ⟨h.1, fun i m hi => by obtain ⟨g1, vd, vs, g2, g3, g4, g5⟩ := h.2 i m hi; exact ⟨g1, vd, vs, g2, g3, g4.below hb, g5.below hb⟩⟩
theorem MemCells.snoc {w : World} {ms : List Mem} {xs : List Value} (h : MemCells w ms xs) (m : Mem) (vd vs : Value) (hd : RdB w vd m.data) (hs : RdS w vs m.syms) : MemCells w (ms ++ [m]) (xs ++ [.string m.name, vd, vs]) := by
  refine ⟨by simp [h.1]; omega, fun i r' hi => ?_⟩
  rcases Nat.lt_or_ge i ms.length with h1 | h1
  · rw [List.getElem?_append_left h1] at hi
    obtain ⟨g1, vd', vs', g2, g3, g4, g5⟩ := h.2 i r' hi
    have := h.1
    exact ⟨by rw [List.getElem?_append_left (by omega)]; exact g1, vd', vs', by rw [List.getElem?_append_left (by omega)]; exact g2, by rw [List.getElem?_append_left (by omega)]; exact g3, g4, g5⟩
  · rw [List.getElem?_append_right h1] at hi
    have h2 : i - ms.length = 0 := by
      have := (List.getElem?_eq_some_iff.1 hi).1
      simp at this; omega
    rw [h2] at hi
    simp at hi
    subst hi
    have h3 := h.1
    have h4 : 3 * i = xs.length := by omega
    refine ⟨?_, vd, vs, ?_, ?_, hd, hs⟩
    · rw [h4, List.getElem?_append_right (Nat.le_refl _), Nat.sub_self]; rfl
    · rw [h4, List.getElem?_append_right (by omega), Nat.add_sub_cancel_left]; rfl
    · rw [h4, List.getElem?_append_right (by omega), Nat.add_sub_cancel_left]; rfl
theorem MemCells.rdM {w : World} {B : Nat} {e : TypeId} {v : Value} {ms : List Mem} {xs : List Value} (h : MemCells w ms xs) (ho : Own w B e 3 v ms.length xs) : RdM w v ms := by
  obtain ⟨a, c, rfl, h1, h2, hc⟩ := ho.cells
  refine ⟨a, c, rfl, h1, h2, fun i m hi => ?_⟩
  obtain ⟨g1, vd, vs, g2, g3, g4, g5⟩ := h.2 i m hi
  obtain ⟨b, o, ha, k1⟩ := hc _ _ g1
  obtain ⟨b2, o2, ha2, k2⟩ := hc _ _ g2
  obtain ⟨b3, o3, ha3, k3⟩ := hc _ _ g3
  subst ha
  cases ha2
  cases ha3
  refine ⟨b, o, vd, vs, rfl, ?_, ?_, ?_, g4, g5⟩
  · rw [Nat.mul_comm i 3]; exact k1
  · rw [Nat.mul_comm i 3, Nat.add_assoc]; exact k2
  · rw [Nat.mul_comm i 3, Nat.add_assoc]; exact k3

/-- What a reader's members bear. -/
structure Outs (L : Nat) (os : List Mem) : Prop where
  each : ∀ m ∈ os, m.name.size ≤ 16 + L ∧ m.data.length ≤ L ∧ 4 * m.syms.length ≤ L ∧ ∀ s ∈ m.syms, s.size ≤ L
theorem Outs.nil (L : Nat) : Outs L [] := ⟨fun m h => by simp at h⟩
theorem Outs.snoc {L : Nat} {os : List Mem} (h : Outs L os) (m : Mem) (hm : m.name.size ≤ 16 + L ∧ m.data.length ≤ L ∧ 4 * m.syms.length ≤ L ∧ ∀ s ∈ m.syms, s.size ≤ L) : Outs L (os ++ [m]) := ⟨fun x hx => by
  rcases List.mem_append.1 hx with h1 | h1
  · exact h.each x h1
  · simp at h1; subst h1; exact hm⟩
theorem Outs.fit {L : Nat} {os : List Mem} (h : Outs L os) (hL : L ≤ 1000000) (hn : os.length ≤ 1000000) : Fit os := by
  refine ⟨by omega, fun i hi => ?_⟩
  obtain ⟨h1, h2, h3, h4⟩ := h.each _ (List.getElem_mem hi)
  exact ⟨by omega, by omega, by omega, fun j hj => by have := h4 _ (List.getElem_mem hj); omega⟩
theorem Outs.nsy {L : Nat} {os : List Mem} (h : Outs L os) : 4 * nsyms os ≤ L * os.length := by
  induction os with
  | nil => simp [nsyms]
  | cons m os ih =>
    have h1 := (h.each m (by simp)).2.2.1
    have h2 := ih ⟨fun x hx => h.each x (by simp [hx])⟩
    unfold nsyms at h2 ⊢
    rw [List.map_cons, List.sum_cons, List.length_cons, Nat.mul_succ]
    omega
end Go.Proofs.YtnpfnjkghlgooaaGreatDoor
