/-
  The plain words in which the walks of this seat speak of memory: cells that can be read, rows that are owned, worlds that differ in named blocks alone; and the law of append in these words.
  Conditions: none (lemmas).
-/
import Derived.Test.YtnpfnjkghlgooaaGreatDoorRows
import Derived.WalkKit
import Derived.WalkLawsBesides
import Derived.WalkSpells
import Derived.Lib.Hide
import Derived.Outline
import Derived.Deep.AppendSrc
import Derived.Lib.ConvBytes
import Derived.Lib.SlBytesConst
import Derived.Deep.DeepCutAuto
import Derived.Deep.CutBlock
import Derived.Deep.RegionHeld3
import Derived.Deep.AppendLies
namespace Go.Proofs.YtnpfnjkghlgooaaGreatDoor
set_option linter.unusedVariables false
set_option linter.unusedSimpArgs false
open Go Go.RowKit

/-- The walk stops here. -/
@[irreducible] def Stopped (p : Prop) : Prop := p
theorem stop_here {p : Prop} (h : Stopped p) : p := by unfold Stopped at h; exact h
theorem stop_out {p : Prop} (h : p) : Stopped p := by unfold Stopped; exact h

theorem ret_bool {a b : Bool} (h : a = b) : Ending.returned (.bool a) = .returned (.bool b) := by rw [h]
theorem ret_int {k : IntKind} {a b : Int} (h : a = b) : Ending.returned (.int k a) = .returned (.int k b) := by rw [h]
theorem ret_str {a b : ByteArray} (h : a = b) : Ending.returned (.string a) = .returned (.string b) := by rw [h]
theorem ret_pair {a b c d : Value} (h : a = c) (h' : b = d) : Ending.returned (.tuple #[a, b]) = .returned (.tuple #[c, d]) := by rw [h, h']

theorem ba_app (a b : List UInt8) : ((⟨a.toArray⟩ : ByteArray) ++ (⟨b.toArray⟩ : ByteArray)) = ⟨(a ++ b).toArray⟩ := by
  apply ByteArray.ext
  simp [ByteArray.data_append]
theorem ba_size (l : List UInt8) : (⟨l.toArray⟩ : ByteArray).size = l.length := by simp [ByteArray.size]
theorem ba_self (s : ByteArray) : (⟨s.data.toList.toArray⟩ : ByteArray) = s := by simp
theorem dl (s : ByteArray) : s.data.toList.length = s.size := Array.length_toList
/-- Strings put together, as the walk has it. -/
theorem ba_app_r (s : ByteArray) (b : List UInt8) : (s ++ (⟨b.toArray⟩ : ByteArray)) = ⟨(s.data.toList ++ b).toArray⟩ := by
  rw [← ba_app, ba_self]
theorem ba_app_l (a : List UInt8) (s : ByteArray) : ((⟨a.toArray⟩ : ByteArray) ++ s) = ⟨(a ++ s.data.toList).toArray⟩ := by
  rw [← ba_app, ba_self]

/-- Worlds that differ in the blocks of S and in new ones alone. -/
structure Fr (S : Nat → Prop) (w w' : World) : Prop where
  os : w'.os = w.os
  tape : w'.tape = w.tape
  output : w'.output = w.output
  size : w.heap.size ≤ w'.heap.size
  block : ∀ k, k < w.heap.size → ¬ S k → w'.heap[k]? = w.heap[k]?

theorem Fr.refl (S : Nat → Prop) (w : World) : Fr S w w := ⟨rfl, rfl, rfl, Nat.le_refl _, fun _ _ _ => rfl⟩
theorem Fr.mono {S T : Nat → Prop} {w w' : World} (h : Fr S w w') (hs : ∀ k, k < w.heap.size → S k → T k) : Fr T w w' :=
  ⟨h.os, h.tape, h.output, h.size, fun k hk hn => h.block k hk fun s => hn (hs k hk s)⟩
theorem Fr.trans {S T : Nat → Prop} {a b c : World} (h : Fr S a b) (k : Fr T b c) (ht : ∀ i, i < a.heap.size → T i → S i) : Fr S a c :=
  ⟨k.os.trans h.os, k.tape.trans h.tape, k.output.trans h.output, Nat.le_trans h.size k.size,
    fun i hi hn => (k.block i (Nat.lt_of_lt_of_le hi h.size) (fun t => hn (ht i hi t))).trans (h.block i hi hn)⟩
theorem Fr.of_below {S : Nat → Prop} {B : Nat} {w w' : World} (h : Below B w w') (hs : ∀ k, k < w.heap.size → B ≤ k → S k) : Fr S w w' :=
  ⟨h.os, h.tape, h.output, h.size, fun k hk hn => h.block k (by rcases Nat.lt_or_ge k B with hl | hl; exact hl; exact (hn (hs k hk hl)).elim)⟩
theorem Fr.below {S : Nat → Prop} {B : Nat} {w w' : World} (h : Fr S w w') (hB : B ≤ w.heap.size) (hs : ∀ k, k < w.heap.size → S k → B ≤ k) : Below B w w' :=
  ⟨h.os, h.tape, h.output, h.size, fun k hk => h.block k (by omega) fun s => by have := hs k (by omega) s; omega⟩
theorem Fr.of_grown {S : Nat → Prop} {row : Option Nat} {w w' : World} (h : w.grownBy w' row) (hs : ∀ k, row = some k → S k) : Fr S w w' :=
  ⟨h.os, h.tape, h.output, h.size, fun k hk hn => h.block k hk fun e => hn (hs k e.symm)⟩
theorem below_fr {B : Nat} {S : Nat → Prop} {a b c : World} (h : Below B a b) (k : Fr S b c) (hB : B ≤ b.heap.size) (hs : ∀ i, i < b.heap.size → S i → B ≤ i) : Below B a c :=
  h.trans (k.below hB hs)
theorem bel_trans {w a b : World} (h : Below w.heap.size w a) (k : Below a.heap.size a b) : Below w.heap.size w b := h.trans (k.mono h.size)
theorem bel_cell {w a : World} {p : Addr} {u : Value} (h : Below w.heap.size w a) (hc : w.cell? p = some u) : a.cell? p = some u := (h.cell (World.block_lt_of_cell? w _ hc)).trans hc
theorem bel_drewN (w : World) (n : Nat) : Below w.heap.size w (w.drewN n) := ⟨rfl, rfl, rfl, Nat.le_refl _, fun _ _ => rfl⟩
theorem bel_grow (w : World) (os : Array Obj) : Below w.heap.size w ({ w with heap := w.heap ++ os }) := ⟨rfl, rfl, rfl, by simp, fun k hk => by simp [Array.getElem?_append, hk]⟩
theorem var?_keep {P : Program} {w w' : World} {n : String} {cs : Array Value} (hv : w.var? P n = some cs) (h : Below w.heap.size w w') : w'.var? P n = some cs := by
  unfold World.var? at hv ⊢
  cases hg : P.globalNamed n with
  | none => simp [hg] at hv
  | some g =>
    simp only [hg, Option.bind_some] at hv ⊢
    have hlt : g < w.heap.size := by
      rcases Nat.lt_or_ge g w.heap.size with h' | h'
      · exact h'
      · simp [Array.getElem?_eq_none h'] at hv
    rw [h.block g hlt]
    exact hv
theorem Fr.cell {S : Nat → Prop} {w w' : World} (h : Fr S w w') {p : Addr} {u : Value} (hc : w.cell? p = some u) (hn : ¬ S p.block) : w'.cell? p = some u :=
  (World.cell?_of_block (w := w) (h.block p.block (World.block_lt_of_cell? w _ hc) hn)).trans hc

/-- The cells from an address on. -/
def Cells (w : World) (a : Option Addr) (xs : List Value) : Prop :=
  ∀ (j : Nat) (u : Value), xs[j]? = some u → ∃ b o, a = some ⟨b, o, none⟩ ∧ w.cell? ⟨b, o + j, none⟩ = some u

theorem Cells.nil (w : World) (a : Option Addr) : Cells w a [] := fun j u h => by simp at h
theorem Cells.below {w w' : World} {a : Option Addr} {xs : List Value} (h : Cells w a xs) (hb : Below w.heap.size w w') : Cells w' a xs := fun j u hj => by
  obtain ⟨b, o, ha, hc⟩ := h j u hj
  exact ⟨b, o, ha, (hb.cell (World.block_lt_of_cell? w _ hc)).trans hc⟩
theorem Cells.fr {S : Nat → Prop} {w w' : World} {a : Option Addr} {xs : List Value} (h : Cells w a xs) (hb : Fr S w w') (hn : ∀ b, a = some b → ¬ S b.block) : Cells w' a xs := fun j u hj => by
  obtain ⟨b, o, ha, hc⟩ := h j u hj
  exact ⟨b, o, ha, hb.cell hc (show ¬ S b from hn ⟨b, o, none⟩ ha)⟩
/-- The cells of a part of it. -/
theorem Cells.part {w : World} {a : Option Addr} {xs : List Value} (h : Cells w a xs) (k n : Nat) : Cells w (if k = 0 then a else a.map (·.add k)) ((xs.drop k).take n) := fun j u hj => by
  rw [List.getElem?_take] at hj
  split at hj
  · rw [List.getElem?_drop] at hj
    obtain ⟨b, o, ha, hc⟩ := h _ u hj
    by_cases hk : k = 0
    · subst hk
      refine ⟨b, o, by simpa using ha, by simpa using hc⟩
    · refine ⟨b, o + k, ?_, by rw [Nat.add_assoc]; exact hc⟩
      rw [if_neg hk, ha]
      simp [Addr.add, hk]
  · cases hj

/-- A byte as a cell. -/
def BV (c : UInt8) : Value := .int .u8 (c.toNat : Int)

/-- The slice value v reads as these bytes. -/
def RdB (w : World) (v : Value) (l : List UInt8) : Prop := ∃ a c, v = .slice a l.length c ∧ l.length ≤ c ∧ c ≤ maxLen ∧ Cells w a (l.map BV)
/-- .. as these strings. -/
def RdS (w : World) (v : Value) (l : List ByteArray) : Prop := ∃ a c, v = .slice a l.length c ∧ l.length ≤ c ∧ c ≤ maxLen ∧ Cells w a (l.map Value.string)
/-- .. as these ints. -/
def RdI (w : World) (v : Value) (l : List Int) : Prop := ∃ a c, v = .slice a l.length c ∧ l.length ≤ c ∧ c ≤ maxLen ∧ Cells w a (l.map (Value.int .i64))

theorem RdB.below {w w' : World} {v : Value} {l : List UInt8} (h : RdB w v l) (hb : Below w.heap.size w w') : RdB w' v l := by
  obtain ⟨a, c, hv, h1, h2, hc⟩ := h; exact ⟨a, c, hv, h1, h2, hc.below hb⟩
theorem RdS.below {w w' : World} {v : Value} {l : List ByteArray} (h : RdS w v l) (hb : Below w.heap.size w w') : RdS w' v l := by
  obtain ⟨a, c, hv, h1, h2, hc⟩ := h; exact ⟨a, c, hv, h1, h2, hc.below hb⟩
theorem RdI.below {w w' : World} {v : Value} {l : List Int} (h : RdI w v l) (hb : Below w.heap.size w w') : RdI w' v l := by
  obtain ⟨a, c, hv, h1, h2, hc⟩ := h; exact ⟨a, c, hv, h1, h2, hc.below hb⟩

/-- Each of the bytes, as a walk reads it. -/
theorem Cells.byte {w : World} {a : Option Addr} {l : List UInt8} (h : Cells w a (l.map BV)) (i : Nat) (hi : i < l.length) : ∃ b o, a = some ⟨b, o, none⟩ ∧ w.cell? ⟨b, o + i, none⟩ = some (.int .u8 (l[i].toNat : Int)) :=
  h i _ (by simp [hi, BV])
theorem Cells.str {w : World} {a : Option Addr} {l : List ByteArray} (h : Cells w a (l.map Value.string)) (i : Nat) (hi : i < l.length) : ∃ b o, a = some ⟨b, o, none⟩ ∧ w.cell? ⟨b, o + i, none⟩ = some (.string l[i]) :=
  h i _ (by simp [hi])
theorem Cells.num {w : World} {a : Option Addr} {l : List Int} (h : Cells w a (l.map (Value.int .i64))) (i : Nat) (hi : i < l.length) : ∃ b o, a = some ⟨b, o, none⟩ ∧ w.cell? ⟨b, o + i, none⟩ = some (.int .i64 l[i]) :=
  h i _ (by simp [hi])

theorem addr_add (b o j : Nat) : (⟨b, o, none⟩ : Addr).add j = ⟨b, o + j, none⟩ := by
  unfold Addr.add
  by_cases h : j = 0
  · subst h; rfl
  · rw [if_neg h]

theorem one_BV (l : List UInt8) : ∀ u ∈ l.map BV, u.oneCell' = true := by
  intro u hu; obtain ⟨c, _, rfl⟩ := List.mem_map.1 hu; rfl
theorem one_str (l : List ByteArray) : ∀ u ∈ l.map Value.string, u.oneCell' = true := by
  intro u hu; obtain ⟨c, _, rfl⟩ := List.mem_map.1 hu; rfl
theorem one_int (l : List Int) : ∀ u ∈ l.map (Value.int .i64), u.oneCell' = true := by
  intro u hu; obtain ⟨c, _, rfl⟩ := List.mem_map.1 hu; rfl

/-- 'string(v)'. -/
theorem run_str {P : Program} {w : World} {src e dst : TypeId} (hs : P.underlying src = some (.slice e)) (he : P.underlying e = some (.int .u8)) (hd : P.underlying dst = some .string)
    {v : Value} {l : List UInt8} (h : RdB w v l) : (convert src dst v).run P w = .ok (.string ⟨l.toArray⟩) w := by
  obtain ⟨a, c, rfl, _, _, hc⟩ := h
  have e1 : strOfNums (l.map fun c => (c.toNat : Int)) = ⟨l.toArray⟩ := by
    simp [strOfNums, List.map_map, Function.comp_def]
  cases l with
  | nil =>
    cases a with
    | none => exact run_convert_bytes_nil w src e hs he 0 c dst hd
    | some a =>
      have hl : (loadCells a 0).run P w = .ok (([] : List Int).map (Value.int .u8)).toArray w := by simp [loadCells, loadCellsFrom]
      rw [run_convert_bytes_string w src dst e _ _ c hs he hd]
      exact run_bytesToString (P := P) w a 0 c [] hl
  | cons x l =>
    obtain ⟨b, o, rfl, _⟩ := hc.byte 0 (by simp)
    rw [← e1]
    refine run_convert_bytes_arg w src e hs he b o _ c _ (by simp) (fun i hi => ?_) dst hd
    obtain ⟨b', o', he', h'⟩ := hc.byte i hi
    cases he'
    rw [h']
    have e2 : ((x :: l).map fun c => (c.toNat : Int)).getD i 0 = ((x :: l)[i].toNat : Int) := by
      rw [List.getD, List.getElem?_map, List.getElem?_eq_getElem hi]; rfl
    rw [e2]

/-- What a type is that slices are made of. -/
structure ElT (P : Program) (t e : TypeId) (size bytes : Nat) : Prop where
  und : P.underlying t = some (.slice e)
  info : ∃ i z, P.info? e = some i ∧ i.zero = some z ∧ i.size = size ∧ i.bytes = bytes ∧ z.cells.size = size
  pos : 0 < size

/-- The slice value v of n elements owns the cells xs: nil, or at the head of a block from B on, of which nothing up to its capacity is frozen. -/
def Own (w : World) (B : Nat) (e : TypeId) (size : Nat) (v : Value) (n : Nat) (xs : List Value) : Prop :=
  xs.length = n * size ∧
  ((v = .slice none 0 0 ∧ n = 0) ∨
   ∃ g cap cur lo hi, v = .slice (some ⟨g, 0, none⟩) n cap ∧ B ≤ g ∧ w.heap[g]? = some (.cells cur e (lo, hi)) ∧ (hi ≤ lo ∨ cap * size ≤ lo) ∧ n ≤ cap ∧ cap ≤ maxLen ∧ cap * size ≤ cur.size ∧ cur.toList.take (n * size) = xs)

theorem Own.nil (w : World) (B : Nat) (e : TypeId) (size : Nat) : Own w B e size (.slice none 0 0) 0 [] := ⟨by simp, .inl ⟨rfl, rfl⟩⟩
theorem Own.of_row {w : World} {B : Nat} {e : TypeId} {size : Nat} {v : Value} {n : Nat} {xs : List Value} (h : w.ownsRow B e size v n xs) : Own w B e size v n xs := by
  refine ⟨h.1, ?_⟩
  rcases h.2 with h | ⟨g, cap, cur, hv, hg, hh, h1, h2, h3, h4⟩
  · exact .inl h
  · exact .inr ⟨g, cap, cur, 0, 0, hv, hg, hh, .inl (Nat.le_refl _), h1, h2, by omega, h4⟩
theorem Own.mono {w : World} {B B' : Nat} {e : TypeId} {size : Nat} {v : Value} {n : Nat} {xs : List Value} (h : Own w B e size v n xs) (hB : B' ≤ B) : Own w B' e size v n xs := by
  refine ⟨h.1, ?_⟩
  rcases h.2 with h | ⟨g, cap, cur, lo, hi, hv, hg, r⟩
  · exact .inl h
  · exact .inr ⟨g, cap, cur, lo, hi, hv, by omega, r⟩
theorem Own.lt {w : World} {B : Nat} {e : TypeId} {size : Nat} {v : Value} {n : Nat} {xs : List Value} (h : Own w B e size v n xs) : ∀ k, v.ownBlock = some k → B ≤ k ∧ k < w.heap.size := by
  intro k hk
  rcases h.2 with ⟨rfl, _⟩ | ⟨g, cap, cur, lo, hi, rfl, hb, hg, _⟩
  · simp [Value.ownBlock] at hk
  · simp [Value.ownBlock] at hk
    subst hk
    exact ⟨hb, (Array.getElem?_eq_some_iff.1 hg).1⟩
theorem Own.fr {S : Nat → Prop} {w w' : World} {B : Nat} {e : TypeId} {size : Nat} {v : Value} {n : Nat} {xs : List Value} (h : Own w B e size v n xs) (hf : Fr S w w') (hn : ∀ k, v.ownBlock = some k → ¬ S k) : Own w' B e size v n xs := by
  refine ⟨h.1, ?_⟩
  rcases h.2 with h | ⟨g, cap, cur, lo, hi, rfl, hb, hg, r⟩
  · exact .inl h
  · refine .inr ⟨g, cap, cur, lo, hi, rfl, hb, ?_, r⟩
    rw [hf.block g (Array.getElem?_eq_some_iff.1 hg).1 (hn g rfl)]
    exact hg
theorem Own.below {w w' : World} {B : Nat} {e : TypeId} {size : Nat} {v : Value} {n : Nat} {xs : List Value} (h : Own w B e size v n xs) (hb : Below w.heap.size w w') : Own w' B e size v n xs :=
  h.fr (S := fun _ => False) (Fr.of_below hb fun k h1 h2 => by omega) fun _ _ => id
theorem Fr.alloc (S : Nat → Prop) (w : World) (o : Obj) : Fr S w (w.alloc o) := ⟨rfl, rfl, rfl, by simp, fun k hk _ => Below.heap_alloc w o k hk⟩
theorem Fr.drew (S : Nat → Prop) (w : World) : Fr S w w.drew := ⟨rfl, rfl, rfl, Nat.le_refl _, fun _ _ _ => rfl⟩
theorem Own.alloc {w : World} {B : Nat} {e : TypeId} {size : Nat} {v : Value} {n : Nat} {xs : List Value} (h : Own w B e size v n xs) (o : Obj) : Own (w.alloc o) B e size v n xs :=
  h.fr (Fr.alloc (fun _ => False) w o) fun _ _ => id
theorem Own.drew {w : World} {B : Nat} {e : TypeId} {size : Nat} {v : Value} {n : Nat} {xs : List Value} (h : Own w B e size v n xs) : Own w.drew B e size v n xs :=
  h.fr (Fr.drew (fun _ => False) w) fun _ _ => id
theorem Own.cells {w : World} {B : Nat} {e : TypeId} {size : Nat} {v : Value} {n : Nat} {xs : List Value} (h : Own w B e size v n xs) : ∃ a c, v = .slice a n c ∧ n ≤ c ∧ c ≤ maxLen ∧ Cells w a xs := by
  rcases h with ⟨hl, ⟨rfl, rfl⟩ | ⟨g, cap, cur, lo, hi, rfl, hb, hg, hf, hn, hm, hc, ht⟩⟩
  · refine ⟨none, 0, rfl, Nat.le_refl _, Nat.zero_le _, ?_⟩
    have : xs = [] := List.eq_nil_of_length_eq_zero (by simpa using hl)
    subst this
    exact Cells.nil _ _
  · refine ⟨_, _, rfl, hn, hm, fun j u hj => ⟨g, 0, rfl, ?_⟩⟩
    rw [← ht, List.getElem?_take] at hj
    split at hj
    · simp only [World.cell?, hg, Nat.zero_add]
      simpa using hj
    · cases hj
theorem Own.rdB {w : World} {B : Nat} {e : TypeId} {v : Value} {l : List UInt8} (h : Own w B e 1 v l.length (l.map BV)) : RdB w v l := h.cells
theorem Own.rdS {w : World} {B : Nat} {e : TypeId} {v : Value} {l : List ByteArray} (h : Own w B e 1 v l.length (l.map Value.string)) : RdS w v l := h.cells
theorem Own.rdI {w : World} {B : Nat} {e : TypeId} {v : Value} {l : List Int} (h : Own w B e 1 v l.length (l.map (Value.int .i64))) : RdI w v l := h.cells

/-- What an append takes. -/
theorem Src.rdB {P : Program} {w : World} {tx e' : TypeId} (hk : P.underlying tx = some (.slice e')) {v : Value} {l : List UInt8} (h : RdB w v l) : Src P 1 tx v l.length (l.map BV) w := by
  obtain ⟨a, c, rfl, _, _, hc⟩ := h
  cases a with
  | none =>
    cases l with
    | nil => exact Src.ofNil w hk c
    | cons x l => obtain ⟨b, o, e, _⟩ := hc.byte 0 (by simp); cases e
  | some a =>
    refine Src.ofSlice w hk a _ c _ (by simp) (fun j u hj => ?_) (one_BV l)
    obtain ⟨b, o, e, h'⟩ := hc j u hj
    cases e
    rw [addr_add]
    exact h'
theorem Src.str {P : Program} {w : World} {tx : TypeId} (hk : P.underlying tx = some .string) (s : ByteArray) : Src P 1 tx (.string s) s.data.toList.length (s.data.toList.map BV) w := by
  have h := Src.ofString (P := P) w hk s
  have e : s.data.toList.length = s.size := Array.length_toList
  rw [e]
  exact h
theorem Src.strL {P : Program} {w : World} {tx : TypeId} (hk : P.underlying tx = some .string) (l : List UInt8) : Src P 1 tx (.string ⟨l.toArray⟩) l.length (l.map BV) w := by
  have h := Src.str (P := P) (w := w) hk ⟨l.toArray⟩
  simpa using h
/-- One new cell, at the block that was just laid. -/
theorem Src.one1 {P : Program} {w : World} {tx e' e : TypeId} (hk : P.underlying tx = some (.slice e')) (u : Value) (h1 : u.oneCell' = true) : Src P 1 tx (.slice (some ⟨w.heap.size, 0, none⟩) 1 1) 1 [u] (w.alloc (.cells #[u] e)) :=
  Src.ofSlice _ hk _ 1 1 [u] rfl (fun j v hj => by
    match j, hj with
    | 0, hj =>
      simp at hj
      subst hj
      rw [addr_add]
      exact World.cell?_alloc_new w #[u] e 0) (by simpa using h1)

theorem heap_setCell_at (w : World) (g o : Nat) (v : Value) (cur : Array Value) (e : TypeId) (fr : Nat × Nat) (h : w.heap[g]? = some (.cells cur e fr)) :
    (w.setCell ⟨g, o, none⟩ v).heap[g]? = some (.cells (cur.setIfInBounds o v) e fr) := by
  simp [World.setCell, Array.getElem?_modify, h]
theorem setCells_at (g : Nat) (e : TypeId) (fr : Nat × Nat) : ∀ (vs : List Value) (o : Nat) (w : World) (cur : Array Value), w.heap[g]? = some (.cells cur e fr) → o + vs.length ≤ cur.size →
    ∃ cur' : Array Value, (w.setCells g o vs).heap[g]? = some (.cells cur' e fr) ∧ cur'.size = cur.size ∧ cur'.toList.take (o + vs.length) = cur.toList.take o ++ vs
  | [], o, w, cur, h, _ => ⟨cur, h, rfl, by simp⟩
  | v :: r, o, w, cur, h, hl => by
    simp only [List.length_cons] at hl
    obtain ⟨cur', h1, h2, h3⟩ := setCells_at g e fr r (o + 1) (w.setCell ⟨g, o, none⟩ v) (cur.setIfInBounds o v) (heap_setCell_at w g o v cur e fr h) (by simp; omega)
    refine ⟨cur', h1, by simpa using h2, ?_⟩
    rw [show o + (v :: r).length = o + 1 + r.length by simp; omega, h3]
    have : (cur.setIfInBounds o v).toList.take (o + 1) = cur.toList.take o ++ [v] := by
      rw [Array.toList_setIfInBounds, List.take_succ_eq_append_getElem (by simp; omega)]
      simp [List.take_set_of_le]
    rw [this, List.append_assoc]
    rfl
theorem setCells_fr (g : Nat) : ∀ (vs : List Value) (o : Nat) (w : World), w.grownBy (w.setCells g o vs) (some g)
  | [], _, w => ⟨rfl, rfl, rfl, Nat.le_refl _, fun _ _ _ => rfl⟩
  | v :: r, o, w => by
    have h := setCells_fr g r (o + 1) (w.setCell ⟨g, o, none⟩ v)
    refine ⟨h.os, h.tape, h.output, ?_, fun k hk hne => ?_⟩
    · have h1 := h.size
      rw [World.size_setCell] at h1
      exact h1
    rw [show w.setCells g o (v :: r) = (w.setCell ⟨g, o, none⟩ v).setCells g (o + 1) r from rfl, h.block k (by simpa [World.setCell] using hk) hne]
    exact Below.heap_setCell _ _ _ _ (fun e => hne (by rw [e]))

theorem frozen_at {w : World} {g j : Nat} {cur : Array Value} {e : TypeId} {lo hi : Nat} (h : w.heap[g]? = some (.cells cur e (lo, hi))) (hf : hi ≤ lo ∨ j < lo) : w.frozen? ⟨g, j, none⟩ = false := by
  simp only [World.frozen?, h]
  rcases hf with hf | hf <;> simp <;> omega
theorem cell_at {w : World} {g j : Nat} {cur : Array Value} {e : TypeId} {fr : Nat × Nat} (h : w.heap[g]? = some (.cells cur e fr)) : w.cell? ⟨g, j, none⟩ = cur[j]? := by
  simp [World.cell?, h]

/-- append, onto a row that is owned, of whatever source. -/
theorem run_app {P : Program} (w : World) (t tx ty e : TypeId) (size bytes : Nat) (E : ElT P t e size bytes) (B : Nat) (v : Value) (n : Nat) (xs : List Value) (hown : Own w B e size v n xs)
    (x : Value) (m : Nat) (news : List Value) (hs : Src P size tx x m news w) (hb : (n + m) * bytes ≤ 140737488355328) (h63 : n + m ≤ maxLen) (hB : B ≤ w.heap.size) :
    ∃ v' w', (Builtin.append_ #[t, tx] ty #[v, x]).run P w = .ok v' w' ∧ Own w' B e size v' (n + m) (xs ++ news) ∧ w.grownBy w' v.ownBlock ∧ (∀ k, v'.ownBlock = some k → v.ownBlock = some k ∨ w.heap.size ≤ k) := by
  obtain ⟨ht, ⟨i, z, hi, hz, rfl, rfl, hzs⟩, hpos⟩ := E
  have hlen : (xs ++ news).length = (n + m) * i.size := by rw [List.length_append, hown.1, hs.newsLen, Nat.add_mul]
  have grown : ∀ (old : Nat), old < n + m → ∀ (row : Option Nat),
      Own (w.drew.alloc (.cells ((xs ++ news).toArray ++ Builtin.zeroCells z.cells (grownCap w (n + m) old e - (n + m))) e)) B e i.size
        (.slice (some ⟨w.heap.size, 0, none⟩) (n + m) (grownCap w (n + m) old e)) (n + m) (xs ++ news) ∧
      w.grownBy (w.drew.alloc (.cells ((xs ++ news).toArray ++ Builtin.zeroCells z.cells (grownCap w (n + m) old e - (n + m))) e)) row := by
    intro old ho row
    have hge := grownCap_ge w (n + m) old e
    have hcm : grownCap w (n + m) old e ≤ maxLen := grownCap_le_maxLen w (n + m) old e h63
    refine ⟨⟨hlen, .inr ⟨w.heap.size, _, _, 0, 0, rfl, hB, heap_alloc_new w.drew _, .inl (Nat.le_refl _), hge, hcm, ?_, ?_⟩⟩, ⟨rfl, rfl, rfl, by simp, fun k hk _ => Below.heap_alloc w.drew _ k hk⟩⟩
    · simp only [Array.size_append, List.size_toArray, size_zeroCells, hzs, hlen, ← Nat.add_mul]
      refine Nat.mul_le_mul_right _ ?_
      omega
    · rw [Array.toList_append, List.toList_toArray, ← hlen]
      exact List.take_left
  have grow : ∀ (base : Option Addr) (cap : Nat), v = .slice base n cap → cap < n + m → Cells w base xs → ∀ row,
      ∃ v' w', (Builtin.append_ #[t, tx] ty #[v, x]).run P w = .ok v' w' ∧ Own w' B e i.size v' (n + m) (xs ++ news) ∧ w.grownBy w' row ∧ (∀ k, v'.ownBlock = some k → v.ownBlock = some k ∨ w.heap.size ≤ k) := by
    intro base cap hv hcap hc row
    have hold : (Builtin.firstCells i.size n (.slice base n cap)).run P w.drew = .ok xs.toArray w.drew := by
      cases base with
      | none =>
        cases xs with
        | nil => exact run_firstCells_none w.drew i.size n n cap
        | cons u r => obtain ⟨b, o, e, _⟩ := hc 0 u rfl; cases e
      | some a =>
        refine run_firstCells_some w.drew i.size n a n cap xs hown.1 (fun j u hj => ?_)
        obtain ⟨b, o, e, h'⟩ := hc j u hj
        cases e
        rw [addr_add]
        exact h'
    have hr := run_append_grow_src (P := P) w t tx ty e i z ht hi hz base n cap xs hold x m news hs hcap (by simp only [maxLen] at h63; omega) (growslice_fits (by omega) hb)
    have hgr := grown cap (by omega) row
    refine ⟨_, _, by rw [hv]; exact hr, hgr.1, hgr.2, fun k hk => .inr ?_⟩
    simp [Value.ownBlock] at hk
    omega
  have hown' := hown
  rcases hown.2 with ⟨rfl, rfl⟩ | ⟨g, cap, cur, lo, hi', rfl, hbg, hg, hf, hnc, hcm, hcs, htake⟩
  · have hx : xs = [] := List.eq_nil_of_length_eq_zero (by simpa using hown.1)
    subst hx
    by_cases hm : m = 0
    · subst hm
      have hn : news = [] := List.eq_nil_of_length_eq_zero (by simpa using hs.newsLen)
      subst hn
      refine ⟨.slice none 0 0, w, ?_, Own.nil w B e i.size, ⟨rfl, rfl, rfl, Nat.le_refl _, fun _ _ _ => rfl⟩, by simp [Value.ownBlock]⟩
      rcases hs.kind with ⟨e', hk⟩ | hk <;> simp [Builtin.append_, run_underlying ht, run_underlying hk, sizeOf, typeInfo, hi, hs.len, hs.cells]
    · exact grow none 0 rfl (by omega) (Cells.nil _ _) _
  · by_cases hroom : n + m ≤ cap
    · have hfit : n * i.size + news.length ≤ cap * i.size := by rw [hs.newsLen, ← Nat.add_mul]; exact Nat.mul_le_mul_right _ hroom
      have hcell : ∀ j, w.cell? ⟨g, j, none⟩ = cur[j]? := fun j => cell_at hg
      have hr := run_append_room_src (P := P) w t tx ty e i ht hi g 0 n cap x m news hs hroom (fun j hj => by rw [hcell]; simp; omega) (fun j hj => frozen_at hg (by omega))
      obtain ⟨cur', h1, h2, h3⟩ := setCells_at g e (lo, hi') news (0 + n * i.size) w cur hg (by omega)
      refine ⟨_, _, hr, ⟨hlen, .inr ⟨g, cap, cur', lo, hi', rfl, hbg, h1, hf, hroom, hcm, by omega, ?_⟩⟩, setCells_fr g news _ w, fun k hk => .inl (by simpa [Value.ownBlock] using hk)⟩
      have e1 : (n + m) * i.size = 0 + n * i.size + news.length := by rw [hs.newsLen, Nat.add_mul]; omega
      rw [e1, h3, Nat.zero_add, htake]
    · obtain ⟨a, c, ha, _, _, hc⟩ := hown'.cells
      cases ha
      exact grow _ cap rfl (by omega) hc _

theorem wpList_app {P : Program} {w : World} {ops : Array Oper} {rest : List Oper} {o : Oper} {a : Act} {Q : Exit → Act → World → Prop} (s x : Operand) (t tx : TypeId)
    (hgd : o.guard = none) (ho : o.op = .call { callee := .builtin .append, args := #[s, x], argTypes := #[t, tx] })
    {e : TypeId} {size bytes : Nat} (E : ElT P t e size bytes) (B : Nat) {v : Value} {n : Nat} {xs : List Value} (hown : Own w B e size v n xs) (hs : a.eval s = v)
    {xv : Value} {m : Nat} {news : List Value} (hsrc : Src P size tx xv m news w) (hx : a.eval x = xv) (hb : (n + m) * bytes ≤ 140737488355328) (h63 : n + m ≤ maxLen) (hB : B ≤ w.heap.size)
    (h : ∀ v' w', Own w' B e size v' (n + m) (xs ++ news) → w.grownBy w' v.ownBlock → (∀ k, v'.ownBlock = some k → v.ownBlock = some k ∨ w.heap.size ≤ k) → wpList P ops Q rest (a.put o.dst v') w') : wpList P ops Q (o :: rest) a w := by
  refine wpList_plain hgd fun K hK => ?_
  obtain ⟨v', w', hr, h2, h3, h4⟩ := run_app (P := P) w t tx o.type e size bytes E B v n xs hown xv m news hsrc hb h63 hB
  unfold Oper.wp execOp
  simp only [ho, resolve, invoke, builtin, Sem.run_bind, Sem.run_pure, Result.andThen_ok, List.map_toArray, List.map_cons, List.map_nil, hs, hx, hr]
  exact hK _ _ (h v' w' h2 h3 h4)

theorem below_own {B : Nat} {w0 w w1 : World} {e : TypeId} {size : Nat} {v : Value} {n : Nat} {xs : List Value} (hb : Below B w0 w) (hB : B ≤ w.heap.size) (ho : Own w B e size v n xs) (hg : w.grownBy w1 v.ownBlock) : Below B w0 w1 :=
  hb.grown hg hB fun k hk => (ho.lt k hk).1
theorem ret_agree {v v' : Value} (h : v = v') : Ending.returned v = .returned v' := by rw [h]

/-- A step by append: what is known of the worlds. -/
theorem fr_app {S : Nat → Prop} {w0 w w1 : World} {v : Value} (hf : Fr S w0 w) (hg : w.grownBy w1 v.ownBlock) (hs : ∀ k, v.ownBlock = some k → k < w0.heap.size → S k) : Fr S w0 w1 :=
  hf.trans (Fr.of_grown (S := fun k => v.ownBlock = some k) hg fun _ h => h) fun i hi h => hs i h hi
theorem fr_bel {S : Nat → Prop} {w0 w w1 : World} (hf : Fr S w0 w) (hb : Below w.heap.size w w1) : Fr S w0 w1 :=
  hf.trans (Fr.of_below (S := fun _ => False) hb fun k h1 h2 => by omega) fun i _ h => h.elim
theorem fr_alloc {S : Nat → Prop} {w0 w : World} (hf : Fr S w0 w) (o : Obj) : Fr S w0 (w.alloc o) :=
  hf.trans (Fr.alloc (fun _ => False) w o) fun i _ h => h.elim
/-- Where a row that was appended to lies. -/
def Moved (w0 : World) (v v' : Value) : Prop := ∀ k, v'.ownBlock = some k → v.ownBlock = some k ∨ w0.heap.size ≤ k
theorem Moved.refl (w0 : World) (v : Value) : Moved w0 v v := fun _ h => .inl h
theorem Moved.step {w0 w : World} {a b c : Value} (h : Moved w0 a b) (hz : w0.heap.size ≤ w.heap.size) (k : ∀ i, c.ownBlock = some i → b.ownBlock = some i ∨ w.heap.size ≤ i) : Moved w0 a c := fun i hi => by
  rcases k i hi with h1 | h1
  · exact h i h1
  · exact .inr (by omega)
theorem Moved.fr {S : Nat → Prop} {w0 : World} {a b : Value} (h : Moved w0 a b) (hs : ∀ k, a.ownBlock = some k → S k) : ∀ k, b.ownBlock = some k → k < w0.heap.size → S k := fun k hk hl => by
  rcases h k hk with h1 | h1
  · exact hs k h1
  · omega

theorem Own.to {w : World} {B : Nat} {e : TypeId} {v : Value} {n : Nat} {xs : List Value} (h : Own w B e 1 v n xs) {l : List UInt8} (hl : xs = l.map BV) : Own w B e 1 v l.length (l.map BV) := by
  have h1 := h.1
  rw [hl, List.length_map, Nat.mul_one] at h1
  rw [h1, ← hl]
  exact h
theorem Own.toS {w : World} {B : Nat} {e : TypeId} {v : Value} {n : Nat} {xs : List Value} (h : Own w B e 1 v n xs) {l : List ByteArray} (hl : xs = l.map Value.string) : Own w B e 1 v l.length (l.map Value.string) := by
  have h1 := h.1
  rw [hl, List.length_map, Nat.mul_one] at h1
  rw [h1, ← hl]
  exact h

/-- Two rows in blocks of their own. -/
def Sep (a b : Value) : Prop := ∀ k, a.ownBlock = some k → b.ownBlock ≠ some k
theorem Sep.symm {a b : Value} (h : Sep a b) : Sep b a := fun k h1 h2 => h k h2 h1
theorem Sep.nil {p : Option Addr} (b : Value) (h : p = none) (n c : Nat) : Sep (.slice p n c) b := fun k hk => by subst h; simp [Value.ownBlock] at hk
theorem Sep.step {w : World} {B : Nat} {e : TypeId} {size : Nat} {n : Nat} {xs : List Value} {a a' b : Value} (h : Sep a b) (ho : Own w B e size b n xs) (hm : ∀ k, a'.ownBlock = some k → a.ownBlock = some k ∨ w.heap.size ≤ k) : Sep a' b := fun k hk hb => by
  rcases hm k hk with h1 | h1
  · exact h k h1 hb
  · have := (ho.lt k hb).2; omega
theorem Sep.new {w : World} {B B' : Nat} {e : TypeId} {size : Nat} {n : Nat} {xs : List Value} {e' : TypeId} {size' : Nat} {n' : Nat} {xs' : List Value} {w' : World} {a b : Value} (ha : Own w' B' e' size' a n' xs') (hB : w.heap.size ≤ B') (ho : Own w B e size b n xs) : Sep a b := fun k hk hb => by
  have h1 := (ha.lt k hk).1
  have h2 := (ho.lt k hb).2
  omega
theorem Own.keep {w w1 : World} {B : Nat} {e : TypeId} {size : Nat} {v a : Value} {n : Nat} {xs : List Value} (h : Own w B e size v n xs) (hg : w.grownBy w1 a.ownBlock) (hs : Sep a v) : Own w1 B e size v n xs :=
  h.fr (S := fun k => a.ownBlock = some k) (Fr.of_grown hg fun _ h => h) fun k hk h1 => hs k h1 hk
theorem Own.keepFr {S : Nat → Prop} {w w1 : World} {B : Nat} {e : TypeId} {size : Nat} {v a : Value} {n : Nat} {xs : List Value} (h : Own w B e size v n xs) (hg : Fr S w w1) (hS : ∀ k, S k → a.ownBlock = some k) (hs : Sep a v) : Own w1 B e size v n xs :=
  h.fr hg fun k hk h1 => hs k (hS k h1) hk
/-- A store into a row that is owned. -/
theorem Own.set {w : World} {B : Nat} {e : TypeId} {g n c : Nat} {xs : List Value} (h : Own w B e 1 (.slice (some ⟨g, 0, none⟩) n c) n xs) (i : Nat) (u : Value) :
    Own (w.setCell ⟨g, i, none⟩ u) B e 1 (.slice (some ⟨g, 0, none⟩) n c) n (xs.set i u) := by
  obtain ⟨hl, hr | ⟨g', cap, cur, lo, hi, hv, hB, hg, hf, h1, h2, h3, h4⟩⟩ := h
  · cases hr.1
  · cases hv
    refine ⟨by simpa using hl, .inr ⟨g, c, _, lo, hi, rfl, hB, heap_setCell_at w g i u cur e (lo, hi) hg, hf, h1, h2, by simpa using h3, ?_⟩⟩
    rw [Array.toList_setIfInBounds, ← h4, List.take_set]
theorem Own.cellAt {w : World} {B : Nat} {e : TypeId} {g n c : Nat} {xs : List Value} (h : Own w B e 1 (.slice (some ⟨g, 0, none⟩) n c) n xs) (i : Nat) (u : Value) (hu : xs[i]? = some u) :
    w.cell? ⟨g, i, none⟩ = some u ∧ w.frozen? ⟨g, i, none⟩ = false := by
  obtain ⟨hl, hr | ⟨g', cap, cur, lo, hi, hv, hB, hg, hf, h1, h2, h3, h4⟩⟩ := h
  · cases hr.1
  · cases hv
    have hin : i < n := by
      have := (List.getElem?_eq_some_iff.1 hu).1; omega
    refine ⟨?_, frozen_at hg (by omega)⟩
    rw [cell_at hg]
    rw [← h4, List.getElem?_take] at hu
    split at hu
    · simpa using hu
    · cases hu
theorem grown_setCell (w : World) (g i : Nat) (u : Value) : w.grownBy (w.setCell ⟨g, i, none⟩ u) (some g) :=
  ⟨rfl, rfl, rfl, by simp, fun k _ hne => Below.heap_setCell _ _ _ _ (fun e => hne (by rw [e]))⟩
theorem Own.cast {w : World} {B : Nat} {e : TypeId} {size : Nat} {v : Value} {n m : Nat} {xs ys : List Value} (h : Own w B e size v n xs) (hn : n = m) (hx : xs = ys) : Own w B e size v m ys := by subst hn; subst hx; exact h
theorem Below.own_fr {B : Nat} {S : Nat → Prop} {w0 w w1 : World} {e : TypeId} {size : Nat} {v : Value} {n : Nat} {xs : List Value} (hb : Below B w0 w) (hB : B ≤ w.heap.size) (ho : Own w B e size v n xs) (hf : Fr S w w1) (hS : ∀ k, S k → v.ownBlock = some k) : Below B w0 w1 :=
  below_fr hb hf hB fun k _ h => (ho.lt k (hS k h)).1

/-- A row of one-cell elements that is owned. -/
abbrev OwnL (w : World) (B : Nat) (e : TypeId) (v : Value) (xs : List Value) : Prop := Own w B e 1 v xs.length xs
theorem Own.toL {w : World} {B : Nat} {e : TypeId} {v : Value} {n : Nat} {xs ys : List Value} (h : Own w B e 1 v n xs) (hx : xs = ys) : OwnL w B e v ys := by
  subst hx
  have h1 := h.1
  rw [Nat.mul_one] at h1
  unfold OwnL
  rw [h1]; exact h
theorem OwnL.rdB {w : World} {B : Nat} {e : TypeId} {v : Value} {l : List UInt8} (h : OwnL w B e v (l.map BV)) : RdB w v l := by
  have := Own.cells h
  rwa [List.length_map] at this
theorem OwnL.rdS {w : World} {B : Nat} {e : TypeId} {v : Value} {l : List ByteArray} (h : OwnL w B e v (l.map Value.string)) : RdS w v l := by
  have := Own.cells h
  rwa [List.length_map] at this

/-- Three rows in blocks of their own, made since w0. -/
structure Tri (w0 w : World) (e1 e2 e3 : TypeId) (a b c : Value) (la lb lc : List Value) : Prop where
  oa : OwnL w w0.heap.size e1 a la
  ob : OwnL w w0.heap.size e2 b lb
  oc : OwnL w w0.heap.size e3 c lc
  ab : Sep a b
  ac : Sep a c
  bc : Sep b c
  be : Below w0.heap.size w0 w
theorem Tri.bel {w0 w w' : World} {e1 e2 e3 : TypeId} {a b c : Value} {la lb lc : List Value} (h : Tri w0 w e1 e2 e3 a b c la lb lc) (hb : Below w.heap.size w w') : Tri w0 w' e1 e2 e3 a b c la lb lc :=
  ⟨h.oa.below hb, h.ob.below hb, h.oc.below hb, h.ab, h.ac, h.bc, h.be.trans (hb.mono h.be.size)⟩
theorem Tri.alloc {w0 w : World} {e1 e2 e3 : TypeId} {a b c : Value} {la lb lc : List Value} (h : Tri w0 w e1 e2 e3 a b c la lb lc) (o : Obj) : Tri w0 (w.alloc o) e1 e2 e3 a b c la lb lc :=
  h.bel ((Below.refl _ _).alloc (Nat.le_refl _) o)
theorem Tri.rot {w0 w : World} {e1 e2 e3 : TypeId} {a b c : Value} {la lb lc : List Value} (h : Tri w0 w e1 e2 e3 a b c la lb lc) : Tri w0 w e2 e3 e1 b c a lb lc la :=
  ⟨h.ob, h.oc, h.oa, h.bc, h.ab.symm, h.ac.symm, h.be⟩
theorem Tri.app {w0 w w1 : World} {e1 e2 e3 : TypeId} {a b c a1 : Value} {la lb lc : List Value} (h : Tri w0 w e1 e2 e3 a b c la lb lc) {n : Nat} {xs ys : List Value} (ho : Own w1 w0.heap.size e1 1 a1 n xs) (hx : xs = ys) (hg : w.grownBy w1 a.ownBlock)
    (hk : ∀ k, a1.ownBlock = some k → a.ownBlock = some k ∨ w.heap.size ≤ k) : Tri w0 w1 e1 e2 e3 a1 b c ys lb lc :=
  ⟨ho.toL hx, h.ob.keep hg h.ab, h.oc.keep hg h.ac, h.ab.step h.ob hk, h.ac.step h.oc hk, h.bc, below_own h.be h.be.size h.oa hg⟩
theorem Tri.fr {S : Nat → Prop} {w0 w w1 : World} {e1 e2 e3 : TypeId} {a b c a1 : Value} {la lb lc ys : List Value} (h : Tri w0 w e1 e2 e3 a b c la lb lc) (ho : OwnL w1 w0.heap.size e1 a1 ys) (hg : Fr S w w1) (hS : ∀ k, S k → a.ownBlock = some k)
    (hk : Moved w a a1) : Tri w0 w1 e1 e2 e3 a1 b c ys lb lc :=
  ⟨ho, h.ob.keepFr hg hS h.ab, h.oc.keepFr hg hS h.ac, h.ab.step h.ob hk, h.ac.step h.oc hk, h.bc, Below.own_fr h.be h.be.size h.oa hg hS⟩

/-- The cells of 'make([]T, n)'. -/
def mkC (z : Value) (n : Nat) : Array Value := (List.replicate n z).toArray
theorem madeCells_one (z : Value) (n : Nat) : madeCells #[z] n = mkC z n := by
  apply Array.ext'
  rw [toList_madeCells_one]; simp [mkC]
theorem run_mk {P : Program} {t e : TypeId} {i : TypeInfo} {z : Value} (ht : P.underlying t = some (.slice e)) (hi : P.info? e = some i) (hz : i.zero = some z) (hs : i.size = 1) (hzc : z.cells = #[z]) (n : Nat) (hb : i.bytes * n ≤ 281474976710656) (h63 : n ≤ 9223372036854775807) (w : World) :
    (Instr.makeSlice t (.int .i64 (n : Int)) (.int .i64 (n : Int))).run P w = .ok (.slice (some ⟨w.heap.size, 0, none⟩) n n) (w.alloc (.cells (mkC z n) e)) := by
  have hb' : ((i.bytes * n : Nat) : Int) ≤ 281474976710656 := by omega
  rw [Int.natCast_mul] at hb'
  have h := run_make (P := P) w t e i z ht hi hz .i64 .i64 n n (by omega) (Int.le_refl _) hb' (by omega)
  rw [h, hzc, hs, Nat.mul_one, Int.toNat_natCast, madeCells_one]
theorem own_mk (w : World) (B : Nat) (hB : B ≤ w.heap.size) (e : TypeId) (z : Value) (n : Nat) (hn : n ≤ maxLen) : OwnL (w.alloc (.cells (mkC z n) e)) B e (.slice (some ⟨w.heap.size, 0, none⟩) n n) (List.replicate n z) := by
  unfold OwnL
  rw [List.length_replicate]
  exact ⟨by simp, .inr ⟨w.heap.size, n, _, 0, 0, rfl, hB, heap_alloc_new w _, .inl (Nat.le_refl _), Nat.le_refl _, hn, by simp [mkC], by simp [mkC]⟩⟩
theorem Tri.store {w0 w : World} {e1 e2 e3 : TypeId} {g n cp : Nat} {b c : Value} {la lb lc : List Value} (h : Tri w0 w e1 e2 e3 (.slice (some ⟨g, 0, none⟩) n cp) b c la lb lc) (hn : la.length = n) (i : Nat) (u : Value) :
    Tri w0 (w.setCell ⟨g, i, none⟩ u) e1 e2 e3 (.slice (some ⟨g, 0, none⟩) n cp) b c (la.set i u) lb lc := by
  have ho := h.oa
  unfold OwnL at ho
  rw [hn] at ho
  have h2 := (ho.set i u).toL rfl
  exact ⟨h2, h.ob.keep (a := .slice (some ⟨g, 0, none⟩) n cp) (grown_setCell w g i u) h.ab, h.oc.keep (a := .slice (some ⟨g, 0, none⟩) n cp) (grown_setCell w g i u) h.ac, h.ab, h.ac, h.bc,
    below_own h.be h.be.size ho (grown_setCell w g i u)⟩

/-- A box that was just laid, as a row beside two others. -/
theorem Tri.box {w0 w : World} {e1 e2 e3 e : TypeId} {a b c : Value} {la lb lc : List Value} (h : Tri w0 w e1 e2 e3 a b c la lb lc) (cur : Array Value) (n : Nat) (hn : cur.size = n) (hm : n ≤ 1000000) :
    Tri w0 (w.alloc (.cells cur e)) e1 e2 e a b (.slice (some ⟨w.heap.size, 0, none⟩) n n) la lb cur.toList := by
  have hz := h.be.size
  have ho : OwnL (w.alloc (.cells cur e)) w0.heap.size e (.slice (some ⟨w.heap.size, 0, none⟩) n n) cur.toList := by
    unfold OwnL
    rw [Array.length_toList, hn]
    exact ⟨by simp [hn], .inr ⟨w.heap.size, n, cur, 0, 0, rfl, hz, heap_alloc_new w _, .inl (Nat.le_refl _), Nat.le_refl _, by unfold maxLen; omega, by omega, by rw [Nat.mul_one, ← hn, ← Array.length_toList, List.take_length]⟩⟩
  refine ⟨h.oa.alloc _, h.ob.alloc _, ho, h.ab, ?_, ?_, h.be.alloc hz _⟩
  · intro k h1 h2
    simp only [Value.ownBlock, Option.some.injEq] at h2
    have := (h.oa.lt k h1).2
    omega
  · intro k h1 h2
    simp only [Value.ownBlock, Option.some.injEq] at h2
    have := (h.ob.lt k h1).2
    omega
theorem Tri.drop {w0 w : World} {e1 e2 e3 e : TypeId} {a b c : Value} {la lb lc : List Value} (h : Tri w0 w e1 e2 e3 a b c la lb lc) : Tri w0 w e1 e2 e a b (.slice none 0 0) la lb [] :=
  ⟨h.oa, h.ob, Own.nil _ _ _ _, h.ab, fun k _ h2 => by simp [Value.ownBlock] at h2, fun k _ h2 => by simp [Value.ownBlock] at h2, h.be⟩
theorem Tri.cellC {w0 w : World} {e1 e2 e3 : TypeId} {g n c : Nat} {a b : Value} {la lb lc : List Value} (h : Tri w0 w e1 e2 e3 a b (.slice (some ⟨g, 0, none⟩) n c) la lb lc) (hn : lc.length = n) (i : Nat) (u : Value) (hu : lc[i]? = some u) :
    w.cell? ⟨g, i, none⟩ = some u ∧ w.frozen? ⟨g, i, none⟩ = false := (h.oc.cast hn rfl).cellAt i u hu

/-- A literal's row, as what is appended. -/
theorem Src.new {P : Program} {w : World} {tx e' e : TypeId} (hk : P.underlying tx = some (.slice e')) (cs : Array Value) (n : Nat) (hn : cs.size = n) (h1 : ∀ u ∈ cs.toList, u.oneCell' = true) :
    Src P 1 tx (.slice (some ⟨w.heap.size, 0, none⟩) n n) n cs.toList (w.alloc (.cells cs e)) :=
  Src.ofSlice _ hk _ n n cs.toList (by rw [Array.length_toList, hn, Nat.mul_one]) (fun j v hj => by
    rw [addr_add, Nat.zero_add, World.cell?_alloc_new]
    simpa using hj) h1

/-- append, inside a region that draws its order. -/
theorem step_app {P : Program} {w : World} {ops : Array Oper} {o : Oper} {a : Act} {K : Act → World → Prop} {Q : Exit → Act → World → Prop} {X : Prop} (s x : Operand) (t tx : TypeId)
    (hgd : o.guard = none) (ho : o.op = .call { callee := .builtin .append, args := #[s, x], argTypes := #[t, tx] })
    {e : TypeId} {size bytes : Nat} (E : ElT P t e size bytes) (B : Nat) {v : Value} {n : Nat} {xs : List Value} (hown : Own w B e size v n xs) (hs : a.eval s = v)
    {xv : Value} {m : Nat} {news : List Value} (hsrc : Src P size tx xv m news w) (hx : a.eval x = xv) (hb : (n + m) * bytes ≤ 140737488355328) (h63 : n + m ≤ maxLen) (hB : B ≤ w.heap.size)
    (h : ∀ v' w', Own w' B e size v' (n + m) (xs ++ news) → w.grownBy w' v.ownBlock → (∀ k, v'.ownBlock = some k → v.ownBlock = some k ∨ w.heap.size ≤ k) → K (a.put o.dst v') w') :
    if Region.wanted o (yielded ops a.tmps) = true then Oper.wp P o a w K Q else X := by
  have hw : Region.wanted o (yielded ops a.tmps) = true := by simp [Region.wanted, hgd]
  rw [if_pos hw]
  obtain ⟨v', w', hr, h2, h3, h4⟩ := run_app (P := P) w t tx o.type e size bytes E B v n xs hown xv m news hsrc hb h63 hB
  unfold Oper.wp execOp
  simp only [ho, resolve, invoke, builtin, Sem.run_bind, Sem.run_pure, Result.andThen_ok, List.map_toArray, List.map_cons, List.map_nil, hs, hx, hr]
  exact h v' w' h2 h3 h4

end Go.Proofs.YtnpfnjkghlgooaaGreatDoor
