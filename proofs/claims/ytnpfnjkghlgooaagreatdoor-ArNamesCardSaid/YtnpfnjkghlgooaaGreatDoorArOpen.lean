/-
  From the form's reading of the arguments to the plain words of the walks; what the row's listed variables give; the world of the witness.
  Conditions: none (lemmas).
-/
import Derived.Test.YtnpfnjkghlgooaaGreatDoorArMem
import Derived.Test.YtnpfnjkghlgooaaGreatDoorArMust
import Derived.Test.YtnpfnjkghlgooaaGreatDoorCards
import Derived.Test.YtnpfnjkghlgooaaGreatDoorTie
import Derived.WalkKit
import Derived.ProofKit
import Derived.OpenShut
import Derived.Carry
import Derived.Deep.DeepHandedRow
import Derived.Deep.DeepWitnessRowRef
import Derived.Lib.LaidTab
import Derived.Stop.LaidErr
import Derived.Shelf.Vars
import Derived.MakeChecks
namespace Go.Proofs.YtnpfnjkghlgooaaGreatDoor
set_option linter.unusedVariables false
set_option linter.unusedSimpArgs false
open Go Go.RowKit Go.ChangeShapes Go.WideShapes Go.ChangeAt

theorem list_of {α : Type} (p : Nat → α → Prop) : ∀ n, (∀ i, i < n → ∃ x, p i x) → ∃ l : List α, l.length = n ∧ ∀ (i : Nat) (x : α), l[i]? = some x → p i x
  | 0, _ => ⟨[], rfl, fun i x h => by simp at h⟩
  | n + 1, h => by
    obtain ⟨l, h1, h2⟩ := list_of p n fun i hi => h i (by omega)
    obtain ⟨x, hx⟩ := h n (by omega)
    refine ⟨l ++ [x], by simp [h1], fun i y hy => ?_⟩
    rcases Nat.lt_or_ge i n with h3 | h3
    · rw [List.getElem?_append_left (by omega)] at hy
      exact h2 i y hy
    · rw [List.getElem?_append_right (by omega)] at hy
      have h4 : i - l.length = 0 := by
        have := (List.getElem?_eq_some_iff.1 hy).1
        simp at this; omega
      rw [h4] at hy
      have h5 : x = y := by simpa using hy
      have h6 : i = n := by omega
      subst h5; subst h6; exact hx

theorem spot_of {w : World} {a : Addr} {u : Value} (h : w.cell? a = some u) : ∃ b o, a = ⟨b, o, none⟩ := by
  obtain ⟨b, o, spot⟩ := a
  have : spot = none := World.cell?_spot h
  subst this
  exact ⟨b, o, rfl⟩
theorem cells_at {w : World} {base : Nat} {a : Addr} {n : Nat} {cs : List Value} (h : w.cells? base a n = some cs) (j : Nat) (hj : j < n) : ∃ u, cs[j]? = some u ∧ w.cell? (a.add j) = some u := by
  obtain ⟨_, h1, h2⟩ := World.cells?_some h
  have h3 := h2 j hj
  rw [List.getElem?_eq_getElem (by omega)] at h3
  exact ⟨_, List.getElem?_eq_getElem (by omega), h3⟩

section
variable {H : Type} {enc : TypeId × Value → H} {w : World} {sp : Nat → Bool} {held : Bool}

theorem bulk_one (d : DataW H) : 1 ≤ Rows.uptoBulk d := by
  cases d with
  | lit l => cases l <;> simp [Rows.uptoBulk]
  | nil => simp [Rows.uptoBulk]
  | ptr d => simp [Rows.uptoBulk]
  | slice elems spare => simp [Rows.uptoBulk]
  | agg parts => simp [Rows.uptoBulk]
  | iface t d => simp [Rows.uptoBulk]
  | map entries => simp [Rows.uptoBulk]
  | held h => simp [Rows.uptoBulk]
theorem bulk_len (l : List (DataW H)) : l.length ≤ Rows.uptoBulkAll l := by
  induction l with
  | nil => simp [Rows.uptoBulkAll]
  | cons x r ih => have := bulk_one x; simp only [Rows.uptoBulkAll, List.length_cons]; omega
theorem bulk_app (l r : List (DataW H)) : Rows.uptoBulkAll (l ++ r) = Rows.uptoBulkAll l + Rows.uptoBulkAll r := by
  induction l with
  | nil => simp [Rows.uptoBulkAll]
  | cons x l ih => simp only [List.cons_append, Rows.uptoBulkAll, ih]; omega

theorem bulk_mem {d : DataW H} {l : List (DataW H)} (h : d ∈ l) : Rows.uptoBulk d ≤ Rows.uptoBulkAll l := by
  induction l with
  | nil => cases h
  | cons x r ih =>
    simp only [Rows.uptoBulkAll]
    cases List.mem_cons.1 h with
    | inl e => subst e; omega
    | inr e => have := ih e; omega
/-- A []byte, opened. -/
theorem openB {fuel : Nat} {cs : List Value} {x : DataW H × List MemPlace} (h : DataW.trod enc Tryz.prog w 0 sp held fuel 25 cs = some x) :
    ∃ v l, cs = [v] ∧ RdB w v l ∧ l.length ≤ Rows.uptoBulk x.1 := by
  rcases DataW.trod_slice Tryz.underlying25 h with ⟨rfl, rfl⟩ | ⟨a, len, cap, elems, rest, n, _, rfl, rfl, _, hl, hm, hlen, hel, _, _⟩
  · exact ⟨_, [], rfl, ⟨none, 0, rfl, Nat.le_refl _, Nat.zero_le _, Cells.nil _ _⟩, Nat.zero_le _⟩
  · have hc : Tryz.prog.cellsOf 5 = 1 := by kernel_rfl
    have each : ∀ i, i < len → ∃ c : UInt8, w.cell? (a.add i) = some (BV c) := fun i hi => by
      have h1 := hel i hi
      rw [List.getElem?_eq_getElem (by omega), hc, Nat.mul_one] at h1
      obtain ⟨cs', h2, h3⟩ := Option.bind_eq_some_iff.1 h1
      obtain ⟨k, rfl, -, hwf⟩ := DataW.trod_int Tryz.underlying5 h3
      obtain ⟨u, h4, h5⟩ := cells_at h2 0 (by omega)
      cases h4
      have hb := bounds_u8 hwf
      refine ⟨UInt8.ofNat k.toNat, ?_⟩
      rw [show (a.add i).add 0 = a.add i from rfl] at h5
      rw [h5]
      unfold BV
      rw [show ((UInt8.ofNat k.toNat).toNat : Int) = k by rw [UInt8.toNat_ofNat']; omega]
    obtain ⟨l, h1, h2⟩ := list_of (fun i c => w.cell? (a.add i) = some (BV c)) len each
    refine ⟨_, l, rfl, ⟨some a, cap, by rw [h1], by omega, hm, fun j u hj => ?_⟩, ?_⟩
    · obtain ⟨c, h3, rfl⟩ : ∃ c, l[j]? = some c ∧ BV c = u := by simpa using hj
      have hj2 : j < l.length := (List.getElem?_eq_some_iff.1 h3).1
      obtain ⟨b, o, rfl⟩ := spot_of (h2 0 (l[0]'(by omega)) (List.getElem?_eq_getElem (by omega)))
      have h4 := h2 j c h3
      rw [addr_add] at h4
      exact ⟨b, o, rfl, h4⟩
    · have := bulk_len (elems.map (·.1))
      simp only [Rows.uptoBulk]
      rw [List.length_map] at this
      omega

/-- A []string, opened. -/
theorem openS {fuel : Nat} {cs : List Value} {x : DataW H × List MemPlace} (h : DataW.trod enc Tryz.prog w 0 sp held fuel 38 cs = some x) :
    ∃ v l, cs = [v] ∧ RdS w v l ∧ l.length ≤ Rows.uptoBulk x.1 ∧ ∀ s ∈ l, s.size ≤ Rows.uptoBulk x.1 := by
  rcases DataW.trod_slice Tryz.underlying38 h with ⟨rfl, rfl⟩ | ⟨a, len, cap, elems, rest, n, _, rfl, rfl, _, hl, hm, hlen, hel, _, _⟩
  · exact ⟨_, [], rfl, ⟨none, 0, rfl, Nat.le_refl _, Nat.zero_le _, Cells.nil _ _⟩, Nat.zero_le _, fun s h => by simp at h⟩
  · have hc : Tryz.prog.cellsOf 9 = 1 := by kernel_rfl
    have each : ∀ i, i < len → ∃ c : ByteArray, w.cell? (a.add i) = some (.string c) ∧ c.size ≤ Rows.uptoBulkAll (elems.map (·.1)) := fun i hi => by
      have h1 := hel i hi
      rw [List.getElem?_eq_getElem (by omega), hc, Nat.mul_one] at h1
      obtain ⟨cs', h2, h3⟩ := Option.bind_eq_some_iff.1 h1
      obtain ⟨k, rfl, hx, hwf⟩ := DataW.trod_string Tryz.underlying9 h3
      obtain ⟨u, h4, h5⟩ := cells_at h2 0 (by omega)
      cases h4
      refine ⟨k, h5, ?_⟩
      have h6 : (DataW.lit (H := H) (.string k.data.toList)) ∈ elems.map (·.1) := by
        refine List.mem_map.2 ⟨elems[i]'(by omega), List.getElem_mem _, ?_⟩
        rw [hx]
      have h7 := bulk_mem h6
      simp only [Rows.uptoBulk] at h7
      have := dl k
      omega
    obtain ⟨l, h1, h2⟩ := list_of (fun i (c : ByteArray) => w.cell? (a.add i) = some (.string c) ∧ c.size ≤ Rows.uptoBulkAll (elems.map (·.1))) len each
    refine ⟨_, l, rfl, ⟨some a, cap, by rw [h1], by omega, hm, fun j u hj => ?_⟩, ?_, fun s hs => ?_⟩
    · obtain ⟨c, h3, rfl⟩ : ∃ c, l[j]? = some c ∧ Value.string c = u := by simpa using hj
      have hj2 : j < l.length := (List.getElem?_eq_some_iff.1 h3).1
      obtain ⟨b, o, rfl⟩ := spot_of (h2 0 (l[0]'(by omega)) (List.getElem?_eq_getElem (by omega))).1
      have h4 := (h2 j c h3).1
      rw [addr_add] at h4
      exact ⟨b, o, rfl, h4⟩
    · have := bulk_len (elems.map (·.1))
      simp only [Rows.uptoBulk]
      rw [List.length_map] at this
      omega
    · obtain ⟨i, hi⟩ := List.mem_iff_getElem?.1 hs
      have := (h2 i s hi).2
      simp only [Rows.uptoBulk]
      omega

/-- What a row of members weighs. -/
def bulkM (ms : List Mem) : Nat := (ms.map fun m => 1 + m.data.length + m.syms.length).sum
set_option maxRecDepth 20000 in
/-- A []api.Member, opened. -/
theorem openM {fuel : Nat} {cs : List Value} {x : DataW H × List MemPlace} (h : DataW.trod enc Tryz.prog w 0 sp held fuel 22 cs = some x) :
    ∃ v ms, cs = [v] ∧ RdM w v ms ∧ bulkM ms ≤ Rows.uptoBulk x.1 ∧ ∀ m ∈ ms, m.name.size ≤ Rows.uptoBulk x.1 ∧ ∀ s ∈ m.syms, s.size ≤ Rows.uptoBulk x.1 := by
  rcases DataW.trod_slice Tryz.underlying22 h with ⟨rfl, rfl⟩ | ⟨a, len, cap, elems, rest, n, _, rfl, rfl, _, hl, hm, hlen, hel, _, _⟩
  · exact ⟨_, [], rfl, ⟨none, 0, rfl, Nat.le_refl _, Nat.zero_le _, fun i m h => by simp at h⟩, Nat.zero_le _, fun s h => by simp at h⟩
  · have hc : Tryz.prog.cellsOf 40 = 3 := by kernel_rfl
    have hc1 : Tryz.prog.cellsOf 9 = 1 := by kernel_rfl
    have hc2 : Tryz.prog.cellsOf 25 = 1 := by kernel_rfl
    have hc3 : Tryz.prog.cellsOf 38 = 1 := by kernel_rfl
    have each : ∀ i, i < len → ∃ (m : Mem), (∃ vd vs, w.cell? (a.add (i * 3)) = some (.string m.name) ∧ w.cell? ((a.add (i * 3)).add 1) = some vd ∧ w.cell? ((a.add (i * 3)).add 2) = some vs ∧ RdB w vd m.data ∧ RdS w vs m.syms) ∧
        (∃ d, (elems.map (·.1))[i]? = some d ∧ 1 + m.data.length + m.syms.length ≤ Rows.uptoBulk d ∧ m.name.size ≤ Rows.uptoBulk d ∧ ∀ s ∈ m.syms, s.size ≤ Rows.uptoBulk d) := fun i hi => by
      have h1 := hel i hi
      rw [List.getElem?_eq_getElem (by omega), hc] at h1
      obtain ⟨cs', h2, h3⟩ := Option.bind_eq_some_iff.1 h1
      obtain ⟨ys, n2, -, hx, hcl, hyl, hf⟩ := DataW.trod_struct Tryz.underlying40 h3
      obtain ⟨u0, a0, b0⟩ := cells_at h2 0 (by omega)
      obtain ⟨u1, a1, b1⟩ := cells_at h2 1 (by omega)
      obtain ⟨u2, a2, b2⟩ := cells_at h2 2 (by omega)
      have hcs : cs' = [u0, u1, u2] := by
        rw [hc] at hcl
        match cs', hcl, a0, a1, a2 with
        | [p, q, r], _, a0, a1, a2 => simp at a0 a1 a2; rw [a0, a1, a2]
      subst hcs
      match ys, hyl with
      | [y0, y1, y2], _ =>
        have f0 : DataW.trod enc Tryz.prog w 0 sp held n2 9 (([u0, u1, u2].drop 0).take (Tryz.prog.cellsOf 9)) = some y0 := hf 0 _ rfl
        have f1 : DataW.trod enc Tryz.prog w 0 sp held n2 25 (([u0, u1, u2].drop 1).take (Tryz.prog.cellsOf 25)) = some y1 := hf 1 _ rfl
        have f2 : DataW.trod enc Tryz.prog w 0 sp held n2 38 (([u0, u1, u2].drop 2).take (Tryz.prog.cellsOf 38)) = some y2 := hf 2 _ rfl
        rw [hc1] at f0
        rw [hc2] at f1
        rw [hc3] at f2
        have f0 : DataW.trod enc Tryz.prog w 0 sp held n2 9 [u0] = some y0 := f0
        have f1 : DataW.trod enc Tryz.prog w 0 sp held n2 25 [u1] = some y1 := f1
        have f2 : DataW.trod enc Tryz.prog w 0 sp held n2 38 [u2] = some y2 := f2
        obtain ⟨nm, e0, ex, -⟩ := DataW.trod_string Tryz.underlying9 f0
        obtain ⟨vd, ld, e1, rd, g1⟩ := openB f1
        obtain ⟨vs, ls, e2, rs, g2, g3⟩ := openS f2
        cases e0; cases e1; cases e2
        refine ⟨⟨nm, ld, ls⟩, ⟨_, _, b0, b1, b2, rd, rs⟩, _, by rw [List.getElem?_map, List.getElem?_eq_getElem (by omega), Option.map_some], ?_, ?_, ?_⟩
        all_goals
          rw [hx]
          simp only [List.map_cons, List.map_nil, Rows.uptoBulk, Rows.uptoBulkAll]
          rw [ex]
          simp only [Rows.uptoBulk]
          have := dl nm
        · omega
        · omega
        · intro s hs
          have := g3 s hs
          omega
    obtain ⟨ms, h1, h2⟩ := list_of _ len each
    refine ⟨_, ms, rfl, ⟨some a, cap, by rw [h1], by omega, hm, fun i m hi => ?_⟩, ?_, fun m hmm => ?_⟩
    · have hi2 : i < ms.length := (List.getElem?_eq_some_iff.1 hi).1
      obtain ⟨⟨vd0, vs0, k0, -⟩, -⟩ := h2 0 (ms[0]'(by omega)) (List.getElem?_eq_getElem (by omega))
      obtain ⟨b, o, rfl⟩ := spot_of (a := a) (by rw [Nat.zero_mul] at k0; exact k0)
      obtain ⟨⟨vd, vs, k1, k2, k3, k4, k5⟩, -⟩ := h2 i m hi
      rw [addr_add] at k1 k2 k3
      rw [addr_add] at k2 k3
      exact ⟨b, o, vd, vs, rfl, k1, k2, k3, k4, k5⟩
    · have hall : ∀ (l : List Mem) (ds : List (DataW H)), (∀ (i : Nat) (m : Mem), l[i]? = some m → ∃ d, ds[i]? = some d ∧ 1 + m.data.length + m.syms.length ≤ Rows.uptoBulk d) → bulkM l ≤ Rows.uptoBulkAll ds := by
        intro l
        induction l with
        | nil => intro ds _; exact Nat.zero_le _
        | cons m l ih =>
          intro ds hd
          cases ds with
          | nil => obtain ⟨d, hd0, -⟩ := hd 0 m rfl; cases hd0
          | cons d ds =>
            obtain ⟨d', hd0, hd1⟩ := hd 0 m rfl
            cases hd0
            have h3 := ih ds fun i m' hi => hd (i + 1) m' hi
            simp only [bulkM, List.map_cons, List.sum_cons, Rows.uptoBulkAll] at *
            omega
      have h3 := hall ms (elems.map (·.1)) fun i m hi => by
        obtain ⟨-, d, e1, e2, -⟩ := h2 i m hi
        exact ⟨d, e1, e2⟩
      simp only [Rows.uptoBulk]
      omega
    · obtain ⟨i, hi⟩ := List.mem_iff_getElem?.1 hmm
      obtain ⟨-, d, e1, -, e3, e4⟩ := h2 i m hi
      have h5 := bulk_mem (List.mem_of_getElem? e1)
      simp only [Rows.uptoBulk]
      exact ⟨by omega, fun s hs => by have := e4 s hs; omega⟩
end

theorem bulkM_each (ms : List Mem) : ms.length ≤ bulkM ms ∧ weight ms ≤ 100 * bulkM ms ∧ ∀ m ∈ ms, m.data.length ≤ bulkM ms ∧ m.syms.length ≤ bulkM ms := by
  induction ms with
  | nil => exact ⟨Nat.zero_le _, Nat.zero_le _, fun m h => by simp at h⟩
  | cons m ms ih =>
    obtain ⟨h1, h2, h3⟩ := ih
    simp only [bulkM, weight, List.map_cons, List.sum_cons, List.length_cons] at *
    refine ⟨by omega, by omega, fun x hx => ?_⟩
    rcases List.mem_cons.1 hx with rfl | hx
    · omega
    · have := h3 x hx; omega
theorem fit_of_bulk {ms : List Mem} {B : Nat} (hB : B ≤ 1048576) (h1 : bulkM ms ≤ B) (h2 : ∀ m ∈ ms, m.name.size ≤ B ∧ ∀ s ∈ m.syms, s.size ≤ B) : Fit ms ∧ weight ms ≤ 1000000000000 := by
  obtain ⟨g1, g2, g3⟩ := bulkM_each ms
  refine ⟨⟨by omega, fun i hi => ?_⟩, by omega⟩
  obtain ⟨k1, k2⟩ := g3 _ (List.getElem_mem hi)
  obtain ⟨k3, k4⟩ := h2 _ (List.getElem_mem hi)
  exact ⟨by omega, by omega, by omega, fun j hj => by have := k4 _ (List.getElem_mem hj); omega⟩

/-! ### What the listed variables give -/
theorem own : ownKnob Tryz.prog.godebug = none := by kernel_rfl
theorem laidOut : laidOutB Tryz.prog = true := by kernel_rfl
theorem gPow : Tryz.prog.globalNamed "internal/strconv.uint64pow10" = some 1 := by kernel_rfl
theorem gSyn : Tryz.prog.globalNamed "strconv.ErrSyntax" = some 2 := by kernel_rfl
theorem globE_of {W : World} (h : laidMetH Tryz.prog Rows.arWritesRow.laid W) (hsh : W.ShapedOpen Tryz.prog) : GlobE W := by
  have hL : laidMet Tryz.prog Rows.arWritesRow.laid W := by
    rw [← MakeChecks.laidMetH_plain Tryz.prog Rows.arWritesRow.laid W (by kernel_rfl)]; exact h
  have h3 := hL.tail.tail
  refine ⟨⟨?_, ?_⟩, ?_⟩
  · have e : Rows.laid_internal_strconv_uint64pow10 = (Lib.tabData .u64 Lib.pow10Tab : DataW Unit) := by rfl
    have h4 : laidMet Tryz.prog (("internal/strconv.uint64pow10", Rows.laid_internal_strconv_uint64pow10) :: _) W := h3
    rw [e] at h4
    exact Lib.tabIs_of_head gPow (by kernel_rfl) Tryz.underlying144 Tryz.underlying70 (by kernel_rfl) (by kernel_rfl) h4
  · exact cell_of_shapedOpen_int (zero := #[.int .i64 0]) (t := 3) hsh (of_decide_eq_true (by kernel_rfl)) (by kernel_rfl) rfl (by kernel_rfl) (by kernel_rfl) Tryz.underlying3
  · obtain ⟨ps, ⟨g0, t0, cs0, f0, p0, q0, hg0, ht0, hv0, hd0, -, -⟩, -⟩ := h3.tail.tail.tail
    obtain rfl := Option.some.inj (gSyn.symm.trans hg0)
    obtain rfl := Option.some.inj ((show (Tryz.prog.globals[2]?).map (·.type) = some 90 by kernel_rfl).symm.trans ht0)
    obtain ⟨l0⟩ := cs0
    obtain ⟨_, u, v, hcs, -, -⟩ := iface_of_trod Tryz.underlying90 hd0
    have h7 := World.var?_cell gSyn hv0 0
    have h8 : l0 = [.iface u v] := hcs
    subst h8
    exact ⟨.iface u v, by simpa using h7, .inr ⟨u, v, rfl⟩⟩

end Go.Proofs.YtnpfnjkghlgooaaGreatDoor
