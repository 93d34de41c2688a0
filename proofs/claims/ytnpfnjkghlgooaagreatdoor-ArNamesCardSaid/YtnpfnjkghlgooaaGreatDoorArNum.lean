/-
  The walks of the functions that write numbers as bytes: foundryref1.Fixed, turned, put, Big; octet.bytesOf, written, Big; slices.Grow, Concat, Reverse over bytes.
  Conditions: sizes up to eight bytes.
-/
import Derived.Test.YtnpfnjkghlgooaaGreatDoorArLeaf
import Derived.Sort.WalkB12
import Derived.Lib.SlicesMore
import Derived.Lib.AppendZeros
import Derived.Deep.LoopGhost
import Derived.RegionTactic
namespace Go.Proofs.YtnpfnjkghlgooaaGreatDoor
set_option linter.unusedVariables false
set_option linter.unusedSimpArgs false
open Go Go.RowKit

theorem TB : ElT Tryz.prog 25 5 1 1 := by
  refine ⟨Tryz.underlying25, ?_, by decide⟩
  obtain ⟨i, h1, h2, h3, h4⟩ := info_parts (show (Tryz.prog.info? 5).map (fun i => (i.zero, i.size, i.bytes)) = some (some (.int .u8 0), 1, 1) by kernel_rfl)
  exact ⟨i, _, h1, h2, h3, h4, rfl⟩

theorem TI : ElT Tryz.prog 52 3 1 8 := by
  refine ⟨Tryz.underlying52, ?_, by decide⟩
  obtain ⟨i, h1, h2, h3, h4⟩ := info_parts (show (Tryz.prog.info? 3).map (fun i => (i.zero, i.size, i.bytes)) = some (some (.int .i64 0), 1, 8) by kernel_rfl)
  exact ⟨i, _, h1, h2, h3, h4, rfl⟩
theorem TS : ElT Tryz.prog 38 9 1 16 := by
  refine ⟨Tryz.underlying38, ?_, by decide⟩
  obtain ⟨i, h1, h2, h3, h4⟩ := info_parts (show (Tryz.prog.info? 9).map (fun i => (i.zero, i.size, i.bytes)) = some (some (.string ⟨#[]⟩), 1, 16) by kernel_rfl)
  exact ⟨i, _, h1, h2, h3, h4, rfl⟩

def byteN (n j : Nat) : UInt8 := UInt8.ofNat (n / 256 ^ j % 256)
def leB (n k : Nat) : List UInt8 := (List.range k).map (byteN n)
theorem leB_succ (n k : Nat) : leB n (k + 1) = leB n k ++ [byteN n k] := by simp [leB, List.range_succ]
theorem leB_length (n k : Nat) : (leB n k).length = k := by simp [leB]

theorem byteN_cast (N j : Nat) : ((byteN N j).toNat : Int) = (N : Int) / 256 ^ j % 256 := by
  unfold byteN
  rw [UInt8.toNat_ofNat', Nat.mod_eq_of_lt (Nat.mod_lt _ (by decide))]
  simp
theorem leB_snoc (N j : Nat) : (leB N (j + 1)).map BV = (leB N j).map BV ++ [.int .u8 ((N : Int) / 256 ^ j % 256)] := by
  rw [leB_succ, List.map_append, ← byteN_cast]; rfl
theorem leN (N j : Nat) : Value.int .u64 ((N : Int) / 256 ^ j / 256) = .int .u64 ((N / 256 ^ (j + 1) : Nat) : Int) := by
  rw [Nat.pow_succ, ← Nat.div_div_eq_div_mul]; simp

set_option maxHeartbeats 400000 in
theorem ref1_Fixed (n k : Int) (w : World) (h0 : 0 ≤ n) (h1 : n < 18446744073709551616) (h2 : 0 ≤ k) (h3 : k ≤ 8) :
    Calls Tryz.prog 103 #[.int .u64 n, .int .i64 k] w fun e w' => ∃ v, e = .returned v ∧ Own w' w.heap.size 5 1 v k.toNat ((leB n.toNat k.toNat).map BV) ∧ Below w.heap.size w w' := by
  obtain ⟨N, rfl⟩ := Int.eq_ofNat_of_zero_le h0
  obtain ⟨K, rfl⟩ := Int.eq_ofNat_of_zero_le h2
  simp only [Int.toNat_natCast]
  go_enter Tryz.func103, Tryz.ntmps103
  go_wp2_with (at_builtin; refine stop_here ?_)
  go_loopw [0, 5, 6] (fun n b i wr => ∃ j : Nat, j ≤ K ∧ i = .int .i64 j ∧ n = .int .u64 ((N / 256 ^ j : Nat) : Int) ∧ Own wr w.heap.size 5 1 b j ((leB N j).map BV) ∧ Below w.heap.size w wr) (fun _ _ i _ => K - (intOf i).toNat)
  case atStart => exact ⟨0, Nat.zero_le _, rfl, by simp, Own.nil _ _ _ _, Below.refl _ _⟩
  case round =>
    obtain ⟨j, hj, rfl, rfl, hown, hb⟩ := hrel
    have Hown := Lib.hid hown; clear hown
    have Hb := Lib.hid hb; clear hb
    have hz := Hb.out.size
    by_cases hlt : j < K
    · go_wp2_with (at_builtin; refine stop_here ?_)
      refine stop_out ?_
      refine wpList_app _ _ _ _ rfl rfl TB w.heap.size (Hown.out.alloc _) rfl (Src.one1 TB.und _ rfl) rfl ?ab1a ?ab1b ?ab1c ?_
      case ab1a => (first | omega | (simp only [List.length_append, List.length_map, List.length_cons, List.length_nil, List.length_reverse]; omega))
      case ab1b => (unfold maxLen; first | omega | (simp only [List.length_append, List.length_map, List.length_cons, List.length_nil, List.length_reverse]; omega))
      case ab1c => (first | omega | (simp only [World.size_alloc]; omega) | (simp; done) | exact (Hid.out ‹Hid (Below _ _ _)›).size | (refine Nat.le_trans (Hid.out ‹Hid (Below _ _ _)›).size ?_; simp))
      intro v1 w1 h1 h1g h1k
      have H1 := Lib.hid h1; clear h1
      have H1g := Lib.hid h1g; clear h1g
      have H1k := Lib.hid h1k; clear h1k
      go_wp2
      go_roundw
      case rel => exact ⟨j + 1, by omega, by go_num, leN N j, by rw [leB_snoc]; exact H1.out, below_own (Hb.out.alloc hz _) (by simp; omega) (Hown.out.alloc _) H1g.out⟩
      case measure => simp [intOf]; omega
    · go_wp2_with (at_builtin; refine stop_here ?_)
      go_ret
      exact ⟨_, rfl, by rw [show K = j by omega]; exact Hown.out, Hb.out⟩

set_option maxHeartbeats 400000 in
theorem ref1_turned (v : Value) (l : List UInt8) (w : World) (hv : RdB w v l) (hl : l.length ≤ 1000000000) :
    Calls Tryz.prog 91 #[v] w fun e w' => ∃ v', e = .returned v' ∧ Own w' w.heap.size 5 1 v' l.length (l.reverse.map BV) ∧ Below w.heap.size w w' := by
  obtain ⟨a, c, rfl, hc1, hc2, hc⟩ := hv
  have Hc := Lib.hid hc; clear hc
  go_enter Tryz.func91, Tryz.ntmps91
  go_wp2_with (at_builtin; refine stop_here ?_)
  go_loopw [3, 4] (fun b i wr => ∃ j : Nat, j ≤ l.length ∧ i = .int .i64 ((j : Int) - 1) ∧ Own wr w.heap.size 5 1 b (l.length - j) ((l.drop j).reverse.map BV) ∧ Below w.heap.size w wr) (fun _ i _ => (intOf i + 1).toNat)
  case atStart => exact ⟨l.length, Nat.le_refl _, rfl, by simpa using Own.nil w _ _ _, Below.refl _ _⟩
  case round =>
    obtain ⟨j, hj, rfl, hown, hb⟩ := hrel
    have Hown := Lib.hid hown; clear hown
    have Hb := Lib.hid hb; clear hb
    have hz := Hb.out.size
    by_cases hlt : 1 ≤ j
    · obtain ⟨k, rfl⟩ : ∃ k, j = k + 1 := ⟨j - 1, by omega⟩
      have e1 : ((k + 1 : Nat) : Int) - 1 = (k : Int) := by omega
      rw [e1]
      clear e1
      obtain ⟨bb, oo, rfl, hcell⟩ := Hc.out.byte k (by omega)
      have hcell' := bel_cell Hb.out hcell
      clear hcell
      go_wp2_with (at_builtin; refine stop_here ?_)
      refine stop_out ?_
      refine wpList_app _ _ _ _ rfl rfl TB w.heap.size (Hown.out.alloc _) rfl (Src.one1 TB.und _ rfl) rfl ?ab2ba ?ab2b ?ab2c ?_
      case ab2ba => (first | omega | (simp only [List.length_append, List.length_map, List.length_cons, List.length_nil, List.length_reverse]; omega))
      case ab2b => (unfold maxLen; first | omega | (simp only [List.length_append, List.length_map, List.length_cons, List.length_nil, List.length_reverse]; omega))
      case ab2c => (first | omega | (simp only [World.size_alloc]; omega) | (simp; done) | exact (Hid.out ‹Hid (Below _ _ _)›).size | (refine Nat.le_trans (Hid.out ‹Hid (Below _ _ _)›).size ?_; simp))
      intro v1 w1 h1 h1g h1k
      have H1 := Lib.hid h1; clear h1
      have H1g := Lib.hid h1g; clear h1g
      have H1k := Lib.hid h1k; clear h1k
      go_wp2
      go_roundw
      case rel =>
        refine ⟨k, by omega, rfl, ?_, below_own (Hb.out.alloc hz _) (by simp; omega) (Hown.out.alloc _) H1g.out⟩
        have e2 : (l.drop k).reverse.map BV = (l.drop (k + 1)).reverse.map BV ++ [.int .u8 (l[k].toNat : Int)] := by
          rw [List.drop_eq_getElem_cons (show k < l.length by omega), List.reverse_cons, List.map_append]; rfl
        rw [e2, show l.length - k = l.length - (k + 1) + 1 by omega]
        exact H1.out
      case measure => simp [intOf]
    · have : j = 0 := by omega
      subst this
      go_wp2_with (at_builtin; refine stop_here ?_)
      go_ret
      exact ⟨_, rfl, by simpa using Hown.out, Hb.out⟩

def sizedB (n : Int) : Bool := decide (n = 1 ∨ n = 2 ∨ n = 4 ∨ n = 8)
set_option maxHeartbeats 400000 in
theorem ref1_sized (n : Int) (w : World) :
    Calls Tryz.prog 90 #[.int .i64 n] w fun e w' => e = .returned (.bool (sizedB n)) ∧ w = w' := by
  go_enter Tryz.func90, Tryz.ntmps90
  go_wp2
  all_goals go_ret
  all_goals refine ⟨ret_bool ?_, rfl⟩
  all_goals (unfold sizedB; rw [Bool.eq_iff_iff]; simp [*])
  all_goals (try omega)
set_option maxHeartbeats 400000 in
theorem oct_sized (n : Int) (w : World) :
    Calls Tryz.prog 71 #[.int .i64 n] w fun e w' => e = .returned (.bool (sizedB n)) ∧ w = w' := by
  go_enter Tryz.func71, Tryz.ntmps71
  go_wp2
  all_goals go_ret
  all_goals refine ⟨ret_bool ?_, rfl⟩
  all_goals (unfold sizedB; rw [Bool.eq_iff_iff]; simp [*])
  all_goals (try omega)

open Go.Sort in
set_option maxHeartbeats 1600000 in
set_option maxRecDepth 1000000 in
theorem rev_arr (blk off cap : Nat) (d : Array UInt8) (w : World) (hH : Holds BV w blk off d) (hsz : d.size ≤ 9223372036854775807) :
    Calls Tryz.prog 55 #[.slice (some ⟨blk, off, none⟩) d.size cap] w fun e w' => e = .returned (.tuple #[]) ∧ ∃ n, w' = putRow BV (Sort.ahead w n) blk off d.reverse := by
  go_enter Tryz.func55, Tryz.ntmps55
  go_wp2
  go_loopg [2, 3] d.size (fun k s2 s3 wr => ∃ (i jn : Nat) (jz : Int) (dk : Array UInt8) (n : Nat), s2 = .int .i64 i ∧ s3 = .int .i64 jz ∧ ((i : Int) < jz → jz = jn ∧ jn < d.size) ∧ (¬ (i : Int) < jz → ¬ i < jn) ∧ jn - i ≤ k ∧
    dk.size = d.size ∧ wr = putRow BV (Sort.ahead w n) blk off dk ∧ reverseLoop i jn dk = reverseLoop 0 (d.size - 1) d)
  case atStart => exact ⟨0, d.size - 1, (d.size : Int) - 1, d, 0, rfl, rfl, fun h => ⟨by omega, by omega⟩, fun h => by omega, by omega, rfl, (putRow_self BV w blk off d hH).symm, rfl⟩
  case round =>
    obtain ⟨i, jn, jz, dk, n, rfl, rfl, h1, h2, hk, hds, hwr, heq⟩ := hrel
    by_cases hlt : (i : Int) < jz
    · obtain ⟨rfl, hjn⟩ := h1 hlt
      have hij : i < jn := by omega
      have hHk : Holds BV wr blk off dk := by rw [hwr]; exact holds_putRow BV _ blk off d dk (holds_ahead BV w n blk off d hH) hds
      obtain ⟨ci, fi⟩ := hHk i (by omega)
      obtain ⟨cj, fj⟩ := hHk jn (by omega)
      have A : Aside (wr = putRow BV (Sort.ahead w n) blk off dk) := hwr
      clear hwr hHk hH h1 h2
      unfold BV at ci cj
      go_wp2_with fail
      go_region
      go_wp2
      go_roundg (jn - 1 - (i + 1))
      case measure => omega
      case rel =>
        rw [reverseLoop, if_pos hij] at heq
        exact ⟨i + 1, jn - 1, (jn : Int) - 1, swp dk i jn, n + 1, by simp, rfl, fun h => ⟨by omega, by omega⟩, fun h => by omega, Nat.le_refl _, by rw [size_swp]; exact hds,
          swap_world BV (by omega) (by omega) A.out (by first | rfl | simp [BV, getElem!_pos, show jn < dk.size by omega]) (by first | rfl | simp [BV, getElem!_pos, show i < dk.size by omega]), heq⟩
    · have hnot := h2 hlt
      go_wp2
      go_end0
      refine ⟨rfl, n, ?_⟩
      rw [reverseLoop, if_neg hnot] at heq
      rw [← Lib.reverseLoop_reverse, ← heq]

theorem rev_nil (a : Option Addr) (cap : Nat) (w : World) :
    Calls Tryz.prog 55 #[.slice a 0 cap] w fun e w' => e = .returned (.tuple #[]) ∧ w = w' := by
  go_enter Tryz.func55, Tryz.ntmps55
  go_wp2
  go_loopg [2, 3] 0 (fun _ s2 s3 wr => s2 = .int .i64 0 ∧ s3 = .int .i64 (-1) ∧ wr = w)
  case atStart => exact ⟨rfl, rfl, rfl⟩
  case round =>
    obtain ⟨rfl, rfl, rfl⟩ := hrel
    go_wp2
    go_end0
    exact ⟨rfl, rfl⟩

theorem putRow_heap {α : Type} [Inhabited α] (enc : α → Value) (w : World) (g : Nat) (d : Array α) (cur : Array Value) (e : TypeId) (fr : Nat × Nat) (h : w.heap[g]? = some (.cells cur e fr)) :
    (Go.Sort.putRow enc w g 0 d).heap[g]? = some (.cells (Go.Sort.putCells enc 0 d cur) e fr) := by
  simp [Go.Sort.putRow, Go.Sort.mapBlock, Array.getElem?_modify, h]
  rfl
theorem putRow_block {α : Type} [Inhabited α] (enc : α → Value) (w : World) (g k : Nat) (d : Array α) (h : k ≠ g) : (Go.Sort.putRow enc w g 0 d).heap[k]? = w.heap[k]? := by
  simp [Go.Sort.putRow, Go.Sort.mapBlock, Array.getElem?_modify]
  omega
theorem putCells_take {α : Type} [Inhabited α] (enc : α → Value) (d : Array α) (cur : Array Value) (h : d.size ≤ cur.size) : (Go.Sort.putCells enc 0 d cur).toList.take d.size = d.toList.map enc := by
  apply List.ext_getElem?
  intro i
  by_cases hi : i < d.size
  · have : i < cur.size := by omega
    simp [Go.Sort.putCells, List.getElem?_take, hi, this, getElem!_pos]
  · simp [List.getElem?_take, hi]

/-- slices.Reverse over bytes that are owned. -/
theorem lib_Reverse {w : World} {B : Nat} {v : Value} {n : Nat} {l : List UInt8} (hv : Own w B 5 1 v n (l.map BV)) (hn : n ≤ 9223372036854775807) :
    Calls Tryz.prog 55 #[v] w fun e w' => e = .returned (.tuple #[]) ∧ Own w' B 5 1 v n (l.reverse.map BV) ∧ Fr (fun k => v.ownBlock = some k) w w' := by
  have hl := hv.1
  simp only [List.length_map, Nat.mul_one] at hl
  rcases hv.2 with ⟨rfl, rfl⟩ | ⟨g, cap, cur, lo, hi, rfl, hB, hg, hf, hc1, hc2, hc3, ht⟩
  · refine (rev_nil none 0 w).mono ?_
    rintro e w' ⟨rfl, rfl⟩
    have : l = [] := List.eq_nil_of_length_eq_zero hl
    subst this
    exact ⟨rfl, Own.nil _ _ _ _, Fr.refl _ _⟩
  · subst hl
    have hH : Go.Sort.Holds BV w g 0 l.toArray := by
      intro j hj
      have hj' : j < l.length := by simpa using hj
      refine ⟨?_, frozen_at hg (by omega)⟩
      rw [Nat.zero_add, cell_at hg]
      have h2 : (l.map BV)[j]? = some (BV l[j]) := by simp [hj']
      rw [← ht, List.getElem?_take] at h2
      split at h2
      · simp only [Array.getElem?_toList] at h2
        rw [h2]
        simp [getElem!_pos, hj']
      · cases h2
    have := rev_arr g 0 cap l.toArray w hH (by simpa using hn)
    simp only [List.size_toArray] at this
    refine this.mono ?_
    rintro e w' ⟨rfl, k, rfl⟩
    have hg' : (Go.Sort.ahead w k).heap[g]? = some (.cells cur 5 (lo, hi)) := hg
    refine ⟨rfl, ⟨by simp, .inr ⟨g, cap, _, lo, hi, rfl, hB, putRow_heap BV _ g _ cur _ _ hg', hf, hc1, hc2, by simp only [Go.Sort.putCells, Array.size_mapIdx]; exact hc3, ?_⟩⟩, ⟨rfl, rfl, rfl, by simp [Go.Sort.ahead], fun i _ hne => ?_⟩⟩
    · have := putCells_take BV l.toArray.reverse cur (by simp; omega)
      simpa using this
    · exact putRow_block BV _ g i _ (fun e => hne (by rw [e]; rfl))

/-- The same bytes, those of least worth last. -/
def beB (n k : Nat) : List UInt8 := (leB n k).reverse
theorem leN4 (N j : Nat) : Value.int .u32 ((N : Int) / 256 ^ j / 16 / 16) = .int .u32 ((N / 256 ^ (j + 1) : Nat) : Int) := by
  rw [Nat.pow_succ, ← Nat.div_div_eq_div_mul, show (256 : Nat) = 16 * 16 from rfl, ← Nat.div_div_eq_div_mul]; simp

set_option maxHeartbeats 400000 in
theorem oct_bytesOf4' (n : Int) (K : Nat) (hK : K = 4) (w : World) (h0 : 0 ≤ n) (h1 : n < 4294967296) :
    Calls Tryz.prog 74 #[.int .u32 n, .int .i64 4] w fun e w' => ∃ v, e = .returned v ∧ Own w' w.heap.size 5 1 v K ((leB n.toNat K).map BV) ∧ Below w.heap.size w w' := by
  obtain ⟨N, rfl⟩ := Int.eq_ofNat_of_zero_le h0
  simp only [Int.toNat_natCast]
  have HK := Lib.hid hK; clear hK
  have hmk : ∀ w, (Instr.makeSlice 25 (.int .i64 0) (.int .i64 4)).run Tryz.prog w = .ok (.slice (some ⟨w.heap.size, 0, none⟩) 0 4) (w.alloc (.cells #[.int .u8 0, .int .u8 0, .int .u8 0, .int .u8 0] 5)) := fun _ => by kernel_rfl
  go_enter Tryz.func74, Tryz.ntmps74
  go_wp2_with (at_builtin; refine stop_here ?_)
  go_loopw [0, 5, 9] (fun n b i wr => ∃ j : Nat, j ≤ 4 ∧ i = .int .i64 j ∧ n = .int .u32 ((N / 256 ^ j : Nat) : Int) ∧ Own wr w.heap.size 5 1 b j ((leB N j).map BV) ∧ Below w.heap.size w wr) (fun _ _ i _ => K - (intOf i).toNat)
  case atStart =>
    exact ⟨0, Nat.zero_le _, rfl, by simp, ⟨rfl, .inr ⟨w.heap.size, 4, _, 0, 0, rfl, Nat.le_refl _, heap_alloc_new w _, .inl (Nat.le_refl _), by omega, by unfold maxLen; omega, by simp, rfl⟩⟩, (Below.refl _ _).alloc (Nat.le_refl _) _⟩
  case round =>
    obtain ⟨j, hj, rfl, rfl, hown, hb⟩ := hrel
    have Hown := Lib.hid hown; clear hown
    have Hb := Lib.hid hb; clear hb
    have hz := Hb.out.size
    clear hmk
    have hj' : (j : Int) ≤ 4 := by omega
    clear hj
    by_cases hlt : (j : Int) < 4
    · go_wp2_with (at_builtin; refine stop_here ?_)
      refine stop_out ?_
      refine wpList_app _ _ _ _ rfl rfl TB w.heap.size (Hown.out.alloc _) rfl (Src.one1 TB.und _ rfl) rfl ?ab3ca ?ab3cb ?ab3c ?_
      case ab3ca => (first | omega | (simp only [List.length_append, List.length_map, List.length_cons, List.length_nil, List.length_reverse]; omega))
      case ab3cb => (unfold maxLen; first | omega | (simp only [List.length_append, List.length_map, List.length_cons, List.length_nil, List.length_reverse]; omega))
      case ab3c => (first | omega | (simp only [World.size_alloc]; omega) | (simp; done) | exact (Hid.out ‹Hid (Below _ _ _)›).size | (refine Nat.le_trans (Hid.out ‹Hid (Below _ _ _)›).size ?_; simp))
      intro v1 w1 h1 h1g h1k
      have H1 := Lib.hid h1; clear h1
      have H1g := Lib.hid h1g; clear h1g
      have H1k := Lib.hid h1k; clear h1k
      go_wp2
      go_roundw
      case rel => exact ⟨j + 1, by omega, by go_num, leN4 N j, by rw [leB_snoc]; exact H1.out, below_own (Hb.out.alloc hz _) (by simp; omega) (Hown.out.alloc _) H1g.out⟩
      case measure => have := HK.out; simp [intOf]; omega
    · go_wp2_with (at_builtin; refine stop_here ?_)
      go_ret
      have : j = K := by have := HK.out; omega
      subst this
      exact ⟨_, rfl, Hown.out, Hb.out⟩
theorem oct_bytesOf4 (n : Int) (w : World) (h0 : 0 ≤ n) (h1 : n < 4294967296) :
    Calls Tryz.prog 74 #[.int .u32 n, .int .i64 4] w fun e w' => ∃ v, e = .returned v ∧ Own w' w.heap.size 5 1 v 4 ((leB n.toNat 4).map BV) ∧ Below w.heap.size w w' :=
  oct_bytesOf4' n 4 rfl w h0 h1

theorem zeroTake0 (l : List Value) : l.take (0 * 1) = [] := by simp

set_option maxHeartbeats 400000 in
theorem lib_Grow (n : Int) (w : World) (h0 : 0 < n) (h1 : n ≤ 1000000000) :
    Calls Tryz.prog 76 #[.slice none 0 0, .int .i64 n] w fun e w' => ∃ v, e = .returned v ∧ Own w' w.heap.size 5 1 v 0 [] ∧ Below w.heap.size w w' := by
  obtain ⟨N, rfl⟩ := Int.eq_ofNat_of_zero_le (Int.le_of_lt h0)
  go_enter Tryz.func76, Tryz.ntmps76
  go_wp2_with (at_builtin; refine stop_here ?_)
  obtain ⟨i, z, hi, hz, hsz, hby, hzs⟩ := TB.info
  have hcap := grownCap_ge w N 0 5
  have hcm := grownCap_le_maxLen w N 0 5 (by unfold maxLen; omega)
  have hrun := Lib.run_append_nil_zeros (P := Tryz.prog) w 25 3 25 5 i z .i64 .i64 TB.und Tryz.underlying3 hi hz N (by omega) (by omega) (by omega) (by rw [hby]; omega)
  refine stop_out ?_
  refine Lib.wpList_append_run w rfl _ _ _ _ rfl _ _ rfl rfl _ _ hrun ?_
  have e1 : Builtin.zeroCells z.cells N ++ Builtin.zeroCells z.cells (grownCap w N 0 5 - N) = Builtin.zeroCells z.cells N ++ Builtin.zeroCells z.cells (grownCap w N 0 5 - N) := rfl
  generalize hC : Builtin.zeroCells z.cells N ++ Builtin.zeroCells z.cells (grownCap w N 0 5 - N) = C
  have hCs : grownCap w N 0 5 ≤ C.size := by
    rw [← hC, Array.size_append, size_zeroCells, size_zeroCells, hzs]; omega
  generalize grownCap w N 0 5 = cap at *
  clear hrun e1 hC hi hz hsz hby hzs
  go_wp2
  go_ret
  refine ⟨_, rfl, ⟨rfl, .inr ⟨w.heap.size, cap, C, 0, 0, rfl, Nat.le_refl _, heap_alloc_new w.drew _, .inl (Nat.le_refl _), Nat.zero_le _, hcm, by omega, by simp⟩⟩, ((Below.refl _ _).drew).alloc (Nat.le_refl _) _⟩

theorem TBB : ElT Tryz.prog 105 25 1 24 := by
  refine ⟨Tryz.underlying105, ?_, by decide⟩
  obtain ⟨i, h1, h2, h3, h4⟩ := info_parts (show (Tryz.prog.info? 25).map (fun i => (i.zero, i.size, i.bytes)) = some (some (.slice none 0 0), 1, 24) by kernel_rfl)
  exact ⟨i, _, h1, h2, h3, h4, rfl⟩

set_option maxHeartbeats 400000 in
/-- octet.written of a number that fits in four bytes. -/
theorem oct_written4 (n : Int) (w : World) (h0 : 0 ≤ n) (h1 : n < 4294967296) :
    Calls Tryz.prog 54 #[.int .u64 n, .int .i64 4] w fun e w' => ∃ v, e = .returned (.tuple #[v, .int .i64 0]) ∧ Own w' w.heap.size 5 1 v 4 ((leB n.toNat 4).map BV) ∧ Below w.heap.size w w' := by
  have e1 : n / 4294967296 = 0 := by omega
  have HE := Lib.hid e1; clear e1
  have h2 : n % 4294967296 = n := by omega
  have H2 := Lib.hid h2; clear h2
  go_enter Tryz.func54, Tryz.ntmps54
  go_wp2_with fail
  refine (oct_sized 4 _).mono ?_
  rintro _ _ ⟨rfl, rfl⟩
  go_wp2_with fail
  refine (oct_bytesOf4 n _ h0 h1).mono ?_
  rintro _ w2 ⟨v, rfl, hown, hb⟩
  have Hown := Lib.hid hown; clear hown
  have Hb := Lib.hid hb; clear hb
  go_wp2_with fail
  go_ret2
  exact ⟨v, rfl, Hown.out, Hb.out⟩

set_option maxHeartbeats 400000 in
/-- slices.Concat(nil, l). -/
theorem lib_Concat2 (v : Value) (l : List UInt8) (b o : Nat) (w : World) (hv : RdB w v l) (h0 : 0 < l.length) (hl : l.length ≤ 1000000000) (ha : w.cell? ⟨b, o, none⟩ = some (.slice none 0 0)) (hb : w.cell? ⟨b, o + 1, none⟩ = some v) :
    Calls Tryz.prog 56 #[.slice (some ⟨b, o, none⟩) 2 2] w fun e w' => ∃ v', e = .returned v' ∧ Own w' w.heap.size 5 1 v' l.length (l.map BV) ∧ Below w.heap.size w w' := by
  have Hv := Lib.hid hv
  obtain ⟨a1, c, rfl, hc1, hc2, hc⟩ := hv
  clear hc hc1 hc2
  have h0' : ((0 : Int) < l.length) := by omega
  have Ha := Lib.hid ha
  have Hb := Lib.hid hb
  go_enter Tryz.func56, Tryz.ntmps56
  go_wp2_with fail
  refine wp_loop_rounds 3 ?_
  rw [rounds_succ]
  go_wp2_with fail
  rw [rounds_succ]
  go_wp2_with fail
  rw [rounds_succ]
  go_wp2_with fail
  refine (lib_Grow _ _ h0' (by omega)).mono ?_
  rintro _ w1 ⟨v1, rfl, h1, h1b⟩
  have H1 := Lib.hid h1; clear h1
  have H1b := Lib.hid h1b; clear h1b
  clear ha hb
  have ha1 := bel_cell H1b.out Ha.out
  have hb1 := bel_cell H1b.out Hb.out
  go_wp2_with fail
  refine wp_loop_rounds 3 ?_
  rw [rounds_succ]
  go_wp2_with (at_builtin; refine stop_here ?_)
  refine stop_out ?_
  refine wpList_app _ _ _ _ rfl rfl TB w.heap.size H1.out rfl (Src.ofNil _ TB.und 0) rfl ?_a ?_b ?_c ?_
  case _a => (first | omega | (simp only [List.length_append, List.length_map, List.length_cons, List.length_nil, List.length_reverse]; omega))
  case _b => (unfold maxLen; first | omega | (simp only [List.length_append, List.length_map, List.length_cons, List.length_nil, List.length_reverse]; omega))
  case _c => (first | omega | (simp only [World.size_alloc]; omega) | (simp; done) | exact (Hid.out ‹Hid (Below _ _ _)›).size | (refine Nat.le_trans (Hid.out ‹Hid (Below _ _ _)›).size ?_; simp))
  intro v2 w2 h2 h2g h2k
  have H2 := Lib.hid h2; clear h2
  have H2g := Lib.hid h2g; clear h2g
  have H2k := Lib.hid h2k; clear h2k
  have H2b := Lib.hid (below_own H1b.out H1b.out.size H1.out H2g.out)
  clear ha1 hb1 H2g H2k
  have ha2 := bel_cell H2b.out Ha.out
  have hb2 := bel_cell H2b.out Hb.out
  go_wp2_with (at_builtin; refine stop_here ?_)
  rw [rounds_succ]
  go_wp2_with (at_builtin; refine stop_here ?_)
  refine stop_out ?_
  refine wpList_app _ _ _ _ rfl rfl TB w.heap.size H2.out rfl (Src.rdB TB.und (Hv.out.below H2b.out)) rfl ?ab5a ?ab5b ?ab5c ?_
  case ab5a => (first | omega | (simp only [List.length_append, List.length_map, List.length_cons, List.length_nil, List.length_reverse]; omega))
  case ab5b => (unfold maxLen; first | omega | (simp only [List.length_append, List.length_map, List.length_cons, List.length_nil, List.length_reverse]; omega))
  case ab5c => (first | omega | (simp only [World.size_alloc]; omega) | (simp; done) | exact (Hid.out ‹Hid (Below _ _ _)›).size | (refine Nat.le_trans (Hid.out ‹Hid (Below _ _ _)›).size ?_; simp))
  intro v3 w3 h3 h3g h3k
  have H3 := Lib.hid h3; clear h3
  have H3g := Lib.hid h3g; clear h3g
  have H3k := Lib.hid h3k; clear h3k
  have H3b := Lib.hid (below_own H2b.out H2b.out.size H2.out H3g.out)
  clear ha2 hb2 H3g H3k
  go_wp2_with (at_builtin; refine stop_here ?_)
  rw [rounds_succ]
  go_wp2_with (at_builtin; refine stop_here ?_)
  go_ret
  exact ⟨v3, rfl, by simpa using H3.out, H3b.out⟩

set_option maxHeartbeats 400000 in
/-- octet.Big(nil, n, 4). -/
theorem oct_Big4 (n : Int) (w : World) (h0 : 0 ≤ n) (h1 : n < 4294967296) :
    Calls Tryz.prog 40 #[.slice none 0 0, .int .u64 n, .int .i64 4] w fun e w' => ∃ v, e = .returned (.tuple #[v, .int .i64 0]) ∧ Own w' w.heap.size 5 1 v 4 ((beB n.toNat 4).map BV) ∧ Below w.heap.size w w' := by
  go_enter Tryz.func40, Tryz.ntmps40
  go_wp2_with fail
  refine (oct_written4 n _ h0 h1).mono ?_
  rintro _ w1 ⟨v1, rfl, hown, hb⟩
  have Hown := Lib.hid hown; clear hown
  have Hb := Lib.hid hb; clear hb
  go_wp2_with fail
  refine (lib_Reverse Hown.out (by omega)).mono ?_
  rintro _ w2 ⟨rfl, hown2, hf⟩
  have Hown2 := Lib.hid hown2; clear hown2
  have Hf := Lib.hid hf; clear hf
  have Hb2 := Lib.hid (below_fr Hb.out Hf.out Hb.out.size (fun i _ h => (Hown.out.lt i h).1))
  clear Hf Hown
  obtain ⟨a1, c1, rfl, _, _, _⟩ := Hown2.out.cells
  go_wp2_with fail
  have hrd := RdB.below (Own.rdB (l := (leB n.toNat 4).reverse) (by simpa [leB_length] using Hown2.out)) ((Below.refl _ w2).alloc (Nat.le_refl _) (.cells #[.slice none 0 0, .slice a1 4 c1] 25))
  have Hrd := Lib.hid hrd; clear hrd
  refine (lib_Concat2 _ (leB n.toNat 4).reverse _ _ _ Hrd.out (by simp [leB_length]) (by simp [leB_length]) (by simp) (by simp)).mono ?_
  rintro _ w3 ⟨v3, rfl, h3, h3b⟩
  have H3 := Lib.hid h3; clear h3
  have H3b := Lib.hid h3b; clear h3b
  go_wp2_with fail
  go_ret2
  have hz := Hb2.out.size
  refine ⟨v3, rfl, ?_, (Hb2.out.alloc hz _).trans (H3b.out.mono (by simp; omega))⟩
  have := H3.out.mono (B' := w.heap.size) (by simp; omega)
  simpa [leB_length, beB] using this

end Go.Proofs.YtnpfnjkghlgooaaGreatDoor
