/-
  The walk of foundrylaw1.Spoil.
  Conditions: bytes that are owned.
-/
import Derived.Test.YtnpfnjkghlgooaaGreatDoorArWrite
namespace Go.Proofs.YtnpfnjkghlgooaaGreatDoor
set_option linter.unusedVariables false
set_option linter.unusedSimpArgs false
open Go Go.RowKit

theorem Own.base {w : World} {B : Nat} {e : TypeId} {size n c : Nat} {a : Option Addr} {xs : List Value} (h : Own w B e size (.slice a n c) n xs) (hn : 0 < n) : ∃ g, a = some ⟨g, 0, none⟩ := by
  rcases h.2 with ⟨h1, h2⟩ | ⟨g, cap, cur, lo, hi, hv, r⟩
  · omega
  · cases hv
    exact ⟨g, rfl⟩

set_option maxHeartbeats 1000000 in
theorem law_Spoil (v : Value) (n : Nat) (xs : List Value) (w : World) (B : Nat) (hB : B ≤ w.heap.size) (hv : Own w B 5 1 v n xs) (hn : n ≤ 1000000000) :
    Calls Tryz.prog 13 #[v] w fun e w' => e = .returned (.tuple #[]) ∧ Fr (fun k => v.ownBlock = some k) w w' := by
  obtain ⟨a, c, rfl, hc1, hc2, -⟩ := hv.cells
  have Hv := Lib.hid hv; clear hv
  unfold maxLen at hc2
  have hc3 : (c : Int) ≤ 9223372036854775807 := by omega
  clear hc2
  go_enter Tryz.func13, Tryz.ntmps13
  go_wp2_with fail
  obtain ⟨N, hN⟩ : ∃ N : Int, N = min (c : Int) ((n : Int) + 2000) := ⟨_, rfl⟩
  rw [← hN]
  have hN0 : 0 ≤ N := by omega
  have hN1 : N ≤ n + 2000 := by omega
  clear hN
  go_loopw [0] (fun s wr => ∃ (m cc : Nat) (aa : Option Addr) (ys : List Value), s = .slice aa m cc ∧ m ≤ 1000002000 ∧ Own wr B 5 1 (.slice aa m cc) m ys ∧ Fr (fun k => (Value.slice a n c).ownBlock = some k) w wr ∧ Moved w (.slice a n c) (.slice aa m cc)) (fun s _ => (N - (match s with | .slice _ m _ => (m : Int) | _ => 0)).toNat)
  case atStart => exact ⟨n, c, a, xs, rfl, by omega, Hv.out, Fr.refl _ _, Moved.refl _ _⟩
  case round =>
    obtain ⟨m, cc, aa, ys, rfl, hm, hown, hfr, hmv⟩ := hrel
    have Hown := Lib.hid hown; clear hown
    have hz := hfr.size
    have Hfr := Lib.hid hfr; clear hfr
    have Hmv := Lib.hid hmv; clear hmv
    by_cases hlt : (m : Int) < N
    · go_wp2_with (at_builtin; refine stop_here ?_)
      refine stop_out ?_
      refine wpList_app _ _ _ _ rfl rfl TB B (Hown.out.alloc _) rfl (Src.one1 TB.und _ rfl) rfl ?ab1a ?ab1b ?ab1c ?_
      case ab1a => (first | omega | (simp only [List.length_append, List.length_map, List.length_cons, List.length_nil, List.length_reverse]; omega))
      case ab1b => (unfold maxLen; first | omega | (simp only [List.length_append, List.length_map, List.length_cons, List.length_nil, List.length_reverse]; omega))
      case ab1c => (first | omega | (simp only [World.size_alloc]; omega) | (simp; done) | exact (Hid.out ‹Hid (Below _ _ _)›).size | (refine Nat.le_trans (Hid.out ‹Hid (Below _ _ _)›).size ?_; simp))
      intro v1 w1 h1 h1g h1k
      have H1 := Lib.hid h1; clear h1
      have H1g := Lib.hid h1g; clear h1g
      have H1k := Lib.hid h1k; clear h1k
      obtain ⟨a1, c1, rfl, -, -, -⟩ := H1.out.cells
      go_wp2_with fail
      go_roundw
      case rel =>
        refine ⟨m + 1, c1, a1, _, rfl, by omega, H1.out, ?_, ?_⟩
        · exact fr_app (fr_alloc Hfr.out _) H1g.out (Moved.fr Hmv.out fun k h => h)
        · exact Hmv.out.step (by simp; omega) H1k.out
      case measure => simp; omega
    · go_wp2_with fail
      go_loopw [3] (fun i wr2 => ∃ (j : Nat) (zs : List Value), i = .int .i64 j ∧ j ≤ m ∧ Own wr2 B 5 1 (.slice aa m cc) m zs ∧ Fr (fun k => (Value.slice a n c).ownBlock = some k) w wr2) (fun i _ => m - (intOf i).toNat)
      case atStart => exact ⟨0, ys, rfl, Nat.zero_le _, Hown.out, Hfr.out⟩
      case round =>
        obtain ⟨j, zs, rfl, hj, hown, hfr⟩ := hrel
        have Hown := Lib.hid hown; clear hown
        have Hfr := Lib.hid hfr; clear hfr
        by_cases hlt2 : (j : Int) < m
        · obtain ⟨g, rfl⟩ := Hown.out.base (by omega)
          have hjl : j < zs.length := by
            have := Hown.out.1
            omega
          obtain ⟨g1, g2⟩ := Hown.out.cellAt j zs[j] (by simp [hjl])
          go_wp2_with fail
          go_roundw
          case rel =>
            refine ⟨j + 1, _, by go_num, by omega, Hown.out.set j _, ?_⟩
            exact Hfr.out.trans (Fr.of_grown (S := fun k => k = g) (grown_setCell _ g j _) fun k hk => (Option.some.inj hk).symm) fun i hi h => Moved.fr Hmv.out (fun k h => h) i (by rw [h]; rfl) hi
          case measure => simp [intOf]; omega
        · go_wp2_with fail
          go_end0
          exact ⟨rfl, Hfr.out⟩

end Go.Proofs.YtnpfnjkghlgooaaGreatDoor
