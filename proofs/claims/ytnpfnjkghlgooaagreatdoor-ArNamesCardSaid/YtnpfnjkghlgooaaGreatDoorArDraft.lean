/-
  The walks of ar.draft's methods: record, name.
  Conditions: lengths as each says.
-/
import Derived.Test.YtnpfnjkghlgooaaGreatDoorArIndex
import Derived.Deep.RegionLaw
namespace Go.Proofs.YtnpfnjkghlgooaaGreatDoor
set_option linter.unusedVariables false
set_option linter.unusedSimpArgs false
open Go Go.RowKit

def strV (l : List UInt8) : Value := .string ⟨l.toArray⟩
/-- A draft in block D: its bytes, its long names, its names in headers. -/
abbrev Drf (w0 w : World) (D : Nat) (bv nv : Value) (bl long : List UInt8) (ns : List (List UInt8)) : Prop :=
  Tri w0 w 5 9 47 bv nv (.slice (some ⟨D, 0, none⟩) 3 3) (bl.map BV) (ns.map strV) [bv, strV long, nv]
theorem Tri.storeC {w0 w : World} {e1 e2 e3 : TypeId} {g n cp : Nat} {a b : Value} {la lb lc : List Value} (h : Tri w0 w e1 e2 e3 a b (.slice (some ⟨g, 0, none⟩) n cp) la lb lc) (hn : lc.length = n) (i : Nat) (u : Value) :
    Tri w0 (w.setCell ⟨g, i, none⟩ u) e1 e2 e3 a b (.slice (some ⟨g, 0, none⟩) n cp) la lb (lc.set i u) := (h.rot.rot.store hn i u).rot

set_option maxHeartbeats 2000000 in
theorem ar_record (w0 : World) (D : Nat) (bv nv : Value) (bl long : List UInt8) (ns : List (List UInt8)) (nm : ByteArray) (dv : Value) (dl : List UInt8) (w : World) (h : Drf w0 w D bv nv bl long ns) (hG : Glob w0)
    (hd : ∀ w', Fr (fun k => bv.ownBlock = some k ∨ k = D) w w' → RdB w' dv dl) (hl1 : bl.length ≤ 1000000000) (hl2 : nm.size ≤ 1000000) (hl3 : dl.length ≤ 1000000000) :
    Calls Tryz.prog 25 #[.pointer (some ⟨D, 0, none⟩), .string nm, dv] w fun e w' => e = .returned (.tuple #[]) ∧ ∃ bv', Drf w0 w' D bv' nv (putRec bl nm.data.toList dl) long ns := by
  have Hd := Lib.hid hd
  obtain ⟨da, dc, hdv, hd1, hd2, hd3⟩ := hd w (Fr.refl _ _)
  subst hdv
  clear hd hd3
  have hz := h.be.size
  obtain ⟨g1, g2⟩ := h.cellC rfl 0 _ rfl
  obtain ⟨ba, bc, hba, _, _, _⟩ := h.oa.cells
  rw [List.length_map] at hba
  subst hba
  have Ht := Lib.hid h; clear h
  have HG := Lib.hid hG; clear hG
  have he := evenB_le bl
  go_enter Tryz.func25, Tryz.ntmps25
  go_upto_if 12 with fail
  go_cut [] (fun wx => ∃ bv1, Drf w0 wx D bv1 nv (evenB bl) long ns ∧ Fr (fun k => (Value.slice ba bl.length bc).ownBlock = some k ∨ k = D) w wx ∧ Moved w (.slice ba bl.length bc) bv1)
  case first =>
    have hev := Lib.hid (show bl.length % 2 = 1 → evenB bl = bl ++ [10] from fun h => by simp [evenB, h])
    have hod := Lib.hid (show ¬ bl.length % 2 = 1 → evenB bl = bl from fun h => by simp [evenB, h])
    by_cases h2 : (bl.length : Int) % 2 = 1
    · have hb2 : ((bl.length : Int) % 2 == 1) = true := by simp [h2]
      go_wp2_with (at_builtin; refine stop_here ?_)
      refine stop_out ?_
      refine wpList_app _ _ _ _ rfl rfl TB w0.heap.size (Ht.out.alloc _).oa rfl (Src.one1 TB.und _ rfl) rfl ?ab1a ?ab1b ?ab1c ?_
      case ab1a => (first | omega | (simp only [List.length_append, List.length_map, List.length_cons, List.length_nil, List.length_reverse]; omega))
      case ab1b => (unfold maxLen; first | omega | (simp only [List.length_append, List.length_map, List.length_cons, List.length_nil, List.length_reverse]; omega))
      case ab1c => (first | omega | (simp only [World.size_alloc]; omega) | (simp; done) | exact (Hid.out ‹Hid (Below _ _ _)›).size | (refine Nat.le_trans (Hid.out ‹Hid (Below _ _ _)›).size ?_; simp))
      intro v1 w1 h1 h1g h1k
      have H1 := Lib.hid h1; clear h1
      have H1g := Lib.hid h1g; clear h1g
      have H1k := Lib.hid h1k; clear h1k
      have T1 := (Ht.out.alloc _).app H1.out (by rw [hev.out (by omega), List.map_append]; rfl : _ = (evenB bl).map BV) H1g.out H1k.out
      obtain ⟨g3, g4⟩ := T1.cellC rfl 0 _ rfl
      obtain ⟨va, vc, hva, _, _, _⟩ := H1.out.cells
      rw [List.length_map] at hva
      subst hva
      have T2 := Lib.hid (T1.storeC rfl 0 (.slice va (bl.length + 1) vc))
      have hfr := fr_app (S := fun k => (Value.slice ba bl.length bc).ownBlock = some k ∨ k = D) (fr_alloc (Fr.refl _ w) _) H1g.out (fun k h _ => .inl h)
      have hfr2 := hfr.trans (Fr.of_grown (S := fun k => k = D) (grown_setCell _ D 0 (.slice va (bl.length + 1) vc)) (fun k h => by cases h; rfl)) (fun i _ h => .inr h)
      have Hfr := Lib.hid hfr2
      clear T1 g1 g2 hfr hfr2
      go_wp2_with (at_builtin; refine stop_here ?_)
      go_meet
      exact ⟨_, T2.out, Hfr.out, (Moved.refl _ _).step (by simp) H1k.out⟩
    · have hb2 : ((bl.length : Int) % 2 == 1) = false := by simp [h2]
      go_wp2_with (at_builtin; refine stop_here ?_)
      go_meet
      rw [hod.out (by omega)]
      exact ⟨_, Ht.out, Fr.refl _ _, Moved.refl _ _⟩
  case rest =>
    obtain ⟨bv1, hD, hF, hM⟩ := hcut
    have HD := Lib.hid hD; clear hD
    have HF := Lib.hid hF; clear hF
    have HM := Lib.hid hM; clear hM
    clear g1 g2
    have hz2 := HD.out.be.size
    have hzF := HF.out.size
    obtain ⟨va, vc, hva, _, _, _⟩ := HD.out.oa.cells
    rw [List.length_map] at hva
    subst hva
    obtain ⟨g1, g2⟩ := HD.out.cellC rfl 0 _ rfl
    have hhl2 : (hdr nm.data.toList dl.length).length ≤ 3000000 := by
      rw [hdr_len _ _ (by omega), dl_eq]; omega
    have HG2 := Lib.hid (HG.out.below HD.out.be)
    go_wp2_with fail
    have q1 : ((List.map BV (evenB bl)).length + (hdr nm.data.toList dl.length).length) * 1 ≤ 140737488355328 := by rw [List.length_map]; omega
    have q2 : (List.map BV (evenB bl)).length + (hdr nm.data.toList dl.length).length ≤ maxLen := by unfold maxLen; rw [List.length_map]; omega
    have q3 : ((List.map BV (evenB bl)).length + (hdr nm.data.toList dl.length).length + dl.length) * 1 ≤ 140737488355328 := by rw [List.length_map]; omega
    have q4 : (List.map BV (evenB bl)).length + (hdr nm.data.toList dl.length).length + dl.length ≤ maxLen := by unfold maxLen; rw [List.length_map]; omega
    have HDd := Lib.hid (HD.out.bel ((Below.refl _ wc).drew))
    have HFd := Lib.hid (HF.out.trans (Fr.drew (fun _ => False) wc) (fun _ _ h => h.elim))
    clear he hhl2
    go_region_law
      (first
        | (go_simp; go_at_call 41; refine (ar_head nm dl.length _ (by omega) (by omega) (Glob.below HG2.out (Below.refl _ _).drew)).mono ?_; rintro _ w1 ⟨rfl, hb1⟩; have Hb1 := Lib.hid hb1; clear hb1; have T1 := Lib.hid (HDd.out.bel Hb1.out); obtain ⟨g3, g4⟩ := T1.out.cellC rfl 0 _ rfl)
        | (refine step_app _ _ _ _ (by rfl) (by rfl) TB w0.heap.size T1.out.oa (by rfl) (Src.strL Tryz.underlying9 (hdr nm.data.toList dl.length)) (by rfl) q1 q2 T1.out.be.size ?_; intro v7 w7 h7 h7g h7k; have H7g := Lib.hid h7g; have T7 := Lib.hid (T1.out.app h7 rfl h7g h7k); have H7 := Lib.hid h7; have H7k := Lib.hid h7k; clear h7 h7g h7k)
        | (refine step_app _ _ _ _ (by rfl) (by rfl) TB w0.heap.size H7.out (by rfl) (Src.rdB TB.und (Hd.out _ (fr_app (fr_bel HFd.out Hb1.out) H7g.out (HM.out.fr fun k h => .inl h)))) (by rfl) q3 q4 T7.out.be.size ?_; intro v8 w8 h8 h8g h8k; have t8 := T7.out.app h8 rfl h8g h8k; obtain ⟨xa, xc, hx, _, _, _⟩ := h8.cells; rw [List.length_map] at hx; subst hx; obtain ⟨g8, g9⟩ := t8.cellC rfl 0 _ rfl; have T8 := Lib.hid t8; clear h8 h8g h8k t8))
    all_goals
      have T9 := Lib.hid (T8.out.storeC rfl 0 (.slice xa ((evenB bl).length + (hdr nm.data.toList dl.length).length + dl.length) xc))
      clear T8 g8 g9 g1 g2
      go_wp2_with (at_builtin; refine stop_here ?_)
      go_end0
      refine ⟨rfl, .slice xa ((evenB bl).length + (hdr nm.data.toList dl.length).length + dl.length) xc, ?_⟩
      have t9 := T9.out
      rw [← List.map_append, ← List.map_append] at t9
      exact t9

theorem strV_app (s : ByteArray) (l : List UInt8) : Value.string (s ++ ⟨l.toArray⟩) = strV (s.data.toList ++ l) := by
  rw [ba_app_r]; rfl

set_option maxHeartbeats 2000000 in
theorem ar_dname (w0 : World) (D : Nat) (bv nv : Value) (bl long : List UInt8) (ns : List (List UInt8)) (s : ByteArray) (w : World) (h : Drf w0 w D bv nv bl long ns) (hG : Glob w0)
    (hl1 : long.length ≤ 1000000) (hl2 : s.size ≤ 1000000) (hl3 : ns.length ≤ 1000000) :
    Calls Tryz.prog 21 #[.pointer (some ⟨D, 0, none⟩), .string s] w fun e w' => e = .returned (.tuple #[]) ∧ ∃ nv', Drf w0 w' D bv nv' bl (addLong long s.data.toList) (ns ++ [mname long s.data.toList]) := by
  have hz := h.be.size
  obtain ⟨g1, g2⟩ := h.cellC rfl 2 _ rfl
  obtain ⟨k1, k2⟩ := h.cellC rfl 1 _ rfl
  obtain ⟨na, nc, hna, _, _, _⟩ := h.ob.cells
  rw [List.length_map] at hna
  subst hna
  unfold strV at k1
  have Ht := Lib.hid h; clear h
  have HG := Lib.hid hG; clear hG
  by_cases h15 : (s.size : Int) ≤ 15
  · have e1 : mname long s.data.toList = s.data.toList ++ [47] := by unfold mname; rw [if_pos (by rw [dl]; omega)]
    have e2 : addLong long s.data.toList = long := by unfold addLong; rw [if_pos (by rw [dl]; omega)]
    rw [e1, e2]
    clear e1 e2
    go_enter Tryz.func21, Tryz.ntmps21
    go_wp2_with (at_builtin; refine stop_here ?_)
    refine stop_out ?_
    refine wpList_app _ _ _ _ rfl rfl TS w0.heap.size (Ht.out.alloc _).ob rfl (Src.one1 TS.und _ rfl) rfl ?ab2ba ?ab2b ?ab2c ?_
    case ab2ba => (first | omega | (simp only [List.length_append, List.length_map, List.length_cons, List.length_nil, List.length_reverse]; omega))
    case ab2b => (unfold maxLen; first | omega | (simp only [List.length_append, List.length_map, List.length_cons, List.length_nil, List.length_reverse]; omega))
    case ab2c => (first | omega | (simp only [World.size_alloc]; omega) | (simp; done) | exact (Hid.out ‹Hid (Below _ _ _)›).size | (refine Nat.le_trans (Hid.out ‹Hid (Below _ _ _)›).size ?_; simp))
    intro v1 w1 h1 h1g h1k
    have H1 := Lib.hid h1; clear h1
    have H1g := Lib.hid h1g; clear h1g
    have H1k := Lib.hid h1k; clear h1k
    have T1 := ((Ht.out.alloc _).rot.app H1.out (by rw [strV_app s [47]] : _ = (ns.map strV) ++ [strV (s.data.toList ++ [47])]) H1g.out H1k.out).rot.rot
    obtain ⟨g3, g4⟩ := T1.cellC rfl 2 _ rfl
    obtain ⟨va, vc, hva, _, _, _⟩ := H1.out.cells
    rw [List.length_map] at hva
    subst hva
    have T2 := Lib.hid (T1.storeC rfl 2 (.slice va (ns.length + 1) vc))
    clear T1 g1 g2
    go_wp2_with (at_builtin; refine stop_here ?_)
    refine bodyPost_ret (results_none rfl _ _ _) rfl ?_
    refine ⟨rfl, .slice va (ns.length + 1) vc, ?_⟩
    have t2 := T2.out
    rw [show (ns.map strV) ++ [strV (s.data.toList ++ [47])] = (ns ++ [s.data.toList ++ [47]]).map strV by simp] at t2
    exact t2
  · have e1 : mname long s.data.toList = 47 :: Lib.decDigits long.length := by unfold mname; rw [if_neg (by rw [dl]; omega)]
    have e2 : addLong long s.data.toList = long ++ s.data.toList ++ [47, 10] := by unfold addLong; rw [if_neg (by rw [dl]; omega)]
    rw [e1, e2]
    clear e1 e2
    have hd10 := dig10 long.length (by omega)
    have hcat : ¬ 9223372036854775807 < 1 + (Lib.decDigits long.length).length := by omega
    go_enter Tryz.func21, Tryz.ntmps21
    go_wp2_with (at_builtin; refine stop_here ?_)
    have q1 : ((List.map strV ns).length + 1) * 16 ≤ 140737488355328 := by rw [List.length_map]; omega
    have q2 : (List.map strV ns).length + 1 ≤ maxLen := by unfold maxLen; rw [List.length_map]; omega
    have HDd := Lib.hid (Ht.out.bel ((Below.refl _ w).drew))
    go_region_law
      (first
        | (go_simp; go_at_call 39; refine (lib_Itoa long.length _ (by omega) (Glob.below HG.out HDd.out.be)).mono ?_; rintro _ w1 ⟨rfl, hb1⟩; have Hb1 := Lib.hid hb1; clear hb1; have T1 := Lib.hid (HDd.out.bel Hb1.out); obtain ⟨g3, g4⟩ := T1.out.cellC rfl 2 _ rfl; have hDl : D < w1.heap.size := World.block_lt_of_cell? w1 _ g3)
        | (refine step_app _ _ _ _ (by rfl) (by rfl) TS w0.heap.size (T1.out.alloc _).ob (by rfl) (Src.one1 TS.und _ rfl) (by rfl) q1 q2 (T1.out.alloc _).be.size ?_; intro v7 w7 h7 h7g h7k; have t7 := (T1.out.alloc _).rot.app h7 rfl h7g h7k; obtain ⟨xa, xc, hx, _, _, _⟩ := h7.cells; rw [List.length_map] at hx; subst hx; have t8 := t7.rot.rot; obtain ⟨g8, g9⟩ := t8.cellC rfl 2 _ rfl; have T8 := Lib.hid t8; clear h7 h7g h7k t7 t8))
    all_goals
      have t9 := T8.out.storeC rfl 2 (.slice xa (ns.length + 1) xc)
      obtain ⟨k3, k4⟩ := t9.cellC rfl 1 _ rfl
      unfold strV at k3
      have T9 := Lib.hid t9
      clear T8 g8 g9 g1 g2 k1 k2 t9 g3 g4
      go_wp2_with (at_builtin; refine stop_here ?_)
      have T10 := T9.out.storeC rfl 1 (.string (⟨long.toArray⟩ ++ (s ++ ⟨#[47, 10]⟩)))
      clear T9 k3 k4
      first | go_end0 | refine bodyPost_ret (results_none rfl _ _ _) rfl ?_
      refine ⟨rfl, .slice xa (ns.length + 1) xc, ?_⟩
      have e3 : Value.string (⟨long.toArray⟩ ++ (s ++ ⟨#[47, 10]⟩)) = strV (long ++ s.data.toList ++ [47, 10]) := by
        rw [ba_app_r s [47, 10], ba_app, List.append_assoc]; rfl
      have e4 : (ns.map strV) ++ [Value.string (⟨#[47]⟩ ++ ⟨(Lib.decDigits long.length).toArray⟩)] = (ns ++ [47 :: Lib.decDigits long.length]).map strV := by
        rw [show (⟨#[47]⟩ ++ ⟨(Lib.decDigits long.length).toArray⟩ : ByteArray) = ⟨(47 :: Lib.decDigits long.length).toArray⟩ from ba_app [47] _]
        simp [strV]
      rw [e3, e4] at T10
      rw [e3]
      exact T10

end Go.Proofs.YtnpfnjkghlgooaaGreatDoor
