/-
  The walks of foundryref7's writing: bytes4, record, May, write, Write, Find.
  Conditions: as each says.
-/
import Derived.Test.YtnpfnjkghlgooaaGreatDoorArNum
namespace Go.Proofs.YtnpfnjkghlgooaaGreatDoor
set_option linter.unusedVariables false
set_option linter.unusedSimpArgs false
open Go Go.RowKit

theorem beB4 (n : Nat) : beB n 4 = be4 n := by
  simp [beB, leB, byteN, be4, List.range_succ]

set_option maxHeartbeats 400000 in
theorem ref1_put4 (n : Int) (w : World) (h0 : 0 ≤ n) (h1 : n < 4294967296) :
    Calls Tryz.prog 78 #[.slice none 0 0, .int .u64 n, .int .i64 4, .bool true] w fun e w' => ∃ v, e = .returned (.tuple #[v, .int .i64 0]) ∧ Own w' w.heap.size 5 1 v 4 ((beB n.toNat 4).map BV) ∧ Below w.heap.size w w' := by
  have e1 : n / 4294967296 = 0 := by omega
  have HE := Lib.hid e1; clear e1
  go_enter Tryz.func78, Tryz.ntmps78
  go_wp2_with fail
  refine (ref1_sized 4 _).mono ?_
  rintro _ _ ⟨rfl, rfl⟩
  have hs : (!sizedB 4) = false := rfl
  have hn : (n / 4294967296 != 0) = false := by rw [HE.out]; rfl
  go_wp2_with fail
  refine (ref1_Fixed n 4 _ h0 (by omega) (by omega) (by omega)).mono ?_
  rintro _ w1 ⟨v1, rfl, hown, hb⟩
  have Hown := Lib.hid hown; clear hown
  have Hb := Lib.hid hb; clear hb
  go_wp2_with fail
  refine (ref1_turned v1 (leB n.toNat 4) _ (Own.rdB (by simpa [leB_length] using Hown.out)) (by simp [leB_length])).mono ?_
  rintro _ w2 ⟨v2, rfl, hown2, hb2⟩
  have Hown2 := Lib.hid hown2; clear hown2
  have Hb2 := Lib.hid hb2; clear hb2
  have Hc := Lib.hid (bel_trans Hb.out Hb2.out)
  have hz := Hc.out.size
  go_wp2_with (at_builtin; refine stop_here ?_)
  refine stop_out ?_
  refine wpList_app _ _ _ _ rfl rfl TB w.heap.size (Own.nil _ w.heap.size _ 1) rfl (Src.ofNil _ TB.und 0) rfl ?ab1a ?ab1b ?ab1c ?_
  case ab1a => (first | omega | (simp only [List.length_append, List.length_map, List.length_cons, List.length_nil, List.length_reverse]; omega))
  case ab1b => (unfold maxLen; first | omega | (simp only [List.length_append, List.length_map, List.length_cons, List.length_nil, List.length_reverse]; omega))
  case ab1c => (first | omega | (simp only [World.size_alloc]; omega) | (simp; done) | exact (Hid.out ‹Hid (Below _ _ _)›).size | (refine Nat.le_trans (Hid.out ‹Hid (Below _ _ _)›).size ?_; simp))
  intro v3 w3 h3 h3g h3k
  have H3 := Lib.hid h3; clear h3
  have H3g := Lib.hid h3g; clear h3g
  have H3k := Lib.hid h3k; clear h3k
  have hz3 := H3g.out.size
  have hrd := RdB.below (Own.rdB (l := (leB n.toNat 4).reverse) (by simpa [leB_length] using Hown2.out)) (below_own (Below.refl _ w2) (Nat.le_refl _) ((Own.nil w2 w2.heap.size 5 1)) H3g.out)
  have Hrd := Lib.hid hrd; clear hrd
  have hl4 := leB_length n.toNat 4
  have Hl4 := Lib.hid hl4; clear hl4
  go_wp2_with (at_builtin; refine stop_here ?_)
  have hl4 := Hl4.out
  refine stop_out ?_
  refine wpList_app _ _ _ _ rfl rfl TB w.heap.size H3.out rfl (Src.rdB TB.und Hrd.out) rfl ?ab2ba ?ab2b ?ab2c ?_
  case ab2ba => (first | omega | (simp only [List.length_append, List.length_map, List.length_cons, List.length_nil, List.length_reverse]; omega))
  case ab2b => (unfold maxLen; first | omega | (simp only [List.length_append, List.length_map, List.length_cons, List.length_nil, List.length_reverse]; omega))
  case ab2c => (first | omega | (simp only [World.size_alloc]; omega) | (simp; done) | exact (Hid.out ‹Hid (Below _ _ _)›).size | (refine Nat.le_trans (Hid.out ‹Hid (Below _ _ _)›).size ?_; simp))
  intro v4 w4 h4 h4g h4k
  have H4 := Lib.hid h4; clear h4
  have H4g := Lib.hid h4g; clear h4g
  have H4k := Lib.hid h4k; clear h4k
  go_wp2_with (at_builtin; refine stop_here ?_)
  go_ret2
  refine ⟨v4, rfl, by simpa [leB_length, beB] using H4.out, ?_⟩
  exact below_own (below_own Hc.out hz (Own.nil _ _ 5 1) H3g.out) (by omega) H3.out H4g.out

set_option maxHeartbeats 400000 in
theorem ref1_Big4 (n : Int) (w : World) (h0 : 0 ≤ n) (h1 : n < 4294967296) :
    Calls Tryz.prog 58 #[.slice none 0 0, .int .u64 n, .int .i64 4] w fun e w' => ∃ v, e = .returned (.tuple #[v, .int .i64 0]) ∧ Own w' w.heap.size 5 1 v 4 ((beB n.toNat 4).map BV) ∧ Below w.heap.size w w' := by
  go_enter Tryz.func58, Tryz.ntmps58
  go_wp2_with fail
  refine (ref1_put4 n _ h0 h1).mono ?_
  rintro _ w1 ⟨v1, rfl, hown, hb⟩
  have Hown := Lib.hid hown; clear hown
  have Hb := Lib.hid hb; clear hb
  go_wp2_with fail
  go_ret2
  exact ⟨v1, rfl, Hown.out, Hb.out⟩

set_option maxHeartbeats 400000 in
theorem ref_bytes4 (n : Int) (w : World) (h0 : 0 ≤ n) (h1 : n < 4294967296) :
    Calls Tryz.prog 44 #[.int .i64 n] w fun e w' => ∃ v, e = .returned v ∧ Own w' w.heap.size 5 1 v 4 ((be4 n.toNat).map BV) ∧ Below w.heap.size w w' := by
  go_enter Tryz.func44, Tryz.ntmps44
  go_wp2_with fail
  refine (ref1_Big4 n _ h0 h1).mono ?_
  rintro _ w1 ⟨v1, rfl, hown, hb⟩
  have Hown := Lib.hid hown; clear hown
  have Hb := Lib.hid hb; clear hb
  go_wp2_with fail
  go_ret
  exact ⟨v1, rfl, by rw [← beB4]; exact Hown.out, Hb.out⟩

def dch (c : Int) : ByteArray := ⟨#[UInt8.ofNat c.toNat]⟩
theorem dch_size (c : Int) : (dch c).size ≤ 1 := Nat.le_refl _
theorem dch_app (n : Nat) (t : List UInt8) (c : Int) (h : c = 48 + (n : Int)) : (dch c) ++ (⟨t.toArray⟩ : ByteArray) = ⟨(UInt8.ofNat (48 + n) :: t).toArray⟩ := by
  subst h
  have := ba_app [UInt8.ofNat (48 + n)] t
  rw [← List.singleton_append, ← this]
  congr 1
theorem run_str1 (w : World) (c : Int) (h0 : 0 ≤ c) (h1 : c < 256) :
    (convert 25 9 (.slice (some ⟨w.heap.size, 0, none⟩) 1 1)).run Tryz.prog (w.alloc (.cells #[.int .u8 c] 5)) = .ok (.string (dch c)) (w.alloc (.cells #[.int .u8 c] 5)) := by
  have h : RdB (w.alloc (.cells #[.int .u8 c] 5)) (.slice (some ⟨w.heap.size, 0, none⟩) 1 1) [UInt8.ofNat c.toNat] := by
    refine ⟨_, _, rfl, Nat.le_refl _, by unfold maxLen; omega, fun j u hj => ⟨_, _, rfl, ?_⟩⟩
    match j, hj with
    | 0, hj =>
      have e : ((UInt8.ofNat c.toNat).toNat : Int) = c := by
        rw [UInt8.toNat_ofNat', Nat.mod_eq_of_lt (by omega)]; omega
      have hj' : u = .int .u8 c := by
        have : BV (UInt8.ofNat c.toNat) = u := by simpa using hj
        rw [← this, BV, e]
      subst hj'
      exact World.cell?_alloc_new w _ _ 0
  exact run_str Tryz.underlying25 Tryz.underlying5 Tryz.underlying9 h

theorem digits_app (n : Nat) (hn : 10 ≤ n) (t : List UInt8) : Lib.decDigits n ++ t = Lib.decDigits (n / 10) ++ (UInt8.ofNat (48 + n % 10) :: t) := by
  rw [decDigits_snoc n hn, List.append_assoc]; rfl

set_option maxHeartbeats 400000 in
theorem ref_Digits (n : Int) (w : World) (h0 : 0 ≤ n) (h1 : n ≤ 1000000000000) :
    Calls Tryz.prog 36 #[.int .i64 n] w fun e w' => e = .returned (.string ⟨(Lib.decDigits n.toNat).toArray⟩) ∧ Below w.heap.size w w' := by
  obtain ⟨N, rfl⟩ := Int.eq_ofNat_of_zero_le h0
  simp only [Int.toNat_natCast]
  go_enter Tryz.func36, Tryz.ntmps36
  go_wp2
  go_loopw [0, 3] (fun n s wr => ∃ (M : Nat) (t : List UInt8), n = .int .i64 M ∧ M ≤ N ∧ s = .string ⟨t.toArray⟩ ∧ t.length + M ≤ N ∧ Lib.decDigits M ++ t = Lib.decDigits N ∧ Below w.heap.size w wr) (fun n _ _ => (intOf n).toNat)
  case atStart => exact ⟨N, [], rfl, Nat.le_refl _, rfl, by simp, by simp, Below.refl _ _⟩
  case round =>
    obtain ⟨M, t, rfl, hM, rfl, htl, heq, hb⟩ := hrel
    have Heq := Lib.hid heq; clear heq
    have Hb := Lib.hid hb; clear hb
    by_cases hlt : (10 : Int) ≤ M
    · have hk := run_str1 wr (48 + (M : Int) % 10) (by omega) (by omega)
      have hsz := dch_size (48 + (M : Int) % 10)
      go_wp2
      rw [dch_app (M % 10) t _ (by omega)]
      go_roundw
      case rel =>
        refine ⟨M / 10, _, by simp, by omega, rfl, ?_, ?_, (Hb.out.alloc Hb.out.size _)⟩
        · simp only [List.length_cons]; omega
        · rw [← digits_app M (by omega)]; exact Heq.out
      case measure => simp [intOf]; omega
    · have hk := run_str1 wr (48 + (M : Int)) (by omega) (by omega)
      have hsz := dch_size (48 + (M : Int))
      go_wp2
      go_ret
      refine ⟨ret_str ?_, Hb.out.alloc Hb.out.size _⟩
      rw [dch_app M t _ rfl, ← Heq.out, decDigits_one M (by omega)]
      rfl

theorem dl_eq (s : ByteArray) : s.data.toList.length = s.size := Array.length_toList
theorem evenB_le (b : List UInt8) : (evenB b).length ≤ b.length + 1 := by
  unfold evenB; split <;> simp
theorem hdr_length (n : List UInt8) (k : Nat) : (hdr n k).length = max n.length 16 + 32 + max (Lib.decDigits k).length 10 + 2 := by
  simp [hdr, fld_length]; omega

set_option maxHeartbeats 1000000 in
/-- foundryref7.record: bytes that are owned; a name; bytes that lie elsewhere. -/
theorem ref_record (B : Nat) (b : Value) (bl : List UInt8) (nm : ByteArray) (dv : Value) (dl : List UInt8) (w : World) (hb : Own w B 5 1 b bl.length (bl.map BV)) (hB : B ≤ w.heap.size)
    (hd : ∀ w', Fr (fun k => b.ownBlock = some k) w w' → RdB w' dv dl) (hl1 : bl.length ≤ 1000000000) (hl2 : nm.size ≤ 1000000) (hl3 : dl.length ≤ 1000000000) :
    Calls Tryz.prog 45 #[b, .string nm, dv] w fun e w' => ∃ v, e = .returned v ∧ Own w' B 5 1 v (putRec bl nm.data.toList dl).length ((putRec bl nm.data.toList dl).map BV) ∧ Fr (fun k => b.ownBlock = some k) w w' ∧ Moved w b v := by
  have Hd := Lib.hid hd
  obtain ⟨da, dc, hdv, hd1, hd2, hd3⟩ := hd w (Fr.refl _ _)
  subst hdv
  clear hd hd3
  have Hb := Lib.hid hb; clear hb
  generalize hS : (fun k => b.ownBlock = some k) = S at *
  have HS := Lib.hid hS; clear hS
  have hsb : ∀ k, b.ownBlock = some k → S k := fun k h => by rw [← HS.out]; exact h
  have Hsb := Lib.hid hsb; clear hsb
  obtain ⟨ba, bc, hbv, _, _, _⟩ := Hb.out.cells
  have Hbv := Lib.hid hbv; clear hbv
  have l1 := fld_le nm.data.toList 16
  have dl' := dl_eq nm
  rw [dl'] at l1
  clear dl'
  have l2 := fld_le [48] 12
  have l3 := fld_le [48] 6
  have l4 := fld_le [54, 52, 52] 8
  have l5 := fld_le (Lib.decDigits dl.length) 10
  have l6 := decDigits_le dl.length 10 (by omega) (by omega)
  simp only [List.length_cons, List.length_nil] at l2 l3 l4
  have he := evenB_le bl
  go_enter Tryz.func45, Tryz.ntmps45
  rw [Hbv.out]
  go_upto_if 10 with fail
  go_cut [0] (fun v wx => Own wx B 5 1 v (evenB bl).length ((evenB bl).map BV) ∧ Fr S w wx ∧ Moved w b v)
  case first =>
    have hev := Lib.hid (show bl.length % 2 = 1 → evenB bl = bl ++ [10] from fun h => by simp [evenB, h])
    have hod := Lib.hid (show ¬ bl.length % 2 = 1 → evenB bl = bl from fun h => by simp [evenB, h])
    rw [← Hbv.out]
    by_cases h2 : (bl.length : Int) % 2 = 1
    · have hb2 : ((bl.length : Int) % 2 == 1) = true := by simp [h2]
      go_wp2_with (at_builtin; refine stop_here ?_)
      refine stop_out ?_
      refine wpList_app _ _ _ _ rfl rfl TB B (Hb.out.alloc _) rfl (Src.one1 TB.und _ rfl) rfl ?ab3ca ?ab3cb ?ab3c ?_
      case ab3ca => (first | omega | (simp only [List.length_append, List.length_map, List.length_cons, List.length_nil, List.length_reverse]; omega))
      case ab3cb => (unfold maxLen; first | omega | (simp only [List.length_append, List.length_map, List.length_cons, List.length_nil, List.length_reverse]; omega))
      case ab3c => (first | omega | (simp only [World.size_alloc]; omega) | (simp; done) | exact (Hid.out ‹Hid (Below _ _ _)›).size | (refine Nat.le_trans (Hid.out ‹Hid (Below _ _ _)›).size ?_; simp))
      intro v1 w1 h1 h1g h1k
      have H1 := Lib.hid h1; clear h1
      have H1g := Lib.hid h1g; clear h1g
      have H1k := Lib.hid h1k; clear h1k
      go_wp2_with (at_builtin; refine stop_here ?_)
      go_meet
      rw [hev.out (by omega)]
      exact ⟨by simpa [BV] using H1.out, fr_app (fr_alloc (Fr.refl _ _) _) H1g.out fun k h _ => Hsb.out k h, (Moved.refl _ _).step (by simp) H1k.out⟩
    · have hb2 : ((bl.length : Int) % 2 == 1) = false := by simp [h2]
      go_wp2_with (at_builtin; refine stop_here ?_)
      go_meet
      rw [hod.out (by omega)]
      exact ⟨Hb.out, Fr.refl _ _, Moved.refl _ _⟩
  case rest =>
    obtain ⟨hown, hfr, hmv⟩ := hcut
    have Hown := Lib.hid hown; clear hown
    have Hfr := Lib.hid hfr; clear hfr
    have Hmv := Lib.hid hmv; clear hmv
    go_wp2_with fail
    refine (ref_field nm 16 _ (by omega) (by omega) (by omega)).mono ?_
    rintro _ w1 ⟨rfl, rfl⟩
    go_wp2_with fail
    refine (ref_field ⟨#[48]⟩ 12 _ (by decide) (by omega) (by omega)).mono ?_
    rintro _ w2 ⟨rfl, rfl⟩
    go_wp2_with fail
    refine (ref_field ⟨#[48]⟩ 6 _ (by decide) (by omega) (by omega)).mono ?_
    rintro _ w3 ⟨rfl, rfl⟩
    go_wp2_with fail
    refine (ref_field ⟨#[48]⟩ 6 _ (by decide) (by omega) (by omega)).mono ?_
    rintro _ w4 ⟨rfl, rfl⟩
    go_wp2_with fail
    refine (ref_field ⟨#[54, 52, 52]⟩ 8 _ (by decide) (by omega) (by omega)).mono ?_
    rintro _ w5 ⟨rfl, rfl⟩
    go_wp2_with fail
    refine (ref_Digits _ _ (by omega) (by omega)).mono ?_
    rintro _ w6 ⟨rfl, hb6⟩
    have Hb6 := Lib.hid hb6; clear hb6
    go_wp2_with fail
    refine (ref_field ⟨(Lib.decDigits dl.length).toArray⟩ 10 _ (by rw [ba_size]; omega) (by omega) (by omega)).mono ?_
    rintro _ w7 ⟨rfl, rfl⟩
    go_wp2_with (at_builtin; refine stop_here ?_)
    have hh := Lib.hid (hdr_length nm.data.toList dl.length)
    have eh : (⟨(fld nm.data.toList 16).toArray⟩ : ByteArray) ++ ⟨(fld [48] 12).toArray⟩ ++ ⟨(fld [48] 6).toArray⟩ ++ ⟨(fld [48] 6).toArray⟩ ++ ⟨(fld [54, 52, 52] 8).toArray⟩ ++ ⟨(fld (Lib.decDigits dl.length) 10).toArray⟩ ++ ⟨#[96, 10]⟩ = ⟨(hdr nm.data.toList dl.length).toArray⟩ := by
      simp only [ba_app]; rfl
    have Eh := Lib.hid eh; clear eh
    rw [Eh.out]
    clear Eh
    have hz := Hfr.out.size
    have hz6 := Hb6.out.size
    have hhl := hh.out
    rw [dl_eq] at hhl
    have hhl2 : (hdr nm.data.toList dl.length).length ≤ 3000000 := by omega
    clear hhl hh
    refine stop_out ?_
    refine wpList_app _ _ _ _ rfl rfl TB B (Hown.out.below Hb6.out) rfl (Src.strL Tryz.underlying9 _) rfl ?_a ?_b ?_c ?_
    case _a => (first | omega | (simp only [List.length_append, List.length_map, List.length_cons, List.length_nil, List.length_reverse]; omega))
    case _b => (unfold maxLen; first | omega | (simp only [List.length_append, List.length_map, List.length_cons, List.length_nil, List.length_reverse]; omega))
    case _c => (first | omega | (simp only [World.size_alloc]; omega) | (simp; done) | exact (Hid.out ‹Hid (Below _ _ _)›).size | (refine Nat.le_trans (Hid.out ‹Hid (Below _ _ _)›).size ?_; simp))
    intro v7 w7 h7 h7g h7k
    have H7 := Lib.hid h7; clear h7
    have H7g := Lib.hid h7g; clear h7g
    have H7k := Lib.hid h7k; clear h7k
    have hfr7 := fr_app (fr_bel Hfr.out Hb6.out) H7g.out (Hmv.out.fr Hsb.out)
    have Hfr7 := Lib.hid hfr7; clear hfr7
    have hmv7 := Hmv.out.step (by omega) H7k.out
    have Hmv7 := Lib.hid hmv7; clear hmv7
    have hz7 := Hfr7.out.size
    go_wp2_with (at_builtin; refine stop_here ?_)
    refine stop_out ?_
    refine wpList_app _ _ _ _ rfl rfl TB B H7.out rfl (Src.rdB TB.und (Hd.out _ Hfr7.out)) rfl ?ab5a ?ab5b ?ab5c ?_
    case ab5a => (first | omega | (simp only [List.length_append, List.length_map, List.length_cons, List.length_nil, List.length_reverse]; omega))
    case ab5b => (unfold maxLen; first | omega | (simp only [List.length_append, List.length_map, List.length_cons, List.length_nil, List.length_reverse]; omega))
    case ab5c => (first | omega | (simp only [World.size_alloc]; omega) | (simp; done) | exact (Hid.out ‹Hid (Below _ _ _)›).size | (refine Nat.le_trans (Hid.out ‹Hid (Below _ _ _)›).size ?_; simp))
    intro v8 w8 h8 h8g h8k
    have H8 := Lib.hid h8; clear h8
    have H8g := Lib.hid h8g; clear h8g
    have H8k := Lib.hid h8k; clear h8k
    go_wp2_with (at_builtin; refine stop_here ?_)
    go_ret
    rw [← Hbv.out]
    exact ⟨v8, rfl, H8.out.to (by simp [putRec]), fr_app Hfr7.out H8g.out (Hmv7.out.fr Hsb.out), Hmv7.out.step (by omega) H8k.out⟩

end Go.Proofs.YtnpfnjkghlgooaaGreatDoor
