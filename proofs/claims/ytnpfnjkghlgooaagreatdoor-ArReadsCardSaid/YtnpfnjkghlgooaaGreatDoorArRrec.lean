/-
  The walk of foundryref7.records.
  Conditions: lengths up to a million.
-/
import Derived.Test.YtnpfnjkghlgooaaGreatDoorArRecs
namespace Go.Proofs.YtnpfnjkghlgooaaGreatDoor
set_option linter.unusedVariables false
set_option linter.unusedSimpArgs false
open Go Go.RowKit

theorem TRr : ElT Tryz.prog 59 63 3 48 := by
  refine ⟨Tryz.underlying59, ?_, by decide⟩
  obtain ⟨i, h1, h2, h3, h4⟩ := info_parts (show (Tryz.prog.info? 63).map (fun i => (i.zero, i.size, i.bytes)) = some (some (.agg #[.string ⟨#[]⟩, .slice none 0 0, .int .i64 0]), 3, 48) by kernel_rfl)
  exact ⟨i, _, h1, h2, h3, h4, rfl⟩

/-- The cells of records, as the document's answer has them. -/
def RrCells (w : World) (rs : List Rec) (xs : List Value) : Prop := xs.length = 3 * rs.length ∧
  ∀ (i : Nat) (r : Rec), rs[i]? = some r → xs[3 * i]? = some (.string ⟨r.name.toArray⟩) ∧ xs[3 * i + 2]? = some (.int .i64 (r.pos : Nat)) ∧ ∃ vd, xs[3 * i + 1]? = some vd ∧ RdB w vd r.data
theorem RrCells.nil (w : World) : RrCells w [] [] := ⟨rfl, fun i r h => by simp at h⟩
theorem RrCells.snoc {w : World} {rs : List Rec} {xs : List Value} (h : RrCells w rs xs) (r : Rec) (vd : Value) (hd : RdB w vd r.data) : RrCells w (rs ++ [r]) (xs ++ [.string ⟨r.name.toArray⟩, vd, .int .i64 (r.pos : Nat)]) := by
  refine ⟨by simp [h.1]; omega, fun i r' hi => ?_⟩
  rcases Nat.lt_or_ge i rs.length with h1 | h1
  · rw [List.getElem?_append_left h1] at hi
    obtain ⟨g1, g2, g3, g4, g5⟩ := h.2 i r' hi
    have := h.1
    exact ⟨by rw [List.getElem?_append_left (by omega)]; exact g1, by rw [List.getElem?_append_left (by omega)]; exact g2, g3, by rw [List.getElem?_append_left (by omega)]; exact g4, g5⟩
  · rw [List.getElem?_append_right h1] at hi
    have h2 : i - rs.length = 0 := by
      have := (List.getElem?_eq_some_iff.1 hi).1
      simp at this; omega
    rw [h2] at hi
    simp at hi
    subst hi
    have h3 := h.1
    have h4 : 3 * i = xs.length := by omega
    refine ⟨?_, ?_, vd, ?_, hd⟩
    · rw [h4, List.getElem?_append_right (Nat.le_refl _), Nat.sub_self]; rfl
    · rw [h4, List.getElem?_append_right (by omega), Nat.add_sub_cancel_left]; rfl
    · rw [h4, List.getElem?_append_right (by omega), Nat.add_sub_cancel_left]; rfl

theorem trim_app (l : List UInt8) (c : UInt8) : ∃ k, l = Lib.trimRightB l c ++ List.replicate k c := by
  refine ⟨(l.reverse.takeWhile (· == c)).length, ?_⟩
  have h := List.takeWhile_append_dropWhile (p := (· == c)) (l := l.reverse)
  have h2 : l.reverse.takeWhile (· == c) = List.replicate (l.reverse.takeWhile (· == c)).length c := by
    rw [List.eq_replicate_iff]
    refine ⟨rfl, fun b hb => ?_⟩
    have := List.all_eq_true.1 (List.all_takeWhile (p := (· == c)) (l := l.reverse)) b hb
    simpa using this
  have h3 := congrArg List.reverse h
  rw [List.reverse_append, List.reverse_reverse] at h3
  unfold Lib.trimRightB
  rw [← h3]
  conv => lhs; rw [h2]
  simp
theorem size_trim {Y : List UInt8} {n : Int} (h : SizeIs Y n) (m : Nat) (h1 : Lib.trimRightB Y 32 = Lib.decDigits m) (h2 : m ≤ 5000000) : n = m := by
  obtain ⟨k, hk⟩ := trim_app Y 32
  rw [h1] at hk
  refine h.2.2 m _ (by omega) hk fun c hc => ?_
  cases k with
  | zero => simp at hc
  | succ k =>
    rw [List.replicate_succ] at hc
    cases hc; rfl
theorem mid48 (l : List UInt8) (q : Nat) : (((l.drop q).take 60).drop 48).take 10 = (l.drop (q + 48)).take 10 := by
  rw [List.drop_take, List.drop_drop, List.take_take]
  rfl

theorem trim_is (h : List UInt8) (n : Nat) (hn : n ≤ h.length) (h1 : ∀ (i : Nat) (b : UInt8), n ≤ i → h[i]? = some b → b = 32) (h2 : n = 0 ∨ ∃ c, h[n - 1]? = some c ∧ c ≠ 32) : h.take n = Lib.trimRightB h 32 := by
  have e : h = fld (h.take n) h.length := by
    unfold fld blanks
    rw [List.length_take, Nat.min_eq_left hn]
    conv => lhs; rw [← List.take_append_drop n h]
    congr 1
    rw [List.eq_replicate_iff]
    refine ⟨by simp, fun b hb => ?_⟩
    obtain ⟨i, hi, he⟩ := List.mem_iff_getElem.1 hb
    rw [List.getElem_drop] at he
    exact h1 (n + i) b (by omega) (by rw [List.getElem?_eq_getElem (by simp at hi; omega), he])
  conv => rhs; rw [e]
  rw [trim_fld]
  intro c hc
  rcases h2 with h3 | ⟨d, h3, h4⟩
  · subst h3; simp at hc
  · have h5 : 0 < n := by
      rcases Nat.eq_zero_or_pos n with h6 | h6
      · subst h6; simp at hc
      · exact h6
    rw [List.getLast?_eq_getElem?, List.length_take, Nat.min_eq_left hn, List.getElem?_take, if_pos (by omega), h3] at hc
    cases hc; exact h4
def strLen : Value → Nat
  | .string S => S.size
  | _ => 0

set_option maxHeartbeats 2000000 in
set_option maxRecDepth 20000 in
theorem ref_records (v : Value) (l : List UInt8) (w : World) (hv : RdB w v l) (hl : l.length ≤ 1000000) (h8 : 8 ≤ l.length) :
    Calls Tryz.prog 32 #[v] w fun e w' => ((e = .returned (.tuple #[.slice none 0 0, .bool false]) ∧ ∀ R, OkR R → l ≠ fileOf R) ∨ (∃ v' rs xs, e = .returned (.tuple #[v', .bool true]) ∧ Own w' w.heap.size 63 3 v' rs.length xs ∧ RrCells w rs xs ∧ RecsOk l.length rs ∧ ∀ R, OkR R → l = fileOf R → rs = recsTo R R.length)) ∧ Below w.heap.size w w' := by
  obtain ⟨a, c, rfl, hc1, hc2, hc⟩ := id hv
  clear hc hc2
  have hl' : (l.length : Int) ≤ 1000000 := by omega
  have Hv := Lib.hid hv; clear hv
  go_enter Tryz.func32, Tryz.ntmps32
  go_wp2_with fail
  go_loopw [4, 5] (fun s i wr => ∃ (p : Nat) (rs : List Rec) (xs : List Value), i = .int .i64 p ∧ p ≤ l.length ∧ 60 * rs.length ≤ p ∧ RecsOk l.length rs ∧ Own wr w.heap.size 63 3 s rs.length xs ∧ RrCells w rs xs ∧ At l p rs ∧ Below w.heap.size w wr) (fun _ i _ => l.length - (intOf i).toNat)
  case atStart =>
    refine ⟨8, [], [], rfl, h8, Nat.zero_le _, ⟨Nat.zero_le _, fun r h => by simp at h⟩, Own.nil _ _ _ _, RrCells.nil _, fun R hR e => ⟨0, Nat.zero_le _, rfl, rfl⟩, Below.refl _ _⟩
  case round =>
    obtain ⟨p, rs, xs, rfl, hp, hlen, hok, hown, hra, hat, hb⟩ := hrel
    obtain ⟨sa, sc, rfl, -, -, -⟩ := hown.cells
    have Hok := Lib.hid hok; clear hok
    have Hown := Lib.hid hown; clear hown
    have Hra := Lib.hid hra; clear hra
    have Hat := Lib.hid hat; clear hat
    have hz := hb.size
    have Hb := Lib.hid hb; clear hb
    clear h8
    by_cases hlt : p < l.length
    · obtain ⟨q, hq⟩ : ∃ q, q = p + p % 2 := ⟨_, rfl⟩
      have hq1 : (q : Int) ≤ 1000001 := by omega
      go_upto_if 14 with fail
      go_cut [5] (fun i wx => i = .int .i64 q ∧ wx = wr)
      case first =>
        by_cases hodd : p % 2 = 1
        · have hodd' : (((p : Nat) : Int) % 2 == 1) = true := by rw [beq_iff_eq]; omega
          go_wp2_with fail
          go_meet
          exact ⟨by congr 1; omega, rfl⟩
        · have hodd' : (((p : Nat) : Int) % 2 == 1) = false := by rw [beq_eq_false_iff_ne]; omega
          go_wp2_with fail
          go_meet
          exact ⟨by congr 1; omega, rfl⟩
      case rest =>
        obtain ⟨rfl, rfl⟩ := hcut
        have Hq := Lib.hid hq; clear hq
        by_cases hroom : q + 60 ≤ l.length
        · have hroom1 : ¬ (l.length : Int) < q + 60 := by omega
          have hroom2 : (q : Int) + 60 ≤ c := by omega
          have hne : ¬ c = q + 48 := by omega
          obtain ⟨b, o, rfl, -⟩ := (Hv.out.below Hb.out).at 0 (by omega)
          have hp2 := (Hv.out.below Hb.out).piece (q + 48) (q + 58) (by omega) (by omega)
          have Hp2 := Lib.hid hp2; clear hp2
          go_wp2_with fail
          have hY := Hp2.out (some ⟨b, o + (q + 48), none⟩) 10 (c - (q + 48)) (by (intro b o e he; cases e; first | rfl | (simp [Addr.add]; done) | (rw [if_neg (by omega)]; simp [Addr.add]; done) | (simp [Addr.add]; omega))) (by omega) rfl
          rw [show q + 58 - (q + 48) = 10 by omega] at hY
          refine (ref_size _ _ _ hY (by simp; omega)).mono ?_
          rintro _ _ ⟨⟨n, rfl, hsz⟩, rfl⟩
          clear hY Hp2
          have hn1 := hsz.1
          have hn2 := hsz.2.1
          have HD := Lib.hid (fun m h5 h6 => size_trim hsz m h5 h6)
          clear hsz
          by_cases hng : 0 ≤ n ∧ n ≤ l.length - q - 60
          · obtain ⟨hn0, hn3⟩ := hng
            obtain ⟨D, hDn⟩ := Int.eq_ofNat_of_zero_le hn0
            have HDn := Lib.hid hDn
            have hn9 : ¬ n < 0 := by omega
            have hne2 : ¬ c = q := by omega
            have hroom3 : (q : Int) + 16 ≤ c := by omega
            have hp3 := (Hv.out.below Hb.out).piece q (q + 16) (by omega) (by omega)
            have hcv := run_str (P := Tryz.prog) TB.und Tryz.underlying5 Tryz.underlying9 (hp3 (some ⟨b, o + q, none⟩) 16 (c - q) (by (intro b o e he; cases e; first | rfl | (simp [Addr.add]; done) | (rw [if_neg (by omega)]; simp [Addr.add]; done) | (simp [Addr.add]; omega))) (by omega) rfl)
            obtain ⟨H, hH⟩ : ∃ H : ByteArray, H = ⟨((l.drop q).take (q + 16 - q)).toArray⟩ := ⟨_, rfl⟩
            rw [← hH] at hcv
            have hHs : H.size = 16 := by rw [hH, ba_size]; simp; omega
            have hHd : H.data.toList = ((l.drop q).take 60).take 16 := by rw [hH, List.take_take]; simp
            have HHd := Lib.hid hHd; clear hHd hH hp3
            have hn4 : ¬ (l.length : Int) - q - 60 < n := by omega
            have hn5 : decide (n < 0) = false := decide_eq_false hn9
            have hn6 : decide ((l.length : Int) - q - 60 < n) = false := decide_eq_false hn4
            have hnD : D = n.toNat := by omega
            have ha2 := Hat.out.step hlt Hq.out rfl (D := D) (fun m h5 h6 => by
              have := HD.out m (by rw [← mid48]; exact h5) h6
              omega) rfl
            have hdl : ((l.drop (q + 60)).take D).length = D := by simp; omega
            have HR := Lib.hid (fun vd h => Hra.out.snoc ⟨Lib.trimRightB (((l.drop q).take 60).take 16) 32, q, (l.drop (q + 60)).take D⟩ vd h)
            have HK := Lib.hid (show RecsOk l.length (rs ++ [⟨Lib.trimRightB (((l.drop q).take 60).take 16) 32, q, (l.drop (q + 60)).take D⟩]) from
              ⟨by have := Hq.out; simp; omega, fun r hr => by
                rcases List.mem_append.1 hr with h5 | h5
                · exact Hok.out.each r h5
                · simp at h5; subst h5
                  refine ⟨?_, by show q ≤ l.length; omega, by show ((l.drop (q + 60)).take D).length ≤ _; omega⟩
                  show (Lib.trimRightB _ 32).length ≤ 16
                  unfold Lib.trimRightB
                  rw [List.length_reverse]
                  refine Nat.le_trans (List.dropWhile_suffix _).length_le ?_
                  simp; omega⟩)
            have HP := Lib.hid (fun X N C h1 h2 h3 => Hv.out.piece (q + 60) (q + 60 + D) (by omega) (by omega) X N C h1 h2 h3)
            rw [show q + 60 + D - (q + 60) = D by omega] at HP
            have HA := Lib.hid ha2; clear ha2 hdl hnD
            clear hDn
            go_wp2_with fail
            rw [show q + 16 - q = 16 by omega]
            go_loopw [7] (fun s wx => ∃ (S : ByteArray), s = .string S ∧ S.size ≤ 16 ∧ S.data.toList = H.data.toList.take S.size ∧ Hid (∀ (i : Nat) (b : UInt8), S.size ≤ i → H.data.toList[i]? = some b → b = 32) ∧ Hid (wx = wc)) (fun s _ => strLen s)
            case atStart => exact ⟨H, rfl, by omega, by rw [← dl, List.take_length], Lib.hid (fun i b h1 h2 => by
              have := (List.getElem?_eq_some_iff.1 h2).1
              rw [dl] at this; omega), Lib.hid rfl⟩
            case round =>
              obtain ⟨S, rfl, hS, hSd, HSb, hwx⟩ := hrel
              obtain rfl := hwx.out
              have HSd := Lib.hid hSd; clear hSd
              by_cases hS0 : (0 : Int) < S.size
              · have hlt9 : S.size - 1 < S.size := by omega
                cases hlast : (((S[S.size - 1]'hlt9).toNat : Int) == 32) with
                | true =>
                  have hS1 : (1 : Int) ≤ S.size := by omega
                  go_wp2_with fail
                  go_roundw
                  case rel =>
                    refine ⟨S.extract 0 (S.size - 1), rfl, ?_, ?_, Lib.hid ?_, Lib.hid trivial⟩
                    · rw [ByteArray.size_extract]; omega
                    · rw [ext_take, ByteArray.size_extract, HSd.out, List.take_take]
                      congr 1 <;> omega
                    · intro i b0 h1 h2
                      rw [ByteArray.size_extract] at h1
                      rcases Nat.lt_or_ge i S.size with h3 | h3
                      · have h4 : i = S.size - 1 := by omega
                        subst h4
                        have h5 : S.data.toList[S.size - 1]? = some S[S.size - 1] := by
                          rw [List.getElem?_eq_getElem (by rw [dl]; exact hlt9)]; rfl
                        rw [HSd.out, List.getElem?_take, if_pos hlt9, h2] at h5
                        have h6 := Option.some.inj h5
                        rw [h6]
                        rw [beq_iff_eq] at hlast
                        exact UInt8.toNat_inj.1 (by show _ = 32; omega)
                      · exact HSb.out i b0 h3 h2
                  case measure =>
                    show (S.extract 0 (S.size - 1)).size < S.size
                    rw [ByteArray.size_extract]; omega
                | false =>
                  have hlast9 := hlast
                  have HT := Lib.hid (show S.data.toList = Lib.trimRightB H.data.toList 32 from by
                    rw [HSd.out]
                    refine trim_is _ _ (by rw [dl]; omega) HSb.out (.inr ⟨S[S.size - 1]'hlt9, ?_, ?_⟩)
                    · have h5 : S.data.toList[S.size - 1]? = some (S[S.size - 1]'hlt9) := by
                        rw [List.getElem?_eq_getElem (by rw [dl]; exact hlt9)]; rfl
                      rw [HSd.out, List.getElem?_take, if_pos hlt9] at h5
                      exact h5
                    · intro h6
                      rw [h6] at hlast9
                      cases hlast9)
                  clear hlast9
                  have hD1 : q + 60 + D ≤ l.length := by have := HDn.out; omega
                  have hD2 : (q : Int) + 60 + n ≤ c := by omega
                  by_cases hcQ : q + 60 = c
                  all_goals
                    first | have hcQ' : ¬ c = q + 60 := fun h => hcQ h.symm | skip
                    go_wp2_with (at_builtin; refine stop_here ?_)
                    refine stop_out ?_
                    refine wpList_app _ _ _ _ rfl rfl TRr w.heap.size (Hown.out.alloc _) rfl (Src.one3 TRr.und _ _ _ rfl rfl rfl) rfl ?ab1a ?ab1b ?ab1c ?_
                    case ab1a => (first | omega | (simp only [List.length_append, List.length_map, List.length_cons, List.length_nil, List.length_reverse]; omega))
                    case ab1b => (unfold maxLen; first | omega | (simp only [List.length_append, List.length_map, List.length_cons, List.length_nil, List.length_reverse]; omega))
                    case ab1c => (first | omega | (simp only [World.size_alloc]; omega) | (simp; done) | exact (Hid.out ‹Hid (Below _ _ _)›).size | (refine Nat.le_trans (Hid.out ‹Hid (Below _ _ _)›).size ?_; simp))
                    intro v7 w7 h7 h7g h7k
                    have H7 := Lib.hid h7; clear h7
                    have H7g := Lib.hid h7g; clear h7g
                    have H7k := Lib.hid h7k; clear h7k
                    have Hb7 := Lib.hid (below_own (Hb.out.alloc hz _) (by simp; omega) (Hown.out.alloc _) H7g.out)
                    have HS9 := Lib.hid (show Value.string S = .string ⟨(Lib.trimRightB (((l.drop q).take 60).take 16) 32).toArray⟩ by rw [← HHd.out, ← HT.out, ba_self])
                    go_wp2_with fail
                    go_roundw
                    case rel =>
                      refine ⟨q + 60 + D, _, _, (by have := HDn.out; congr 1; omega), hD1, by have := Hq.out; simp; omega, HK.out, H7.out.cast (by simp) rfl, ?_, HA.out, Hb7.out⟩
                      rw [HS9.out]
                      refine HR.out _ (HP.out _ _ _ ?_ ?_ ?_)
                      · intro b' o' he h5
                        cases he
                        first | rfl | (exfalso; omega)
                      · have := HDn.out; omega
                      · omega
                    case measure => have := Hq.out; have := HDn.out; simp [intOf]; omega
              · have hlast9 := hS0
                have HT := Lib.hid (show S.data.toList = Lib.trimRightB H.data.toList 32 from by
                  rw [HSd.out]
                  exact trim_is _ _ (by rw [dl]; omega) HSb.out (.inl (by omega)))
                clear hlast9
                have hD1 : q + 60 + D ≤ l.length := by have := HDn.out; omega
                have hD2 : (q : Int) + 60 + n ≤ c := by omega
                by_cases hcQ : q + 60 = c
                all_goals
                  first | have hcQ' : ¬ c = q + 60 := fun h => hcQ h.symm | skip
                  go_wp2_with (at_builtin; refine stop_here ?_)
                  refine stop_out ?_
                  refine wpList_app _ _ _ _ rfl rfl TRr w.heap.size (Hown.out.alloc _) rfl (Src.one3 TRr.und _ _ _ rfl rfl rfl) rfl ?ab2ba ?ab2b ?ab2c ?_
                  case ab2ba => (first | omega | (simp only [List.length_append, List.length_map, List.length_cons, List.length_nil, List.length_reverse]; omega))
                  case ab2b => (unfold maxLen; first | omega | (simp only [List.length_append, List.length_map, List.length_cons, List.length_nil, List.length_reverse]; omega))
                  case ab2c => (first | omega | (simp only [World.size_alloc]; omega) | (simp; done) | exact (Hid.out ‹Hid (Below _ _ _)›).size | (refine Nat.le_trans (Hid.out ‹Hid (Below _ _ _)›).size ?_; simp))
                  intro v7 w7 h7 h7g h7k
                  have H7 := Lib.hid h7; clear h7
                  have H7g := Lib.hid h7g; clear h7g
                  have H7k := Lib.hid h7k; clear h7k
                  have Hb7 := Lib.hid (below_own (Hb.out.alloc hz _) (by simp; omega) (Hown.out.alloc _) H7g.out)
                  have HS9 := Lib.hid (show Value.string S = .string ⟨(Lib.trimRightB (((l.drop q).take 60).take 16) 32).toArray⟩ by rw [← HHd.out, ← HT.out, ba_self])
                  go_wp2_with fail
                  go_roundw
                  case rel =>
                    refine ⟨q + 60 + D, _, _, (by have := HDn.out; congr 1; omega), hD1, by have := Hq.out; simp; omega, HK.out, H7.out.cast (by simp) rfl, ?_, HA.out, Hb7.out⟩
                    rw [HS9.out]
                    refine HR.out _ (HP.out _ _ _ ?_ ?_ ?_)
                    · intro b' o' he h5
                      cases he
                      first | rfl | (exfalso; omega)
                    · have := HDn.out; omega
                    · omega
                  case measure => have := Hq.out; have := HDn.out; simp [intOf]; omega
          · have Hno := Lib.hid (show ∀ R, OkR R → l ≠ fileOf R from fun R hR e => by
              obtain ⟨k, h1, h2, h3, h4, h5, h6, h7, h8⟩ := rec_at Hat.out hlt Hq.out R hR e
              have h9 := HD.out _ (by rw [← mid48]; exact h6) (hR.each k h1).2.2
              omega)
            by_cases hn0 : n < 0
            · have hnd : decide (n < 0) = true := decide_eq_true hn0
              go_wp2_with fail
              go_ret2
              exact ⟨.inl ⟨rfl, Hno.out⟩, Hb.out⟩
            · have hnd : decide (n < 0) = false := decide_eq_false hn0
              have hn3 : (l.length : Int) - q - 60 < n := by omega
              clear hng
              go_wp2_with fail
              go_ret2
              exact ⟨.inl ⟨rfl, Hno.out⟩, Hb.out⟩
        · have hroom1 : (l.length : Int) < q + 60 := by omega
          go_wp2_with fail
          go_ret2
          refine ⟨.inl ⟨rfl, fun R hR e => ?_⟩, Hb.out⟩
          obtain ⟨k, h1, h2, h3, h4, h5, h6, h7, h8⟩ := rec_at Hat.out hlt Hq.out R hR e
          omega
    · have hpl : p = l.length := by omega
      go_wp2_with fail
      go_ret2
      refine ⟨.inr ⟨_, rs, xs, rfl, Hown.out, Hra.out, Hok.out, fun R hR e => ?_⟩, Hb.out⟩
      obtain ⟨k, h1, h2, h3⟩ := Hat.out R hR e
      have h4 : (fileTo R k).length = (fileTo R R.length).length := by rw [← h2, hpl, e]; rfl
      rcases Nat.lt_or_ge k R.length with h5 | h5
      · have h6 := file_room R hR k h5
        unfold fileOf posOf at h6
        omega
      · rw [h3, show k = R.length by omega]

end Go.Proofs.YtnpfnjkghlgooaaGreatDoor
