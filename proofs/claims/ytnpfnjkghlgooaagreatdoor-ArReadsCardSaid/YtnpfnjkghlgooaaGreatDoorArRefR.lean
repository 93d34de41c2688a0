/-
  The walk of foundryref7.Read: bytes are read as the members that write them, or refused.
  Conditions: lengths up to 60000.
-/
import Derived.Test.YtnpfnjkghlgooaaGreatDoorArRead
import Derived.Test.YtnpfnjkghlgooaaGreatDoorArRrec
namespace Go.Proofs.YtnpfnjkghlgooaaGreatDoor
set_option linter.unusedVariables false
set_option linter.unusedSimpArgs false
open Go Go.RowKit

theorem Tri.newA {w0 w w' : World} {e1 e2 e3 : TypeId} {a b c : Value} {la lb lc : List Value} {p : Option Addr} {n k : Nat} {l0 : List Value} (h : Tri w0 w e1 e2 e3 (.slice p n k) b c l0 lb lc) (hb : Below w.heap.size w w') (ho : OwnL w' w.heap.size e1 a la) : Tri w0 w' e1 e2 e3 a b c la lb lc :=
  ⟨ho.mono h.be.size, h.ob.below hb, h.oc.below hb, fun k h1 h2 => by have := (ho.lt k h1).1; have := (h.ob.lt k h2).2; omega, fun k h1 h2 => by have := (ho.lt k h1).1; have := (h.oc.lt k h2).2; omega, h.bc, h.be.trans (hb.mono h.be.size)⟩
theorem magic_file (R : RawR) : ∃ r, fileOf R = magic ++ r := by
  obtain ⟨r, hr⟩ := fileTo_pre R 0 R.length (Nat.zero_le _)
  exact ⟨r, hr⟩
theorem is_magic {ms : List Mem} {b : List UInt8} (h : Is ms b) (hb : b.length ≤ 1000000) : 8 ≤ b.length ∧ b.take 8 = magic := by
  obtain ⟨h1, h2⟩ := is_ok h hb
  obtain ⟨r, hr⟩ := magic_file (rawsOf ms)
  rw [h2, hr]
  refine ⟨by simp [magic], ?_⟩
  exact List.take_left' rfl
/-- Is it a place among the long names? -/
def isL (s : List UInt8) : Bool := decide (1 < s.length) && (s.head? == some 47)
theorem isL_cons (c c2 : UInt8) (l : List UInt8) : ((c.toNat : Int) == 47) = isL (c :: c2 :: l) := by
  by_cases h : c = 47
  · subst h; simp [isL]
  · have h2 : ¬ (c.toNat : Int) = 47 := fun h3 => h (UInt8.toNat_inj.1 (by show _ = 47; omega))
    have e1 : ((c.toNat : Int) == 47) = false := by rw [beq_eq_false_iff_ne]; exact h2
    rw [e1]
    simp [isL, h]
theorem named_L {s lg nm : List UInt8} (h : Named s lg nm) (hL : isL s = true) : ∃ D : Nat, s = 47 :: Lib.decDigits D ∧ LongAt lg D nm := by
  rcases h with ⟨rfl, h1, h2⟩ | h
  · cases nm with
    | nil => exact (h1 rfl).elim
    | cons c nm =>
      simp [isL] at hL
      exact (h2 (by simp [hL])).elim
  · exact h
theorem named_S {s lg nm : List UInt8} (h : Named s lg nm) (hL : isL s = false) : nm = s.take (s.length - 1) := by
  rcases h with ⟨rfl, h1, h2⟩ | ⟨D, rfl, h2⟩
  · simp
  · have := dec_pos D
    simp [isL] at hL
    rw [hL] at this; simp at this
theorem ref_is_syms {ms : List Mem} {b : List UInt8} (h : Is ms b) (hb : b.length ≤ 1000000) (rs : List Rec) (hix : ix1 rs = ixOf ms) (k : Nat) (hk : k < ms.length) (ss : List ByteArray) (h1 : EntOk (ixD rs) → ss = symsTo (ixD rs) (pAt (pls ms) k) (entC (ixD rs))) (h2 : ¬ EntOk (ixD rs) → ss = []) : ss = (mAt ms k).syms := by
  unfold ixD at h1 h2
  rw [hix] at h1 h2
  unfold ixOf at h1 h2
  by_cases g : 0 < nsyms ms
  · rw [if_pos g] at h1 h2
    have h3 := is_syms h hb k hk
    rw [h1 h3.1]; exact h3.2
  · rw [if_neg g] at h1 h2
    rw [nsyms_none (by omega) k hk]
    refine h2 fun h3 => ?_
    have := h3.head
    simp [uErr] at this
/-- What a reader says of its bytes. -/
def Reads (w w' : World) (b : List UInt8) (e : Ending) : Prop :=
  (e = .returned (.tuple #[.slice none 0 0, .int .i64 4]) ∧ ∀ ms, ¬ Is ms b) ∨ (∃ v' ms xs, e = .returned (.tuple #[v', .int .i64 0]) ∧ Read1 w' w.heap.size v' ms xs ∧ Outs b.length ms ∧ ms.length ≤ 66 ∧ Is ms b ∧ ∀ ms', Is ms' b → ms = ms')

set_option maxHeartbeats 0 in
set_option maxRecDepth 20000 in
theorem ref_Read (v : Value) (b : List UInt8) (w : World) (hv : RdB w v b) (hl : b.length ≤ 60000) :
    Calls Tryz.prog 16 #[v] w fun e w' => Reads w w' b e ∧ Below w.heap.size w w' := by
  obtain ⟨a, c, rfl, hc1, hc2, -⟩ := id hv
  have Hv := Lib.hid hv; clear hv
  have hl' : (b.length : Int) ≤ 60000 := by omega
  go_enter Tryz.func16, Tryz.ntmps16
  by_cases h8 : b.length < 8
  · have HN := Lib.hid (show ∀ ms, ¬ Is ms b from fun ms h => by have := (is_magic h (by omega)).1; omega)
    go_wp2_with fail
    go_ret2
    exact ⟨.inl ⟨rfl, HN.out⟩, Below.refl _ _⟩
  · have h8' : (8 : Int) ≤ b.length := by omega
    obtain ⟨bl, o, rfl, -⟩ := Hv.out.at 0 (by omega)
    have hp := Hv.out.piece 0 8 (by omega) (by omega)
    rw [List.drop_zero] at hp
    have hcv := run_str (P := Tryz.prog) TB.und Tryz.underlying5 Tryz.underlying9 (hp (some ⟨bl, o, none⟩) 8 c (by (intro b o e he; cases e; first | rfl | (simp [Addr.add]; done) | (rw [if_neg (by omega)]; simp [Addr.add]; done) | (simp [Addr.add]; omega))) rfl rfl)
    clear hp
    have hc8 : (8 : Int) ≤ c := by omega
    cases hm : (b.take 8 == magic) with
    | false =>
      have HN := Lib.hid (show ∀ ms, ¬ Is ms b from fun ms h => by have := (is_magic h (by omega)).2; rw [this] at hm; simp at hm)
      have hm' : (b.take 8 == [33, 60, 97, 114, 99, 104, 62, 10]) = false := hm
      clear hm
      go_wp2_with fail
      go_ret2
      exact ⟨.inl ⟨rfl, HN.out⟩, Below.refl _ _⟩
    | true =>
      have hm' : (b.take 8 == [33, 60, 97, 114, 99, 104, 62, 10]) = true := hm
      clear hm
      go_wp2_with fail
      refine (ref_records _ b w Hv.out (by omega) (by omega)).mono ?_
      rintro _ w1 ⟨h1, hb1⟩
      have Hb1 := Lib.hid hb1; clear hb1
      clear hcv hc8 hm'
      rcases h1 with ⟨rfl, h2⟩ | ⟨v1, rs, xs, rfl, ho, hra, hok, hrs⟩
      · have HN := Lib.hid (show ∀ ms, ¬ Is ms b from fun ms h => by
          obtain ⟨h3, h4⟩ := is_ok h (by omega)
          exact h2 _ h3 h4)
        go_wp2_with fail
        go_ret2
        exact ⟨.inl ⟨rfl, HN.out⟩, Hb1.out⟩
      · have hR : RdRec 2 1 w1 v1 rs := RdRec.own ho hra.2 Hb1.out
        have HS := Lib.hid (fun ms (h : Is ms b) => is_split h (by omega) rs hrs)
        have HL := Lib.hid (show ∀ ms, Is ms b → rs.length ≤ 66 from fun ms h => by
          obtain ⟨h3, h4⟩ := is_ok h (by omega)
          rw [hrs _ h3 h4]
          have h5 := is_len h
          have h6 := headR_len ms
          simp only [recsTo, List.length_map, List.length_range, rawsOf_len]
          omega)
        have Hok := Lib.hid hok
        have hlen := hok.len
        clear ho hra hrs hok
        obtain ⟨a, c, rfl, hc1, hc2, -⟩ := id hR
        have HR := Lib.hid hR; clear hR
        by_cases h66 : (rs.length : Int) ≤ 66
        · have h66' : ¬ (66 : Int) < rs.length := by omega
          go_upto_region 9 with (fail)
          go_cut [46] (fun tv wx => tv = .bool (isNm rs [47]) ∧ wx = w1)
          case first =>
            -- <D
            cases rs with
            | nil =>
              go_wp2_with fail
              go_meet
              exact ⟨rfl, rfl⟩
            | cons r rs' =>
              obtain ⟨bl, o, da, dc, rfl, c0, c1, c2, hd⟩ := HR.out.at 0 (by simp)
              simp only [List.getElem_cons_zero, Nat.zero_mul, Nat.add_zero] at c0 c1 c2 hd
              have Hd := Lib.hid hd; clear hd
              go_wp2_with fail
              go_meet
              exact ⟨rfl, rfl⟩
            -- D>
          case rest =>
            obtain ⟨rfl, rfl⟩ := hcut
            go_upto_if 46 with fail
            go_cut [4, 6] (fun lv iv wx => RdRec 2 1 wx lv (tl1 rs) ∧ RdB wx iv (ixD rs) ∧ wx = wc)
            case first =>
              -- <D
              cases hn : isNm rs [47] with
              | false =>
                obtain ⟨h1, h2⟩ := isNm_no1 hn
                go_wp2_with fail
                go_meet
                unfold ixD
                rw [h1, h2]
                exact ⟨HR.out, rdB_nil _, rfl⟩
              | true =>
                obtain ⟨r, rs', rfl, hnm⟩ := isNm_yes hn
                clear hn
                obtain ⟨h1, h2⟩ := isNm_yes1 (rs := rs') hnm
                clear hnm
                obtain ⟨bl, o, da, dc, rfl, c0, c1, c2, hd⟩ := HR.out.at 0 (by simp)
                simp only [List.getElem_cons_zero, Nat.zero_mul, Nat.add_zero] at c0 c1 c2 hd
                have Hd := Lib.hid hd; clear hd
                go_wp2_with fail
                all_goals
                  go_meet
                  unfold ixD
                  rw [h1, h2]
                  refine ⟨HR.out.tail _ _ _ (fun h9 => ?_) rfl (by first | rfl | omega), Hd.out, rfl⟩
                  first | rfl | (exfalso; simp at hc1; omega)
              -- D>
            case rest =>
              obtain ⟨hR1, hI, hwx⟩ := hcut
              subst hwx
              have hlen1 := tl1_len rs
              have hixd := ixD_len rs b.length (fun r hr => (Hok.out.each r hr).2.2)
              have hok1 := fun r (hr : r ∈ tl1 rs) => Hok.out.each r (tl1_mem rs r hr)
              have hS := HS.out
              clear HS HR Hok
              generalize tl1 rs = rs1 at *
              have HS := Lib.hid hS; clear hS
              have Hok1 := Lib.hid hok1; clear hok1
              obtain ⟨ia, ic, rfl, hi1, hi2, -⟩ := id hI
              have HI := Lib.hid hI; clear hI
              obtain ⟨la, lc, rfl, hc3, hc4, -⟩ := id hR1
              have HR1 := Lib.hid hR1; clear hR1
              go_upto_region 12 with (fail)
              go_cut [62] (fun tv wx => tv = .bool (isNm rs1 [47, 47]) ∧ wx = wc)
              case first =>
                -- <D
                cases rs1 with
                | nil =>
                  go_wp2_with fail
                  go_meet
                  exact ⟨rfl, rfl⟩
                | cons r rs' =>
                  obtain ⟨bl, o, da, dc, rfl, c0, c1, c2, hd⟩ := HR1.out.at 0 (by simp)
                  simp only [List.getElem_cons_zero, Nat.zero_mul, Nat.add_zero] at c0 c1 c2 hd
                  have Hd := Lib.hid hd; clear hd
                  go_wp2_with fail
                  go_meet
                  exact ⟨rfl, rfl⟩
                -- D>
              case rest =>
                obtain ⟨rfl, hwx⟩ := hcut
                subst hwx
                go_upto_if 62 with fail
                go_cut [4, 7] (fun lv sv wx => RdRec 2 1 wx lv (tl2 rs1) ∧ RdB wx sv (lg2 rs1) ∧ wx = wc)
                case first =>
                  -- <D
                  cases hn : isNm rs1 [47, 47] with
                  | false =>
                    obtain ⟨h1, h2⟩ := isNm_no2 hn
                    go_wp2_with fail
                    go_meet
                    rw [h1, h2]
                    exact ⟨HR1.out, rdB_nil _, rfl⟩
                  | true =>
                    obtain ⟨r, rs', rfl, hnm⟩ := isNm_yes hn
                    clear hn
                    obtain ⟨h1, h2⟩ := isNm_yes2 (rs := rs') hnm
                    clear hnm
                    obtain ⟨bl, o, da, dc, rfl, c0, c1, c2, hd⟩ := HR1.out.at 0 (by simp)
                    simp only [List.getElem_cons_zero, Nat.zero_mul, Nat.add_zero] at c0 c1 c2 hd
                    have Hd := Lib.hid hd; clear hd
                    go_wp2_with fail
                    all_goals
                      go_meet
                      rw [h1, h2]
                      refine ⟨HR1.out.tail _ _ _ (fun h9 => ?_) rfl (by first | rfl | omega), Hd.out, rfl⟩
                      first | rfl | (exfalso; simp at hc3; omega)
                  -- D>
                case rest =>
                  obtain ⟨hR2, hG2, hwx⟩ := hcut
                  subst hwx
                  have hlen2 := tl2_len rs1
                  have hok2 := fun r (hr : r ∈ tl2 rs1) => Hok1.out r (tl2_mem rs1 r hr)
                  have hlg := lg2_len rs1 b.length (fun r hr => (Hok1.out r hr).2.2)
                  have hS := HS.out
                  clear HS HR1 Hok1
                  generalize tl2 rs1 = rs2 at *
                  generalize lg2 rs1 = lg at *
                  have HS := Lib.hid hS; clear hS
                  have Hok2 := Lib.hid hok2; clear hok2
                  obtain ⟨ra, rc, rfl, hc5, hc6, -⟩ := id hR2
                  have HR2 := Lib.hid hR2; clear hR2
                  obtain ⟨ga, gc, rfl, hg1, hg2, -⟩ := id hG2
                  have HG2 := Lib.hid hG2; clear hG2
                  obtain ⟨wl, rfl⟩ : ∃ wl : World, wl = wc := ⟨_, rfl⟩
                  go_wp2_with fail
                  go_loopw [8, 9] (fun ov i wr => ∃ (k : Nat) (os : List Mem) (xs : List Value), i = .int .i64 k ∧ k ≤ rs2.length ∧ os.length = k ∧ Read1 wr wl.heap.size ov os xs ∧ Outs b.length os ∧ (∀ ms, Is ms b → os = ms.take k) ∧ Below wl.heap.size wl wr) (fun _ i _ => rs2.length - (intOf i).toNat)
                  case atStart => exact ⟨0, [], [], rfl, Nat.zero_le _, rfl, ⟨Own.nil _ _ _ _, MemCells.nil _, OwnD.nil _ _ _⟩, Outs.nil _, fun ms h => rfl, Below.refl _ _⟩
                  case round =>
                    obtain ⟨k, os, xs, rfl, hk, hos, hrd, hou, hms, hb⟩ := hrel
                    obtain ⟨wo, rfl⟩ : ∃ wo : World, wo = wr := ⟨_, rfl⟩
                    obtain ⟨sa, sc, rfl, -, -, -⟩ := hrd.own.cells
                    rw [hos] at hrd ⊢
                    have Hrd := Lib.hid hrd; clear hrd
                    have Hou := Lib.hid hou; clear hou
                    have Hms := Lib.hid hms; clear hms
                    have hz := hb.size
                    have Hb := Lib.hid hb; clear hb
                    by_cases hlt : k < rs2.length
                    · obtain ⟨bl, o, da, dc, rfl, c0, c1, c2, hd⟩ := (HR2.out.below Hb.out).at k hlt
                      obtain ⟨r, hr⟩ : ∃ r, r = rs2[k] := ⟨_, rfl⟩
                      rw [← hr] at c0 c1 c2 hd
                      obtain ⟨r1, r2, r3⟩ := Hok2.out r (by rw [hr]; exact List.getElem_mem hlt)
                      have hrk : ∀ ms, Is ms b → k < ms.length ∧ r = memRec ms k ∧ lg = longAll ms := fun ms h => by
                        obtain ⟨g1, g2, g3⟩ := HS.out ms h
                        have g4 : k < ms.length := by rw [g3, memRecs_len] at hlt; exact hlt
                        refine ⟨g4, ?_, g2⟩
                        have g5 := memRecs_at ms k g4
                        rw [← g3, List.getElem?_eq_getElem hlt, ← hr] at g5
                        exact Option.some.inj g5
                      have HRk := Lib.hid hrk; clear hrk
                      have Hr := Lib.hid hr; clear hr
                      have Hd := Lib.hid hd; clear hd
                      go_wp2_with (at_builtin; refine stop_here ?_)
                      refine stop_out ?_
                      refine wpList_app _ _ _ _ rfl rfl TB wo.heap.size (Own.nil _ _ _ _) rfl (Src.rdB TB.und Hd.out) rfl ?ab1a ?ab1b ?ab1c ?_
                      case ab1a => (first | omega | (simp only [List.length_append, List.length_map, List.length_cons, List.length_nil, List.length_reverse]; omega))
                      case ab1b => (unfold maxLen; first | omega | (simp only [List.length_append, List.length_map, List.length_cons, List.length_nil, List.length_reverse]; omega))
                      case ab1c => (first | omega | (simp only [World.size_alloc]; omega) | (simp; done) | exact (Hid.out ‹Hid (Below _ _ _)›).size | (refine Nat.le_trans (Hid.out ‹Hid (Below _ _ _)›).size ?_; simp))
                      intro v2 w2 h2 h2g h2k
                      have H2 := Lib.hid h2; clear h2
                      have H2g := Lib.hid h2g; clear h2g
                      have H2k := Lib.hid h2k; clear h2k
                      have hb2 : Below wo.heap.size wo w2 := below_own (Below.refl _ _) (Nat.le_refl _) (Own.nil wo wo.heap.size 5 1) H2g.out
                      have ho2 := H2.out.to (l := r.data) (by simp)
                      obtain ⟨a5, c5, hv5, -, -, -⟩ := ho2.cells
                      subst hv5
                      have ho3 : OwnL w2 wo.heap.size 5 (.slice a5 r.data.length c5) (r.data.map BV) := ho2.toL rfl
                      have hT := tri_box1 (e1 := 9) (e := 40) (u1 := .string ⟨#[]⟩) (u2 := .slice a5 r.data.length c5) (u3 := .slice none 0 0) hb2 ho3
                      clear H2 H2g H2k ho2 ho3
                      go_upto_region 20 with (at_builtin; refine stop_here ?_)
                      have hbx := bel_alloc hb2 (.cells #[.string ⟨#[]⟩, .slice a5 r.data.length c5, .slice none 0 0] 40)
                      obtain ⟨Wb, hWb⟩ : ∃ Wb, Wb = w2.alloc (.cells #[.string ⟨#[]⟩, .slice a5 r.data.length c5, .slice none 0 0] 40) := ⟨_, rfl⟩
                      obtain ⟨g, hg⟩ : ∃ g, g = w2.heap.size := ⟨_, rfl⟩
                      rw [← hWb, ← hg] at hT
                      rw [← hWb] at hbx
                      rw [← hWb, ← hg]
                      clear hWb hg hb2
                      have e0 := bel_cell hbx c0
                      have e1 := bel_cell hbx c1
                      have e2 := bel_cell hbx c2
                      have C1 := Lib.hid c1
                      clear c0 c1 c2
                      have Hbx := Lib.hid hbx; clear hbx
                      have HT := Lib.hid hT; clear hT
                      go_cut [97] (fun tv wx => tv = .bool (isL r.name) ∧ wx = Wb)
                      case first =>
                        -- <D
                        cases hn : r.name with
                        | nil =>
                          rw [hn] at e0
                          go_wp2_with fail
                          go_meet
                          rw [hn]; exact ⟨rfl, rfl⟩
                        | cons ch rest =>
                          rw [hn] at e0
                          cases rest with
                          | nil =>
                            go_wp2_with fail
                            go_meet
                            rw [hn]; exact ⟨rfl, rfl⟩
                          | cons ch2 rest =>
                            go_wp2_with fail
                            go_meet
                            rw [hn]; exact ⟨congrArg Value.bool (isL_cons ch ch2 rest), rfl⟩
                        -- D>
                      case rest =>
                        obtain ⟨rfl, hwx⟩ := hcut
                        subst hwx
                        go_upto_if 97 with (at_builtin; refine stop_here ?_)
                        go_cut [] (fun wx => ∃ t : List UInt8, t.length ≤ 16 + b.length ∧ (∀ nm, Named r.name lg nm → t = nm) ∧
                          Tri wo wx 9 5 40 (.slice none 0 0) (.slice a5 r.data.length c5) (.slice (some ⟨g, 0, none⟩) 3 3) [] (r.data.map BV) [.string ⟨t.toArray⟩, .slice a5 r.data.length c5, .slice none 0 0])
                        case first =>
                          -- <D
                          obtain ⟨g0, f0⟩ := HT.out.cellC rfl 0 _ rfl
                          cases hL : isL r.name with
                          | true =>
                            have HN := Lib.hid (fun nm h => named_L (lg := lg) (nm := nm) h hL)
                            have h1 : 1 < r.name.length := by simp [isL] at hL; exact hL.1
                            clear hL
                            have hx : (⟨r.name.toArray⟩ : ByteArray).extract 1 r.name.length = ⟨(r.name.tail).toArray⟩ := by
                              rw [← ba_self ((⟨r.name.toArray⟩ : ByteArray).extract 1 r.name.length)]
                              congr 2
                              have := Lib.extract_to_end ⟨r.name.toArray⟩ 1
                              rw [ba_size] at this
                              rw [List.drop_one] at this
                              exact this
                            have hcv := Lib.run_convert_string_bytes (P := Tryz.prog) wc 9 25 5 ⟨(r.name.tail).toArray⟩ Tryz.underlying9 Tryz.underlying25 Tryz.underlying5
                            have hbr := bytes_rd wc (r.name.tail) (by simp; omega)
                            have hbs := bytes_bel wc 5 ⟨(r.name.tail).toArray⟩
                            obtain ⟨Ws, hWs⟩ : ∃ Ws, Ws = Lib.bytesWorld wc 5 ⟨(r.name.tail).toArray⟩ := ⟨_, rfl⟩
                            rw [← hWs] at hcv hbr hbs
                            obtain ⟨vb, hvb⟩ : ∃ vb : Value, vb = .slice (some ⟨wc.heap.size, 0, none⟩) (⟨r.name.tail.toArray⟩ : ByteArray).size (grownCap wc (⟨r.name.tail.toArray⟩ : ByteArray).size 0 5) := ⟨_, rfl⟩
                            rw [← hvb] at hcv hbr
                            clear hWs hvb
                            have g1 := bel_cell hbs g0
                            have f1 := bel_frozen hbs g0 f0
                            have Hbr := Lib.hid hbr; clear hbr
                            have Hbs := Lib.hid hbs; clear hbs
                            go_wp2_with fail
                            refine (ref_size _ _ _ Hbr.out (by rw [List.length_tail]; omega)).mono ?_
                            rintro _ _ ⟨⟨n, rfl, hsz⟩, rfl⟩
                            have hn1 := hsz.1
                            have hn2 := hsz.2.1
                            have Hsz := Lib.hid hsz; clear hsz
                            clear hcv hx
                            go_wp2_with fail
                            refine (ref_long _ lg n _ (((HG2.out.below Hb.out).below Hbx.out).below Hbs.out) (by omega) hn1 hn2).mono ?_
                            rintro _ _ ⟨⟨t, rfl, ht1, ht2⟩, rfl⟩
                            have Ht2 := Lib.hid ht2; clear ht2
                            go_wp2_with fail
                            go_meet
                            refine ⟨t, by omega, fun nm h => ?_, (HT.out.bel Hbs.out).storeC rfl 0 _⟩
                            obtain ⟨D, h5, h6⟩ := HN.out nm h
                            have h7 := h6.le
                            have h8 := Hsz.out.2.2 D [] (by omega) (by rw [h5]; simp) (fun c h => by cases h)
                            rw [h8] at Ht2
                            exact Ht2.out nm h6
                          | false =>
                            have HN := Lib.hid (fun nm h => named_S (lg := lg) (nm := nm) h hL)
                            clear hL
                            by_cases h0 : 0 < r.name.length
                            · go_upto_region 23 with (fail)
                              go_region
                              all_goals
                                go_wp2_with fail
                                go_meet
                                have hx : (⟨r.name.toArray⟩ : ByteArray).extract 0 (r.name.length - 1) = ⟨(r.name.take (r.name.length - 1)).toArray⟩ := by
                                  rw [← ba_self ((⟨r.name.toArray⟩ : ByteArray).extract 0 (r.name.length - 1)), ext_take]
                                refine ⟨r.name.take (r.name.length - 1), by rw [List.length_take]; omega, fun nm h => (HN.out nm h).symm, ?_⟩
                                rw [hx]
                                exact (HT.out.storeC rfl 0 _).bel (Below.drew (Below.refl _ _))
                            · go_wp2_with fail
                              go_meet
                              have h9 : r.name = [] := List.eq_nil_of_length_eq_zero (by omega)
                              refine ⟨[], Nat.zero_le _, fun nm h => ?_, HT.out⟩
                              rw [HN.out nm h, h9]; rfl
                          -- D>
                        case rest =>
                          obtain ⟨t, ht, htn, hT⟩ := hcut
                          have Htn := Lib.hid htn; clear htn
                          have p1 := bel_cell hT.be C1.out
                          have HT2 := Lib.hid hT; clear hT
                          clear HT C1 e0 e1 e2 Hbx
                          go_wp2_with (at_builtin; refine stop_here ?_)
                          refine (ref_syms _ (ixD rs) r.pos _ ((HI.out.below Hb.out).below HT2.out.be) (by omega) (by omega)).mono ?_
                          rintro _ w6 ⟨v6, xs6, rfl, ho6, hE6, hN6, hl6, hs6, hb6⟩
                          have hT6 := HT2.out.newA hb6 ho6
                          obtain ⟨p6, c6, hv6, -, -, -⟩ := ho6.cells
                          rw [List.length_map] at hv6
                          subst hv6
                          obtain ⟨g2, f2⟩ := hT6.cellC rfl 2 _ rfl
                          have HT7 := Lib.hid (hT6.storeC rfl 2 (.slice p6 xs6.length c6))
                          have HE6 := Lib.hid hE6
                          have HN6 := Lib.hid hN6
                          have HS6 := Lib.hid hs6
                          clear hT6 ho6 hb6 hE6 hN6 hs6 HT2 p1
                          go_upto_region 25 with (at_builtin; refine stop_here ?_)
                          obtain ⟨W7, hW7⟩ : ∃ W7, W7 = w6.setCell ⟨g, 2, none⟩ (.slice p6 xs6.length c6) := ⟨_, rfl⟩
                          rw [← hW7] at HT7 ⊢
                          clear hW7 g2 f2
                          obtain ⟨e0, -⟩ := HT7.out.cellC rfl 0 _ rfl
                          obtain ⟨e1, -⟩ := HT7.out.cellC rfl 1 _ rfl
                          obtain ⟨e2, -⟩ := HT7.out.cellC rfl 2 _ rfl
                          have Ho7 := Lib.hid ((Hrd.out.own.cast hos rfl).below HT7.out.be)
                          have hz7 : wl.heap.size ≤ W7.heap.size := Nat.le_trans hz HT7.out.be.size
                          have Hx3 : xs.length = 3 * k := by rw [Hrd.out.mem.1, hos]
                          go_wp2_with (at_builtin; refine stop_here ?_)
                          refine stop_out ?_
                          refine wpList_app _ _ _ _ rfl rfl TMem wl.heap.size (Ho7.out.alloc _) rfl (Src.one3 TMem.und _ _ _ rfl rfl rfl) rfl ?ab2ba ?ab2b ?ab2c ?_
                          case ab2ba => (first | omega | (simp only [List.length_append, List.length_map, List.length_cons, List.length_nil, List.length_reverse]; omega))
                          case ab2b => (unfold maxLen; first | omega | (simp only [List.length_append, List.length_map, List.length_cons, List.length_nil, List.length_reverse]; omega))
                          case ab2c => (first | omega | (simp only [World.size_alloc]; omega) | (simp; done) | exact (Hid.out ‹Hid (Below _ _ _)›).size | (refine Nat.le_trans (Hid.out ‹Hid (Below _ _ _)›).size ?_; simp))
                          intro v9 w9 h9 h9g h9k
                          have H9 := Lib.hid h9; clear h9
                          have H9g := Lib.hid h9g; clear h9g
                          have H9k := Lib.hid h9k; clear h9k
                          have hbo := bel_alloc HT7.out.be (.cells #[.string ⟨t.toArray⟩, .slice a5 r.data.length c5, .slice p6 xs6.length c6] 40)
                          have sep1 : Sep (.slice sa k sc) (.slice a5 r.data.length c5) := fun i h1 h2 => by
                            have g1 := (Hrd.out.own.lt i h1).2
                            have g2 := (HT7.out.ob.lt i h2).1
                            omega
                          have sep2 : Sep (.slice sa k sc) (.slice p6 xs6.length c6) := fun i h1 h2 => by
                            have g1 := (Hrd.out.own.lt i h1).2
                            have g2 := (HT7.out.oa.lt i h2).1
                            omega
                          have od := (HT7.out.ob.alloc (.cells #[.string ⟨t.toArray⟩, .slice a5 r.data.length c5, .slice p6 xs6.length c6] 40)).keep H9g.out sep1
                          have os2 := (HT7.out.oa.alloc (.cells #[.string ⟨t.toArray⟩, .slice a5 r.data.length c5, .slice p6 xs6.length c6] 40)).keep H9g.out sep2
                          have m9 := ((Hrd.out.mem.below hbo).keep (Hrd.out.dat.below hbo) H9g.out).snoc ⟨⟨t.toArray⟩, r.data, xs6⟩ _ _ (OwnL.rdB od) (OwnL.rdS os2)
                          have d9 := (Hrd.out.dat.below hbo).snoc (Ho7.out.alloc _) Hx3 (.string ⟨t.toArray⟩) (.slice a5 r.data.length c5) (.slice p6 xs6.length c6) r.data xs6 ((HT7.out.ob.alloc _).mono hz) ((HT7.out.oa.alloc _).mono hz) (fun i h1 => by
                            have g2 := (HT7.out.ob.lt i h1).1
                            refine ⟨fun i2 vd h2 h3 => ?_, fun h3 => sep1 i h3 h1⟩
                            obtain ⟨l2, h4⟩ := Hrd.out.dat.own i2 vd h2
                            have := (h4.lt i h3).2
                            omega) (fun i h1 h3 => sep2 i h3 h1) H9g.out H9k.out
                          have R9 := Lib.hid (show Read1 w9 wl.heap.size v9 (os ++ [⟨⟨t.toArray⟩, r.data, xs6⟩]) _ from ⟨H9.out.cast (by simp [hos]) rfl, m9, d9⟩)
                          have B9 := Lib.hid (below_own (hb := bel_alloc (bel_trans Hb.out HT7.out.be) _) (by rw [World.size_alloc]; omega) (Ho7.out.alloc _) H9g.out)
                          have O9 := Lib.hid (Hou.out.snoc ⟨⟨t.toArray⟩, r.data, xs6⟩ ⟨by rw [ba_size]; exact ht, r3, by show 4 * xs6.length ≤ _; omega, fun s hs => Nat.le_trans (HS6.out s hs) hixd⟩)
                          have Q9 := Lib.hid (show ∀ ms, Is ms b → os ++ [⟨⟨t.toArray⟩, r.data, xs6⟩] = ms.take (k + 1) from fun ms h => by
                            obtain ⟨g1, g2, g3⟩ := HRk.out ms h
                            rw [take_mem ms k g1, ← Hms.out ms h]
                            congr 2
                            refine (mem_ext _ _ _ _ ?_ ?_ ?_).symm
                            · refine (Htn.out _ ?_).symm
                              rw [g2, g3]
                              exact named_at h.1 k g1
                            · rw [g2]; rfl
                            · exact (ref_is_syms h (by omega) rs (HS.out ms h).1 k g1 xs6 (by rw [g2] at HE6; exact HE6.out) HN6.out).symm)
                          clear od os2 sep1 sep2 hbo m9 d9
                          go_wp2_with (at_builtin; refine stop_here ?_)
                          go_roundw
                          case rel => exact ⟨k + 1, _, _, by go_num, by omega, by simp [hos], R9.out, O9.out, Q9.out, B9.out⟩
                          case measure => simp [intOf]; omega
                    · have hkk : k = rs2.length := by omega
                      have hln := Hou.out.nsy
                      have hfit := Hou.out.fit (by omega) (by omega)
                      have h66b : os.length ≤ 66 := by omega
                      have hns : nsyms os ≤ 1000000 := by
                        have : b.length * os.length ≤ 60000 * 66 := Nat.mul_le_mul hl h66b
                        omega
                      have HF := Lib.hid hfit; clear hfit hln
                      have hall : ∀ ms, Is ms b → os = ms := fun ms h => by
                        have h9 := (HS.out ms h).2.2
                        rw [Hms.out ms h, List.take_of_length_le]
                        rw [hkk, h9, memRecs_len]; exact Nat.le_refl _
                      have HA := Lib.hid hall; clear hall hkk
                      go_wp2_with (at_builtin; refine stop_here ?_)
                      have hrm := Hrd.out.rdM
                      have hW := ref_Write (.slice sa k sc) os wo hrm HF.out hns
                      refine hW.mono ?_
                      clear hW
                      rintro _ w5 ⟨bv, rfl, hbv, hb5⟩
                      have hrb := Own.rdB hbv
                      obtain ⟨ba, bc, rfl, -, -, -⟩ := hbv.cells
                      have Hb5 := Lib.hid hb5
                      have Hrd5 := Lib.hid (Hrd.out.below hb5)
                      have hcv := run_str (P := Tryz.prog) TB.und Tryz.underlying5 Tryz.underlying9 hrb
                      have hcv2 := run_str (P := Tryz.prog) TB.und Tryz.underlying5 Tryz.underlying9 (Hv.out.below (bel_trans (Hb1.out.trans (Hb.out.mono Hb1.out.size)) hb5))
                      clear hbv hb5 hrb hrm
                      have hiw := is_write os b (by omega)
                      have HI := Lib.hid hiw; clear hiw
                      have HNo := Lib.hid (show ¬ Is os b → ∀ ms, ¬ Is ms b from fun h ms h2 => h (by rw [HA.out ms h2]; exact h2))
                      generalize (arWrite os).2 = E at *
                      generalize (arWrite os).1 = l5 at *
                      by_cases hE : E = 0
                      · subst hE
                        cases heq : (l5 == b) with
                        | false =>
                          have HN := Lib.hid (HNo.out fun h => by rw [(HI.out.1 h).2] at heq; simp at heq)
                          go_wp2_with fail
                          go_ret2
                          exact ⟨.inl ⟨rfl, HN.out⟩, bel_trans (Hb1.out.trans (Hb.out.mono Hb1.out.size)) Hb5.out⟩
                        | true =>
                          have HY := Lib.hid (HI.out.2 ⟨by first | rfl | trivial, by simpa using heq⟩)
                          go_wp2_with fail
                          go_ret2
                          refine ⟨.inr ⟨_, os, xs, rfl, Hrd5.out.mono Hb1.out.size, Hou.out, h66b, HY.out, HA.out⟩, bel_trans (Hb1.out.trans (Hb.out.mono Hb1.out.size)) Hb5.out⟩
                      · have hE' : (E == 0) = false := by rw [beq_eq_false_iff_ne]; exact hE
                        have HN := Lib.hid (HNo.out fun h => hE (HI.out.1 h).1)
                        go_wp2_with fail
                        go_ret2
                        exact ⟨.inl ⟨rfl, HN.out⟩, bel_trans (Hb1.out.trans (Hb.out.mono Hb1.out.size)) Hb5.out⟩
        · have h66' : (66 : Int) < rs.length := by omega
          have HN := Lib.hid (show ∀ ms, ¬ Is ms b from fun ms h => by have := HL.out ms h; omega)
          clear h66
          go_wp2_with fail
          go_ret2
          exact ⟨.inl ⟨rfl, HN.out⟩, Hb1.out⟩

end Go.Proofs.YtnpfnjkghlgooaaGreatDoor
