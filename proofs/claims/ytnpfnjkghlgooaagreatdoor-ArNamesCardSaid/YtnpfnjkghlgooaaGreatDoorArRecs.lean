/-
  The walk of ar.records.
  Conditions: lengths up to a million.
-/
import Derived.Test.YtnpfnjkghlgooaaGreatDoorArFile
namespace Go.Proofs.YtnpfnjkghlgooaaGreatDoor
set_option linter.unusedVariables false
set_option linter.unusedSimpArgs false
open Go Go.RowKit

theorem TR : ElT Tryz.prog 75 78 3 48 := by
  refine ⟨Tryz.underlying75, ?_, by decide⟩
  obtain ⟨i, h1, h2, h3, h4⟩ := info_parts (show (Tryz.prog.info? 78).map (fun i => (i.zero, i.size, i.bytes)) = some (some (.agg #[.string ⟨#[]⟩, .int .i64 0, .slice none 0 0]), 3, 48) by kernel_rfl)
  exact ⟨i, _, h1, h2, h3, h4, rfl⟩

theorem ext_mid (s : ByteArray) (a b : Nat) : (s.extract a b).data.toList = (s.data.toList.drop a).take (b - a) := by
  simp [ByteArray.data_extract, List.extract_eq_take_drop]

/-- Bytes in a library contract's words. -/
theorem RdB.bytesIn {w : World} {a : Option Addr} {n c : Nat} {l : List UInt8} (h : RdB w (.slice a n c) l) : Lib.BytesIn w a n (l.map fun c => (c.toNat : Int)) := fun hn => by
  obtain ⟨a', c', hv, h1, h2, hc⟩ := h
  cases hv
  obtain ⟨b, o, rfl, _⟩ := hc.byte 0 hn
  refine ⟨b, o, rfl, fun i hi => ?_⟩
  obtain ⟨b', o', e, h'⟩ := hc.byte i hi
  cases e
  rw [h']
  simp [List.getD, hi]
theorem bytesOf_toNat (l : List UInt8) : Lib.bytesOf (l.map fun c => (c.toNat : Int)) = l := by
  unfold Lib.bytesOf
  rw [List.map_map]
  conv => rhs; rw [← List.map_id l]
  refine List.map_congr_left fun c _ => ?_
  simp
theorem lib_bPrefix (v : Value) (l : List UInt8) (v2 : Value) (l2 : List UInt8) (w : World) (h : RdB w v l) (h2 : RdB w v2 l2) :
    Calls Tryz.prog 60 #[v, v2] w fun e w' => e = .returned (.bool (Lib.hasPrefix l l2)) ∧ w = w' := by
  obtain ⟨a, c, rfl, hc, _, _⟩ := id h
  obtain ⟨a2, c2, rfl, _, _, _⟩ := id h2
  have := Tryz.bytes_HasPrefix_all a a2 l.length c l2.length c2 _ _ w (by simp) (by simp) hc h.bytesIn h2.bytesIn
  rw [bytesOf_toNat, bytesOf_toNat] at this
  exact this.mono fun _ _ h => ⟨h.1, h.2.symm⟩

/-- The cells of records, as package ar has them. -/
def RaCells (w : World) (rs : List Rec) (xs : List Value) : Prop := xs.length = 3 * rs.length ∧
  ∀ (i : Nat) (r : Rec), rs[i]? = some r → xs[3 * i]? = some (.string ⟨r.name.toArray⟩) ∧ xs[3 * i + 1]? = some (.int .i64 (r.pos : Nat)) ∧ ∃ vd, xs[3 * i + 2]? = some vd ∧ RdB w vd r.data
theorem RaCells.nil (w : World) : RaCells w [] [] := ⟨rfl, fun i r h => by simp at h⟩
theorem RaCells.snoc {w : World} {rs : List Rec} {xs : List Value} (h : RaCells w rs xs) (r : Rec) (vd : Value) (hd : RdB w vd r.data) : RaCells w (rs ++ [r]) (xs ++ [.string ⟨r.name.toArray⟩, .int .i64 (r.pos : Nat), vd]) := by
  refine ⟨by simp [h.1]; omega, fun i r' hi => ?_⟩
  rcases Nat.lt_or_ge i rs.length with h1 | h1
  · rw [List.getElem?_append_left h1] at hi
    obtain ⟨g1, g2, g3, g4, g5⟩ := h.2 i r' hi
    have := h.1
    exact ⟨by rw [List.getElem?_append_left (by omega)]; exact g1, by rw [List.getElem?_append_left (by omega)]; exact g2, g3, by rw [List.getElem?_append_left (by omega)]; exact g4, g5⟩
  · rw [List.getElem?_append_right h1] at hi
    have h2 : i - rs.length = 0 := by
      have := (List.getElem?_eq_some_iff.1 hi).1
      simp at this; omega
    rw [h2] at hi
    simp at hi
    subst hi
    have h3 := h.1
    have h4 : 3 * i = xs.length := by omega
    refine ⟨?_, ?_, vd, ?_, hd⟩
    · rw [h4, List.getElem?_append_right (Nat.le_refl _), Nat.sub_self]; rfl
    · rw [h4, List.getElem?_append_right (by omega), Nat.add_sub_cancel_left]; rfl
    · rw [h4, List.getElem?_append_right (by omega), Nat.add_sub_cancel_left]; rfl

/-- One new record, at the block that was just laid. -/
theorem Src.one3 {P : Program} {w : World} {tx e' e : TypeId} (hk : P.underlying tx = some (.slice e')) (u1 u2 u3 : Value) (h1 : u1.oneCell' = true) (h2 : u2.oneCell' = true) (h3 : u3.oneCell' = true) :
    Src P 3 tx (.slice (some ⟨w.heap.size, 0, none⟩) 1 1) 1 [u1, u2, u3] (w.alloc (.cells #[u1, u2, u3] e)) :=
  Src.ofSlice _ hk _ 1 1 _ rfl (fun j v hj => by
    rw [addr_add, Nat.zero_add, World.cell?_alloc_new]
    simpa using hj) (by intro u hu; simp at hu; rcases hu with rfl | rfl | rfl <;> assumption)

theorem Src.one3d {P : Program} {w : World} {tx e' e : TypeId} (hk : P.underlying tx = some (.slice e')) (u1 u2 u3 : Value) (h1 : u1.oneCell' = true) (h2 : u2.oneCell' = true) (h3 : u3.oneCell' = true) :
    Src P 3 tx (.slice (some ⟨w.heap.size, 0, none⟩) 1 1) 1 [u1, u2, u3] (w.alloc (.cells #[u1, u2, u3] e)).drew :=
  Src.ofSlice _ hk _ 1 1 _ rfl (fun j v hj => by
    rw [addr_add, Nat.zero_add]
    have := World.cell?_alloc_new w #[u1, u2, u3] e j
    rw [show (w.alloc (.cells #[u1, u2, u3] e)).drew.cell? ⟨w.heap.size, j, none⟩ = (w.alloc (.cells #[u1, u2, u3] e)).cell? ⟨w.heap.size, j, none⟩ from rfl, this]
    simpa using hj) (by intro u hu; simp at hu; rcases hu with rfl | rfl | rfl <;> assumption)

/-- What is known of records that were read. -/
structure RecsOk (n : Nat) (rs : List Rec) : Prop where
  len : 60 * rs.length ≤ n
  each : ∀ r ∈ rs, r.name.length ≤ 16 ∧ r.pos ≤ n ∧ r.data.length ≤ n

def At (b : List UInt8) (p : Nat) (rs : List Rec) : Prop := ∀ R, OkR R → b = fileOf R → ∃ k, k ≤ R.length ∧ p = (fileTo R k).length ∧ rs = recsTo R k

theorem rec_at {l : List UInt8} {p q : Nat} {rs : List Rec} (hat : At l p rs) (hlt : p < l.length) (hq : q = p + p % 2) (R : RawR) (hR : OkR R) (e : l = fileOf R) :
    ∃ k, k < R.length ∧ q = posOf R k ∧ rs = recsTo R k ∧ q + 60 + (rawAt R k).2.length ≤ l.length ∧ Lib.trimRightB (((l.drop q).take 60).take 16) 32 = (rawAt R k).1 ∧ Lib.trimRightB ((((l.drop q).take 60).drop 48).take 10) 32 = Lib.decDigits (rawAt R k).2.length ∧
      (l.drop (q + 60)).take (rawAt R k).2.length = (rawAt R k).2 ∧ (fileTo R (k + 1)).length = q + 60 + (rawAt R k).2.length := by
  obtain ⟨k, hk, hp, hrs⟩ := hat R hR e
  have hk2 : k < R.length := by
    rcases Nat.lt_or_ge k R.length with h | h
    · exact h
    · have : k = R.length := by omega
      rw [this] at hp
      have : l.length = (fileTo R R.length).length := by rw [e]; rfl
      omega
  have hqq : q = posOf R k := by rw [hq, hp]; rfl
  obtain ⟨h1, h2, h3⟩ := hR.each k hk2
  refine ⟨k, hk2, hqq, hrs, ?_, ?_, ?_, ?_, ?_⟩
  · rw [hqq, e]; exact file_room R hR k hk2
  · rw [hqq, e, file_hdr R hR k hk2, hdr_name _ _ h1, trim_fld _ _ h2]
  · rw [hqq, e, file_hdr R hR k hk2, hdr_size _ _ h1 (by omega), trim_fld _ _ (dec_last _)]
  · rw [hqq, e]; exact file_data R hR k hk2
  · rw [hqq]; exact fileTo_len R hR k hk2
theorem At.step {l : List UInt8} {p q D : Nat} {rs : List Rec} {nm dt : List UInt8} (hat : At l p rs) (hlt : p < l.length) (hq : q = p + p % 2)
    (hn : nm = Lib.trimRightB (((l.drop q).take 60).take 16) 32) (hD : ∀ m : Nat, Lib.trimRightB ((((l.drop q).take 60).drop 48).take 10) 32 = Lib.decDigits m → m ≤ 5000000 → m = D) (hd : dt = (l.drop (q + 60)).take D) : At l (q + 60 + D) (rs ++ [⟨nm, q, dt⟩]) := fun R hR e => by
  obtain ⟨k, h1, h2, h3, h4, h5, h6, h7, h8⟩ := rec_at hat hlt hq R hR e
  have h9 := hD _ h6 (hR.each k h1).2.2
  rw [h9] at h7 h8
  refine ⟨k + 1, by omega, h8.symm, ?_⟩
  rw [recsTo_succ, ← h3, hn, hd, h5, h7]
  unfold recOf
  rw [← h2]

set_option maxHeartbeats 2000000 in
set_option maxRecDepth 20000 in
theorem ar_records (v : Value) (l : List UInt8) (w : World) (hv : RdB w v l) (hl : l.length ≤ 1000000) (hG : GlobE w) :
    Calls Tryz.prog 46 #[v] w fun e w' => ((e = Ending.panicked [{ v := Value.iface 56 (Value.agg #[]), recovered := false }] ∧ ∀ R, OkR R → l ≠ fileOf R) ∨ (∃ v' rs xs, e = .returned v' ∧ Own w' w.heap.size 78 3 v' rs.length xs ∧ RaCells w rs xs ∧ RecsOk l.length rs ∧ ∀ R, OkR R → l = fileOf R → rs = recsTo R R.length)) ∧ Below w.heap.size w w' := by
  obtain ⟨a, c, rfl, hc1, hc2, hc⟩ := id hv
  clear hc hc2
  have hl' : (l.length : Int) ≤ 1000000 := by omega
  have Hv := Lib.hid hv; clear hv
  have HG := Lib.hid hG; clear hG
  have kc := fun (w : World) (C : Array Value) (n c : Nat) => Lib.run_convert_bytes_const (P := Tryz.prog) w 25 5 C n c Tryz.underlying25 Tryz.underlying5
  go_enter Tryz.func46, Tryz.ntmps46
  go_wp2_with fail
  clear kc
  obtain ⟨w1, hw1⟩ : ∃ w1, w1 = w.alloc (.cells #[.int .u8 33, .int .u8 60, .int .u8 97, .int .u8 114, .int .u8 99, .int .u8 104, .int .u8 62, .int .u8 10] 5 (8, 9)) := ⟨_, rfl⟩
  rw [← hw1]
  have hm := OwnL.rdB ((own_magic w w.heap.size (Nat.le_refl _) (8, 9) (.inr (Nat.le_refl _))).toL rfl)
  have hw1' : w1 = w.alloc (.cells (magic.map BV).toArray 5 (8, 9)) := hw1
  rw [← hw1'] at hm
  have hb1 : Below w.heap.size w w1 := by rw [hw1]; exact (Below.refl _ _).alloc (Nat.le_refl _) _
  clear hw1 hw1'
  have Hb1 := Lib.hid hb1; clear hb1
  refine (lib_bPrefix _ l _ magic w1 (Hv.out.below Hb1.out) hm).mono ?_
  rintro _ _ ⟨rfl, rfl⟩
  clear hm
  cases hp : Lib.hasPrefix l magic with
  | false =>
    go_wp2_with fail
    refine (ar_must_no _).mono ?_
    rintro _ _ ⟨rfl, rfl⟩
    go_wp2_with fail
    refine ⟨rfl, .inl ⟨rfl, fun R hR e => ?_⟩, Hb1.out⟩
    obtain ⟨r, hr⟩ := fileTo_pre R 0 R.length (Nat.zero_le _)
    unfold fileOf at e
    rw [e, hr] at hp
    have h9 : Lib.hasPrefix (fileTo R 0 ++ r) magic = true := by
      unfold Lib.hasPrefix
      rw [List.isPrefixOf_iff_prefix]
      exact List.prefix_append _ _
    rw [h9] at hp; cases hp
  | true =>
    have h8 : 8 ≤ l.length := by
      unfold Lib.hasPrefix at hp
      rw [List.isPrefixOf_iff_prefix] at hp
      exact hp.length_le
    clear hp
    go_wp2_with fail
    refine (ar_must_ok _).mono ?_
    rintro _ _ ⟨rfl, rfl⟩
    go_wp2_with fail
    go_loopw [3, 4] (fun s i wr => ∃ (p : Nat) (rs : List Rec) (xs : List Value), i = .int .i64 p ∧ p ≤ l.length ∧ 60 * rs.length ≤ p ∧ RecsOk l.length rs ∧ Own wr w.heap.size 78 3 s rs.length xs ∧ RaCells w rs xs ∧ At l p rs ∧ Below w.heap.size w wr) (fun _ i _ => l.length - (intOf i).toNat)
    case atStart =>
      refine ⟨8, [], [], rfl, h8, Nat.zero_le _, ⟨Nat.zero_le _, fun r h => by simp at h⟩, Own.nil _ _ _ _, RaCells.nil _, fun R hR e => ⟨0, Nat.zero_le _, rfl, rfl⟩, Hb1.out⟩
    case round =>
      obtain ⟨p, rs, xs, rfl, hp, hlen, hok, hown, hra, hat, hb⟩ := hrel
      obtain ⟨sa, sc, rfl, -, -, -⟩ := hown.cells
      have Hok := Lib.hid hok; clear hok
      have Hown := Lib.hid hown; clear hown
      have Hra := Lib.hid hra; clear hra
      have Hat := Lib.hid hat; clear hat
      have hz := hb.size
      have Hb := Lib.hid hb; clear hb
      clear Hb1 h8
      by_cases hlt : p < l.length
      · go_wp2_with fail
        refine (ar_even _ _ (by omega) (by omega)).mono ?_
        rintro _ _ ⟨rfl, rfl⟩
        obtain ⟨q, hq⟩ : ∃ q, q = p + p % 2 := ⟨_, rfl⟩
        have e1 : ((p : Nat) : Int) + (p : Nat) % 2 = ((q : Nat) : Int) := by omega
        rw [e1]
        clear e1
        have hq1 : (q : Int) ≤ 1000001 := by omega
        have Hq := Lib.hid hq; clear hq
        by_cases hroom : q + 60 ≤ l.length
        · have hroom1 : (60 : Int) ≤ l.length - q := by omega
          have hroom2 : (q : Int) + 60 ≤ c := by omega
          have hne : ¬ c = q := by omega
          go_wp2_with fail
          refine (ar_must_ok _).mono ?_
          rintro _ _ ⟨rfl, rfl⟩
          have hv2 := Hv.out.below Hb.out
          obtain ⟨b, o, rfl, -⟩ := hv2.at 0 (by omega)
          have hp2 := hv2.piece q (q + 60) (by omega) (by omega)
          have hcv := run_str (P := Tryz.prog) TB.und Tryz.underlying5 Tryz.underlying9 (hp2 (some ⟨b, o + q, none⟩) 60 (c - q) (by (intro b o e he; cases e; first | rfl | (simp [Addr.add]; done) | (rw [if_neg (by omega)]; simp [Addr.add]; done) | (simp [Addr.add]; omega))) (by omega) rfl)
          obtain ⟨H, hH⟩ : ∃ H : ByteArray, H = ⟨((l.drop q).take (q + 60 - q)).toArray⟩ := ⟨_, rfl⟩
          rw [← hH] at hcv
          have hHs : H.size = 60 := by rw [hH, ba_size]; simp; omega
          have hHd : H.data.toList = (l.drop q).take 60 := by rw [hH]; simp
          have HHd := Lib.hid hHd; clear hHd hH hp2 hv2
          go_wp2_with fail
          refine (Tryz.strings_TrimRight_one (H.extract 48 58) 32 (by decide) _ (by rw [ByteArray.size_extract]; omega)).mono ?_
          rintro _ _ ⟨rfl, rfl⟩
          rw [ext_mid, HHd.out]
          have hgl := HG.out.below Hb.out
          obtain ⟨Z, hZ⟩ : ∃ Z, Z = Lib.trimRightB ((((l.drop q).take 60).drop 48).take (58 - 48)) 32 := ⟨_, rfl⟩
          rw [← hZ]
          have hZl : Z.length ≤ 10 := by
            rw [hZ]; unfold Lib.trimRightB
            rw [List.length_reverse]
            refine Nat.le_trans (List.dropWhile_suffix _).length_le ?_
            simp; omega
          have HZ := Lib.hid hZ; clear hZ
          go_wp2_with fail
          refine (lib_Atoi _ _ (by rw [ba_size]; omega) hgl).mono ?_
          rintro _ w2 ⟨h2, hb2⟩
          clear hgl hZl
          have Hb2 := Lib.hid (bel_trans Hb.out hb2)
          have Ho2 := Lib.hid (Hown.out.below hb2)
          clear hb2 hcv
          have hz2 := Hb2.out.size
          rcases h2 with ⟨n, h3, rfl⟩ | ⟨h3, N, rfl⟩
          · have HD := Lib.hid (show ∀ m : Nat, Z = Lib.decDigits m → n = m from fun m h => by
              rw [show (⟨Z.toArray⟩ : ByteArray).data.toList = Z from rfl, h] at h3
              rw [atoi_dec] at h3
              exact (Option.some.inj h3).symm)
            clear h3
            by_cases hn : 0 ≤ n ∧ n ≤ l.length - q - 60
            · obtain ⟨hn0, hn1⟩ := hn
              obtain ⟨D, rfl⟩ := Int.eq_ofNat_of_zero_le hn0
              go_wp2_with fail
              refine (ar_must_ok _).mono ?_
              rintro _ _ ⟨rfl, rfl⟩
              go_wp2_with fail
              have hD1 : q + 60 + D ≤ l.length := by omega
              obtain ⟨Q, hQ⟩ : ∃ Q, Q = q + 60 := ⟨_, rfl⟩
              have hwr : IntKind.i64.wrap ((q : Int) + 60) = (Q : Int) := by rw [Go.IntWalk.i64_in _ (by omega)]; omega
              have hQl : Q ≤ l.length := by omega
              have hD2 : D ≤ c - Q := by omega
              have q1 : (rs.length + 1) * 48 ≤ 140737488355328 := by omega
              have q2 : rs.length + 1 ≤ maxLen := by unfold maxLen; omega
              have Hod := Lib.hid (Ho2.out.drew)
              have Hbd := Lib.hid (below_drewN Hb2.out 1)
              have ha2 := Hat.out.step hlt Hq.out rfl (D := D) (fun m h5 _ => by
                have := HD.out m (by rw [HZ.out]; exact h5)
                omega) rfl
              have hdl : ((l.drop (q + 60)).take D).length = D := by simp; omega
              have HR := Lib.hid (fun vd h => Hra.out.snoc ⟨Lib.trimRightB (((l.drop q).take 60).take 16) 32, q, (l.drop (q + 60)).take D⟩ vd h)
              have HK := Lib.hid (show RecsOk l.length (rs ++ [⟨Lib.trimRightB (((l.drop q).take 60).take 16) 32, q, (l.drop (q + 60)).take D⟩]) from
                ⟨by have := Hq.out; simp; omega, fun r hr => by
                  rcases List.mem_append.1 hr with h5 | h5
                  · exact Hok.out.each r h5
                  · simp at h5; subst h5
                    refine ⟨?_, by show q ≤ l.length; omega, by show ((l.drop (q + 60)).take D).length ≤ _; omega⟩
                    show (Lib.trimRightB _ 32).length ≤ 16
                    unfold Lib.trimRightB
                    rw [List.length_reverse]
                    refine Nat.le_trans (List.dropWhile_suffix _).length_le ?_
                    simp; omega⟩)
              have HP := Lib.hid (fun X N C h1 h2 h3 => Hv.out.piece Q (Q + D) (by omega) (by omega) X N C h1 h2 h3)
              rw [show Q + D - Q = D by omega, hQ] at HP
              have HA := Lib.hid ha2; clear ha2 hdl
              have HQ := Lib.hid hQ; clear hQ
              by_cases hne2 : c = Q
              · have hD0 : D = 0 := by omega
                subst hD0
                go_region_law
                  (first
                    | (go_simp; go_at_call 62; refine (Tryz.strings_TrimRight_one (H.extract 0 16) 32 (by decide) _ (by rw [ByteArray.size_extract]; omega)).mono ?_; rintro _ _ ⟨rfl, rfl⟩; rw [ext_take, HHd.out])
                    | (refine step_app _ _ _ _ (by rfl) (by rfl) TR w.heap.size (Ho2.out.alloc _).drew (by rfl) (Src.one3d TR.und _ _ _ rfl rfl rfl) (by rfl) q1 q2 (by simp; omega) ?_; intro v7 w7 h7 h7g h7k; have H7 := Lib.hid h7; have H7g := Lib.hid h7g; clear h7 h7g h7k))
                all_goals
                  have Hb7 := Lib.hid (below_own (below_drewN (Hb2.out.alloc hz2 _) 1) (by simp; omega) (Ho2.out.alloc _).drew H7g.out)
                  go_wp2_with fail
                  go_roundw
                  case rel =>
                    refine ⟨q + 60 + 0, (by rw [HQ.out]), hD1, _, ?_, HK.out, _, H7.out.cast (by simp) rfl, HR.out _ ?_, HA.out, Hb7.out⟩
                    · have := Hq.out; simp; omega
                    · exact HP.out _ _ _ (fun b' o' _ h5 => by omega) (by first | rfl | omega) (by have := HQ.out; omega)
                  case measure => have := Hq.out; simp [intOf]; omega
              · have hne3 : ¬ c - Q = 0 := by omega
                go_region_law
                  (first
                    | (go_simp; go_at_call 62; refine (Tryz.strings_TrimRight_one (H.extract 0 16) 32 (by decide) _ (by rw [ByteArray.size_extract]; omega)).mono ?_; rintro _ _ ⟨rfl, rfl⟩; rw [ext_take, HHd.out])
                    | (refine step_app _ _ _ _ (by rfl) (by rfl) TR w.heap.size (Ho2.out.alloc _).drew (by rfl) (Src.one3d TR.und _ _ _ rfl rfl rfl) (by rfl) q1 q2 (by simp; omega) ?_; intro v7 w7 h7 h7g h7k; have H7 := Lib.hid h7; have H7g := Lib.hid h7g; clear h7 h7g h7k))
                all_goals
                  have Hb7 := Lib.hid (below_own (below_drewN (Hb2.out.alloc hz2 _) 1) (by simp; omega) (Ho2.out.alloc _).drew H7g.out)
                  go_wp2_with fail
                  go_roundw
                  case rel =>
                    refine ⟨q + 60 + D, _, _, by go_num, hD1, by have := Hq.out; simp; omega, HK.out, H7.out.cast (by simp) rfl, HR.out _ ?_, HA.out, Hb7.out⟩
                    exact HP.out _ _ _ (by rw [HQ.out]; (intro b o e he; cases e; first | rfl | (simp [Addr.add]; done) | (rw [if_neg (by omega)]; simp [Addr.add]; done) | (simp [Addr.add]; omega))) (by first | rfl | omega) (by rw [HQ.out])
                  case measure => have := Hq.out; simp [intOf]; omega
            · obtain hn0 | hn0 : n < 0 ∨ (0 ≤ n ∧ ¬ n ≤ l.length - q - 60) := by omega
              · have hnd : decide (0 ≤ n) = false := decide_eq_false (by omega)
                go_wp2_with fail
                refine (ar_must_no _).mono ?_
                rintro _ _ ⟨rfl, rfl⟩
                go_wp2_with fail
                refine ⟨rfl, .inl ⟨rfl, fun R hR e => ?_⟩, Hb2.out⟩
                obtain ⟨k, h1, h2, h3, h4, h5, h6, h7, h8⟩ := rec_at Hat.out hlt Hq.out R hR e
                have h9 := HD.out _ (by rw [HZ.out]; exact h6)
                omega
              · obtain ⟨hn1, hn2⟩ := hn0
                have hnd : decide (n ≤ (l.length : Int) - q - 60) = false := decide_eq_false hn2
                go_wp2_with fail
                refine (ar_must_no _).mono ?_
                rintro _ _ ⟨rfl, rfl⟩
                go_wp2_with fail
                refine ⟨rfl, .inl ⟨rfl, fun R hR e => ?_⟩, Hb2.out⟩
                obtain ⟨k, h1, h2, h3, h4, h5, h6, h7, h8⟩ := rec_at Hat.out hlt Hq.out R hR e
                have h9 := HD.out _ (by rw [HZ.out]; exact h6)
                omega
          · have H3 := Lib.hid h3; clear h3
            go_wp2_with fail
            refine (ar_must_no _).mono ?_
            rintro _ _ ⟨rfl, rfl⟩
            go_wp2_with fail
            refine ⟨rfl, .inl ⟨rfl, fun R hR e => ?_⟩, Hb2.out⟩
            obtain ⟨k, h1, h2, h3, h4, h5, h6, h7, h8⟩ := rec_at Hat.out hlt Hq.out R hR e
            have h9 := H3.out
            rw [HZ.out, h6, atoi_dec] at h9
            cases h9
        · have hroom1 : decide ((60 : Int) ≤ l.length - q) = false := decide_eq_false (by omega)
          go_wp2_with fail
          refine (ar_must_no _).mono ?_
          rintro _ _ ⟨rfl, rfl⟩
          go_wp2_with fail
          refine ⟨rfl, .inl ⟨rfl, fun R hR e => ?_⟩, Hb.out⟩
          obtain ⟨k, h1, h2, h3, h4, h5, h6, h7, h8⟩ := rec_at Hat.out hlt Hq.out R hR e
          omega
      · have hpl : p = l.length := by omega
        go_wp2_with fail
        go_ret
        refine ⟨.inr ⟨_, rs, xs, rfl, Hown.out, Hra.out, Hok.out, fun R hR e => ?_⟩, Hb.out⟩
        obtain ⟨k, h1, h2, h3⟩ := Hat.out R hR e
        have h4 : (fileTo R k).length = (fileTo R R.length).length := by rw [← h2, hpl, e]; rfl
        rcases Nat.lt_or_ge k R.length with h5 | h5
        · have h6 := file_room R hR k h5
          unfold fileOf posOf at h6
          omega
        · rw [h3, show k = R.length by omega]

end Go.Proofs.YtnpfnjkghlgooaaGreatDoor
