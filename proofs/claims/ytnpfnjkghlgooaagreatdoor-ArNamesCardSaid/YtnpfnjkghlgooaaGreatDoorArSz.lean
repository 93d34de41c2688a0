/-
  Decimal numerals; the walks of foundryref7.size and long.
  Conditions: lengths below 10^9.
-/
import Derived.Test.YtnpfnjkghlgooaaGreatDoorArRe
import Derived.Lib.Atoi
namespace Go.Proofs.YtnpfnjkghlgooaaGreatDoor
set_option linter.unusedVariables false
set_option linter.unusedSimpArgs false
open Go Go.RowKit

def isDig (c : UInt8) : Bool := decide (48 ≤ c.toNat) && decide (c.toNat ≤ 57)
def vlF (n : Nat) (l : List UInt8) : Nat := l.foldl (fun n c => n * 10 + (c.toNat - 48)) n
def vl (l : List UInt8) : Nat := vlF 0 l
theorem vl_snoc (l : List UInt8) (c : UInt8) : vl (l ++ [c]) = vl l * 10 + (c.toNat - 48) := by simp [vl, vlF]
theorem vl_app (a b : List UInt8) : vl (a ++ b) = vlF (vl a) b := by simp [vl, vlF]
theorem vlF_ge (l : List UInt8) : ∀ n, n ≤ vlF n l := by
  induction l with
  | nil => intro n; exact Nat.le_refl _
  | cons c l ih => intro n; have := ih (n * 10 + (c.toNat - 48)); simp only [vlF, List.foldl_cons] at *; omega
theorem vl_take_le (l : List UInt8) (k : Nat) : vl (l.take k) ≤ vl l := by
  conv => rhs; rw [← List.take_append_drop k l, vl_app]
  exact vlF_ge _ _
theorem dch_nat (n : Nat) (h : n < 10) : (UInt8.ofNat (48 + n)).toNat = 48 + n := by
  rw [UInt8.toNat_ofNat']; omega
theorem dec_induct {p : List UInt8 → Nat → Prop} (h1 : ∀ n, n < 10 → p [UInt8.ofNat (48 + n)] n) (h2 : ∀ n, 10 ≤ n → p (Lib.decDigits (n / 10)) (n / 10) → p (Lib.decDigits (n / 10) ++ [UInt8.ofNat (48 + n % 10)]) n) (D : Nat) : p (Lib.decDigits D) D := by
  induction D using Nat.strongRecOn with
  | ind n ih =>
    by_cases h : n < 10
    · rw [decDigits_one n h]; exact h1 n h
    · rw [decDigits_snoc n (by omega)]
      exact h2 n (by omega) (ih _ (by omega))
theorem vl_dec (D : Nat) : vl (Lib.decDigits D) = D := by
  refine dec_induct (p := fun l n => vl l = n) (fun n h => ?_) (fun n h ih => ?_) D
  · show 0 * 10 + ((UInt8.ofNat (48 + n)).toNat - 48) = n
    rw [dch_nat n h]; omega
  · rw [vl_snoc, ih, dch_nat _ (Nat.mod_lt _ (by decide))]; omega
theorem dec_digs (D : Nat) : ∀ c ∈ Lib.decDigits D, isDig c = true := by
  refine dec_induct (p := fun l _ => ∀ c ∈ l, isDig c = true) (fun n h => ?_) (fun n h ih => ?_) D
  · intro c hc
    simp at hc; subst hc
    simp [isDig, dch_nat n h]; omega
  · intro c hc
    rcases List.mem_append.1 hc with h3 | h3
    · exact ih c h3
    · simp at h3; subst h3
      have := Nat.mod_lt n (show 0 < 10 by decide)
      simp [isDig, dch_nat _ this]; omega
theorem dec_pos (D : Nat) : 0 < (Lib.decDigits D).length := by
  refine dec_induct (p := fun l _ => 0 < l.length) (fun n h => ?_) (fun n h ih => ?_) D <;> simp
theorem decFrom_digs (l : List UInt8) : ∀ n, (∀ c ∈ l, isDig c = true) → Lib.decFrom n l = some (vlF n l) := by
  induction l with
  | nil => intro n _; rfl
  | cons c l ih =>
    intro n h
    have hc := h c (by simp)
    have hd : Lib.digitVal c = some (c.toNat - 48) := by
      unfold isDig at hc; simp at hc
      unfold Lib.digitVal; rw [if_pos hc]
    rw [Lib.decFrom, hd]
    exact ih _ fun c hc => h c (by simp [hc])
theorem atoi_dec (D : Nat) : Lib.atoi (Lib.decDigits D) = some (D : Int) := by
  have h1 := dec_digs D
  have h2 := vl_dec D
  have h3 := dec_pos D
  generalize Lib.decDigits D = l at *
  cases l with
  | nil => simp at h3
  | cons c r =>
    have hc := h1 c (by simp)
    unfold isDig at hc; simp at hc
    have e1 : (c == 45) = false := by
      rw [beq_eq_false_iff_ne]; intro h; subst h; simp at hc
    have e2 : (c == 43) = false := by
      rw [beq_eq_false_iff_ne]; intro h; subst h; simp at hc
    have e3 : Lib.decNat (c :: r) = some D := by
      unfold Lib.decNat
      rw [decFrom_digs _ _ h1]
      simp only [List.isEmpty_cons]
      rw [← h2]; rfl
    rw [Lib.atoi]
    simp [e1, e2, e3]

/-- What the document's 'size' says. -/
def SizeIs (l : List UInt8) (n : Int) : Prop := -1 ≤ n ∧ n ≤ 167772169 ∧ ∀ (D : Nat) (r : List UInt8), D ≤ 10000000 → l = Lib.decDigits D ++ r → (∀ c, r.head? = some c → isDig c = false) → n = D

def digTo (l : List UInt8) (k : Nat) : Prop := ∀ j, j < k → ∀ c, l[j]? = some c → isDig c = true
theorem size_is (l : List UInt8) (k : Nat) (hk : k ≤ l.length) (hd : digTo l k) (hn : vl (l.take k) ≤ 167772169)
    (hend : k = l.length ∨ (∃ c, l[k]? = some c ∧ isDig c = false) ∨ 16777216 ≤ vl (l.take k)) : SizeIs l (if k = 0 then -1 else (vl (l.take k) : Nat)) := by
  refine ⟨by split <;> omega, by split <;> omega, fun D r hD hl hr => ?_⟩
  subst hl
  have hp := dec_pos D
  have h1 := dec_digs D
  have h2 := vl_dec D
  generalize Lib.decDigits D = x at *
  have hkx : ¬ x.length < k := by
    intro hlt
    have := hd x.length hlt
    rw [List.getElem?_append_right (Nat.le_refl _), Nat.sub_self] at this
    cases r with
    | nil => simp at hk; omega
    | cons c r =>
      have h3 := this c (by simp)
      rw [hr c rfl] at h3; cases h3
  have hle : vl ((x ++ r).take k) ≤ D := by
    rw [List.take_append_of_le_length (by omega), ← h2]
    exact vl_take_le _ _
  have hkk : k = x.length := by
    rcases hend with h3 | ⟨c, h3, h4⟩ | h3
    · simp at h3; omega
    · rcases Nat.lt_or_ge k x.length with h5 | h5
      · rw [List.getElem?_append_left h5] at h3
        have := h1 c (List.mem_of_getElem? h3)
        rw [h4] at this; cases this
      · omega
    · omega
  subst hkk
  rw [if_neg (by omega), List.take_left, h2]

set_option maxHeartbeats 400000 in
set_option maxRecDepth 20000 in
theorem ref_size (v : Value) (l : List UInt8) (w : World) (hv : RdB w v l) (hl : l.length ≤ 1000000000) :
    Calls Tryz.prog 34 #[v] w fun e w' => (∃ n, e = .returned (.int .i64 n) ∧ SizeIs l n) ∧ w = w' := by
  obtain ⟨a, c, rfl, hc1, hc2, hc⟩ := id hv
  clear hc hc2
  have Hv := Lib.hid hv; clear hv
  have hl' : (l.length : Int) ≤ 1000000000 := by omega
  go_enter Tryz.func34, Tryz.ntmps34
  go_wp2_with fail
  go_loop [3, 4] (fun n i => ∃ k : Nat, k ≤ l.length ∧ i = .int .i64 k ∧ n = .int .i64 (vl (l.take k) : Nat) ∧ digTo l k ∧ vl (l.take k) ≤ 167772169) (fun _ i => l.length - (intOf i).toNat)
  case atStart => exact ⟨0, Nat.zero_le _, rfl, by simp [vl, vlF], fun j h => by omega, by simp [vl, vlF]⟩
  case round =>
    obtain ⟨k, hk, rfl, rfl, hd, hn⟩ := hrel
    have Hd := Lib.hid hd; clear hd
    obtain ⟨X, hX⟩ : ∃ X : Int, X = (vl (l.take k) : Nat) := ⟨_, rfl⟩
    have fin : (k = l.length ∨ (∃ c, l[k]? = some c ∧ isDig c = false) ∨ 16777216 ≤ X) → SizeIs l (if ((k : Int) == 0) = true then -1 else X) := fun h => by
      have := size_is l k hk Hd.out hn (by rcases h with h | h | h; exact .inl h; exact .inr (.inl h); exact .inr (.inr (by omega)))
      rw [← hX] at this
      by_cases h0 : k = 0
      · rw [if_pos h0] at this; rw [if_pos (by simp [h0])]; exact this
      · rw [if_neg h0] at this; rw [if_neg (by simp; omega)]; exact this
    have hn' : X ≤ 167772169 := by omega
    have hn0 : 0 ≤ X := by omega
    rw [← hX]
    clear hn
    have HX := Lib.hid hX; clear hX
    have Fin := Lib.hid fin; clear fin
    by_cases hlt : k < l.length
    · obtain ⟨b, o, rfl, hcell⟩ := Hv.out.at k hlt
      have hy0 := l[k].toNat_lt
      obtain ⟨y, hy⟩ : ∃ y, y = l[k].toNat := ⟨_, rfl⟩
      rw [← hy] at hcell hy0
      have Hy := Lib.hid hy; clear hy
      by_cases h48 : (48 : Int) ≤ y
      · by_cases h57 : (y : Int) ≤ 57
        · by_cases hbig : X < 16777216
          · have hs : digTo l (k + 1) := by
              intro j hj c hc
              rcases Nat.lt_or_ge j k with h2 | h2
              · exact Hd.out j h2 c hc
              · have : j = k := by omega
                subst this
                rw [List.getElem?_eq_getElem hlt] at hc
                cases hc
                have := Hy.out
                simp [isDig]; omega
            have hv2 : ((vl (l.take (k + 1)) : Nat) : Int) = X * 10 + ((y : Int) - 48) := by
              have := Hy.out
              have := HX.out; rw [List.take_succ_eq_append_getElem hlt, vl_snoc]; omega
            have Hs := Lib.hid hs; clear hs
            have Hv2 := Lib.hid hv2; clear hv2
            go_wp2_with fail
            go_round
            case rel => exact ⟨k + 1, by omega, by go_num, by rw [Hv2.out], Hs.out, by have := Hv2.out; omega⟩
            case measure => simp [intOf]; omega
          · have H1 := Fin.out (.inr (.inr (by omega)))
            have hB : (16777216 : Int) ≤ X := by omega
            clear Fin
            have H2 := Lib.hid H1
            clear H1
            clear hbig
            cases hk0 : ((k : Int) == 0)
            all_goals
              rw [hk0] at H2
              go_wp2_with fail
              go_ret
              exact ⟨⟨_, rfl, H2.out⟩, rfl⟩
        · have H1 := Fin.out (.inr (.inl ⟨_, List.getElem?_eq_getElem hlt, by have := Hy.out; simp [isDig]; omega⟩))
          clear Fin
          have H2 := Lib.hid H1
          clear H1
          cases hk0 : ((k : Int) == 0)
          all_goals
            rw [hk0] at H2
            go_wp2_with fail
            go_ret
            exact ⟨⟨_, rfl, H2.out⟩, rfl⟩
      · have H1 := Fin.out (.inr (.inl ⟨_, List.getElem?_eq_getElem hlt, by have := Hy.out; simp [isDig]; omega⟩))
        clear Fin
        have H2 := Lib.hid H1
        clear H1
        cases hk0 : ((k : Int) == 0)
        all_goals
          rw [hk0] at H2
          go_wp2_with fail
          go_ret
          exact ⟨⟨_, rfl, H2.out⟩, rfl⟩
    · have H1 := Fin.out (.inl (by omega))
      clear Fin
      have H2 := Lib.hid H1
      clear H1
      cases hk0 : ((k : Int) == 0)
      all_goals
        rw [hk0] at H2
        go_wp2_with fail
        go_ret
        exact ⟨⟨_, rfl, H2.out⟩, rfl⟩

/-- A name among the long ones. -/
def LongAt (l : List UInt8) (n : Int) (nm : List UInt8) : Prop := ∃ p r, l = p ++ nm ++ [47, 10] ++ r ∧ (p.length : Int) = n ∧ (47 : UInt8) ∉ nm
def noPair (l : List UInt8) (N j : Nat) : Prop := ∀ i, i < j → ¬ (l[N + i]? = some 47 ∧ l[N + i + 1]? = some 10)
theorem long_pair {l : List UInt8} {N : Nat} {nm : List UInt8} (h : LongAt l N nm) : l[N + nm.length]? = some 47 ∧ l[N + nm.length + 1]? = some 10 ∧ (∀ i, i < nm.length → l[N + i]? ≠ some 47) ∧ nm = (l.drop N).take nm.length := by
  obtain ⟨p, r, rfl, hp, hn⟩ := h
  have hp' : p.length = N := by omega
  subst hp'
  simp only [List.append_assoc]
  refine ⟨?_, ?_, fun i hi h => ?_, ?_⟩
  · rw [List.getElem?_append_right (by omega), List.getElem?_append_right (by omega)]
    simp
  · rw [List.getElem?_append_right (by omega), List.getElem?_append_right (by omega), show p.length + nm.length + 1 - p.length - nm.length = 1 by omega]
    rfl
  · rw [List.getElem?_append_right (by omega), List.getElem?_append_left (by omega)] at h
    exact hn (List.mem_of_getElem? h)
  · rw [List.drop_left, List.take_left]
theorem long_hit (l : List UInt8) (N j : Nat) (hn : noPair l N j) (h1 : l[N + j]? = some 47) (h2 : l[N + j + 1]? = some 10) (nm : List UInt8) (h : LongAt l N nm) : (l.drop N).take j = nm := by
  obtain ⟨h3, h4, h5, h6⟩ := long_pair h
  have : j = nm.length := by
    rcases Nat.lt_trichotomy j nm.length with h7 | h7 | h7
    · exact (h5 j h7 h1).elim
    · exact h7
    · exact (hn _ h7 ⟨h3, h4⟩).elim
  rw [this]; exact h6.symm
theorem long_miss (l : List UInt8) (N j : Nat) (hn : noPair l N j) (hj : l.length ≤ N + j + 1) (nm : List UInt8) : ¬ LongAt l N nm := fun h => by
  obtain ⟨h3, h4, h5, h6⟩ := long_pair h
  have := (List.getElem?_eq_some_iff.1 h4).1
  exact hn _ (by omega) ⟨h3, h4⟩

set_option maxHeartbeats 400000 in
set_option maxRecDepth 20000 in
theorem ref_long (v : Value) (l : List UInt8) (n : Int) (w : World) (hv : RdB w v l) (hl : l.length ≤ 1000000000) (hn : -1 ≤ n) (hn2 : n ≤ 167772169) :
    Calls Tryz.prog 33 #[v, .int .i64 n] w fun e w' => (∃ t : List UInt8, e = .returned (.string ⟨t.toArray⟩) ∧ t.length ≤ l.length ∧ ∀ nm, LongAt l n nm → t = nm) ∧ w = w' := by
  obtain ⟨a, c, rfl, hc1, hc2, hc⟩ := id hv
  clear hc hc2
  have Hv := Lib.hid hv; clear hv
  have hl' : (l.length : Int) ≤ 1000000000 := by omega
  go_enter Tryz.func33, Tryz.ntmps33
  by_cases h0 : n < 0
  · go_wp2_with fail
    refine wp_loop_rounds 1 ?_
    rw [rounds_succ]
    go_wp2_with fail
    go_ret
    exact ⟨⟨[], rfl, Nat.zero_le _, fun nm h => by obtain ⟨p, r, _, h2, _⟩ := h; omega⟩, rfl⟩
  · obtain ⟨N, rfl⟩ := Int.eq_ofNat_of_zero_le (show 0 ≤ n by omega)
    clear h0 hn
    go_wp2_with fail
    go_loop [5] (fun k => ∃ j : Nat, k = .int .i64 ((N + j : Nat) : Int) ∧ noPair l N j ∧ (j = 0 ∨ N + j < l.length)) (fun k => l.length - (intOf k).toNat)
    case atStart => exact ⟨0, rfl, fun i h => by omega, .inl rfl⟩
    case round =>
      obtain ⟨j, rfl, hnp, hj⟩ := hrel
      have Hnp := Lib.hid hnp; clear hnp
      obtain ⟨k, hk⟩ : ∃ k, k = N + j := ⟨_, rfl⟩
      have hk9 : (k : Int) ≤ 1167772169 := by omega
      have hNk : N ≤ k := by omega
      rw [← hk]
      clear hj
      have Hk := Lib.hid hk; clear hk
      by_cases hlt : (k : Int) + 1 < l.length
      · have hlt1 : k < l.length := by omega
        have hlt2 : k + 1 < l.length := by omega
        obtain ⟨b, o, rfl, hcell⟩ := Hv.out.at k hlt1
        obtain ⟨b', o', he, hcell2⟩ := Hv.out.at (k + 1) hlt2
        cases he
        have g1 : l[N + j]? = some l[k] := by rw [← Hk.out, List.getElem?_eq_getElem hlt1]
        have g2 : l[N + j + 1]? = some l[k + 1] := by rw [← Hk.out, List.getElem?_eq_getElem hlt2]
        have step : ¬ (l[k].toNat = 47 ∧ l[k + 1].toNat = 10) → noPair l N (j + 1) := fun h i hi hp => by
          rcases Nat.lt_or_ge i j with h5 | h5
          · exact Hnp.out i h5 hp
          · have : i = j := by omega
            subst this
            rw [g1, g2] at hp
            refine h ⟨?_, ?_⟩
            · rw [Option.some.inj hp.1]; rfl
            · rw [Option.some.inj hp.2]; rfl
        obtain ⟨y, hy⟩ : ∃ y, y = l[k].toNat := ⟨_, rfl⟩
        obtain ⟨z, hz⟩ : ∃ z, z = l[k + 1].toNat := ⟨_, rfl⟩
        rw [← hy, ← hz] at step
        rw [← hy] at hcell
        rw [← hz] at hcell2
        have hcell3 := hcell2
        rw [← Nat.add_assoc] at hcell3
        have Hy := Lib.hid hy; clear hy
        have Hz := Lib.hid hz; clear hz
        have G1 := Lib.hid g1; clear g1
        have G2 := Lib.hid g2; clear g2
        have Step := Lib.hid step; clear step
        have Hlt2 := Lib.hid hlt2
        by_cases h47 : (y : Int) = 47
        · by_cases h10 : (z : Int) = 10
          · have e1 : l[k] = 47 := UInt8.toNat_inj.1 (by have := Hy.out; show _ = 47; omega)
            have e2 : l[k + 1] = 10 := UInt8.toNat_inj.1 (by have := Hz.out; show _ = 10; omega)
            have hw := long_hit l N j Hnp.out (by rw [G1.out, e1]) (by rw [G2.out]; exact congrArg some e2)
            have hkj : k - N = j := by have := Hk.out; omega
            have hne : ¬ c = N := by have := Hlt2.out; omega
            have hkc : (k : Int) ≤ c := by omega
            have hp2 := Hv.out.piece N k (by omega) (by omega)
            rw [hkj] at hp2
            have hcv := run_str (P := Tryz.prog) TB.und Tryz.underlying5 Tryz.underlying9 (hp2 (some ⟨b, o + N, none⟩) (k - N) (c - N) (by (intro b o e he; cases e; first | rfl | (simp [Addr.add]; done) | (rw [if_neg (by omega)]; simp [Addr.add]; done) | (simp [Addr.add]; omega))) hkj rfl)
            have hlen : ((l.drop N).take j).length ≤ l.length := by simp; omega
            have Hw := Lib.hid hw
            have Hlen := Lib.hid hlen
            clear hp2 hw hlen hkj e1 e2
            go_wp2_with fail
            go_ret
            exact ⟨⟨_, rfl, Hlen.out, Hw.out⟩, rfl⟩
          · have Hs := Lib.hid (Step.out (by omega))
            clear Step
            go_wp2_with fail
            go_round
            case rel => exact ⟨j + 1, by have := Hk.out; congr 1; omega, Hs.out, .inr (by have := Hk.out; omega)⟩
            case measure => simp [intOf]; omega
        · have Hs := Lib.hid (Step.out (by omega))
          clear Step
          go_wp2_with fail
          go_round
          case rel => exact ⟨j + 1, by have := Hk.out; congr 1; omega, Hs.out, .inr (by have := Hk.out; omega)⟩
          case measure => simp [intOf]; omega
      · have H9 := Lib.hid (long_miss l N j Hnp.out (by have := Hk.out; omega))
        go_wp2_with fail
        go_ret
        exact ⟨⟨[], rfl, Nat.zero_le _, fun nm h => (H9.out nm h).elim⟩, rfl⟩

end Go.Proofs.YtnpfnjkghlgooaaGreatDoor
