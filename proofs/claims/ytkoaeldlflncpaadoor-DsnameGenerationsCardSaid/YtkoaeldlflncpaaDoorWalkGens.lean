/-
  The walk of the law DsnameGenerations: it returns true for every text and two numbers.
-/
import Derived.Test.YtkoaeldlflncpaaDoorGens
import Derived.Test.YtkoaeldlflncpaaDoorAwake
namespace Go.Proofs.YtkoaeldlflncpaaDoor
open Go.RowKit Go.PlainAid

theorem gens_long (g : ByteArray) (n m : Int) (w : World) (hm : MaxLen w) (ht : Tab w) (hz : 31 < g.size) :
    Calls Tryd.prog 8 #[.string g, .int .i64 n, .int .i64 m] w fun e w' => e = .returned (.bool true) ∧ Below w.heap.size w w' := by
  have HM := Lib.hid hm
  have HT := Lib.hid ht
  clear hm ht
  have hz' : decide ((31 : Int) < (g.size : Int)) = true := by simp; omega
  go_enter Tryd.func8, Tryd.ntmps8
  go_wp2_with fail
  refine (awake_true _ HM.out HT.out).mono ?_
  rintro e w1 ⟨rfl, hb⟩
  have B1 := Lib.hid hb
  have M1 := Lib.hid (HM.out.below B1.out)
  have T1 := Lib.hid (HT.out.below B1.out)
  clear hb
  go_wp2_with fail
  go_ret
  exact ⟨rfl, B1.out⟩
theorem gens_nogroup (g : ByteArray) (n m : Int) (w : World) (hm : MaxLen w) (ht : Tab w) (hz : g.size ≤ 31) (hg : groupB g = false) :
    Calls Tryd.prog 8 #[.string g, .int .i64 n, .int .i64 m] w fun e w' => e = .returned (.bool true) ∧ Below w.heap.size w w' := by
  have HM := Lib.hid hm
  have HT := Lib.hid ht
  clear hm ht
  have hz' : decide ((31 : Int) < (g.size : Int)) = false := by simp; omega
  have R : ∀ k, genV g k = (⟨#[]⟩, 1) := fun k => by unfold genV; rw [hg]; rfl
  go_enter Tryd.func8, Tryd.ntmps8
  go_wp2_with fail
  refine (awake_true _ HM.out HT.out).mono ?_
  rintro e w1 ⟨rfl, hb⟩
  have B1 := Lib.hid hb
  have M1 := Lib.hid (HM.out.below B1.out)
  have T1 := Lib.hid (HT.out.below B1.out)
  clear hb
  go_wp2_with fail
  refine (generation_any g n _ M1.out T1.out).mono ?_
  rw [R]
  rintro e w2 ⟨rfl, hb⟩
  have B2 := Lib.hid (B1.out.trans (hb.mono B1.out.size))
  have M2 := Lib.hid (HM.out.below B2.out)
  have T2 := Lib.hid (HT.out.below B2.out)
  clear hb
  unfold genE
  go_wp2_with fail
  refine (generation_any g m _ M2.out T2.out).mono ?_
  rw [R]
  rintro e w3 ⟨rfl, hb⟩
  have B3 := Lib.hid (B2.out.trans (hb.mono B2.out.size))
  have M3 := Lib.hid (HM.out.below B3.out)
  have T3 := Lib.hid (HT.out.below B3.out)
  clear hb
  unfold genE
  go_wp2_with fail
  refine (isGroup_any g _ M3.out).mono ?_
  rw [hg]
  rintro e w4 ⟨rfl, hb⟩
  have B4 := Lib.hid (B3.out.trans (hb.mono B3.out.size))
  have M4 := Lib.hid (HM.out.below B4.out)
  clear hb
  go_wp2_with fail
  go_ret
  exact ⟨rfl, B4.out⟩
theorem gens_low (g : ByteArray) (n m : Int) (w : World) (hm : MaxLen w) (ht : Tab w) (hz : g.size ≤ 31) (hg : groupB g = true) (hc : n < 1) :
    Calls Tryd.prog 8 #[.string g, .int .i64 n, .int .i64 m] w fun e w' => e = .returned (.bool true) ∧ Below w.heap.size w w' := by
  have HM := Lib.hid hm
  have HT := Lib.hid ht
  clear hm ht
  have hz' : decide ((31 : Int) < (g.size : Int)) = false := by simp; omega
  have h1 : decide (n < 1) = true := by simpa using hc
  have R : genV g n = (⟨#[]⟩, 2) := by unfold genV; rw [hg, if_pos rfl, if_pos (by omega)]
  obtain ⟨b, f, R2⟩ : ∃ b f, genV g m = (b, f) := ⟨_, _, rfl⟩
  clear hc
  go_enter Tryd.func8, Tryd.ntmps8
  go_wp2_with fail
  refine (awake_true _ HM.out HT.out).mono ?_
  rintro e w1 ⟨rfl, hb⟩
  have B1 := Lib.hid hb
  have M1 := Lib.hid (HM.out.below B1.out)
  have T1 := Lib.hid (HT.out.below B1.out)
  clear hb
  go_wp2_with fail
  refine (generation_any g n _ M1.out T1.out).mono ?_
  rw [R]
  rintro e w2 ⟨rfl, hb⟩
  have B2 := Lib.hid (B1.out.trans (hb.mono B1.out.size))
  have M2 := Lib.hid (HM.out.below B2.out)
  have T2 := Lib.hid (HT.out.below B2.out)
  clear hb
  unfold genE
  go_wp2_with fail
  refine (generation_any g m _ M2.out T2.out).mono ?_
  rw [R2]
  rintro e w3 ⟨rfl, hb⟩
  have B3 := Lib.hid (B2.out.trans (hb.mono B2.out.size))
  have M3 := Lib.hid (HM.out.below B3.out)
  have T3 := Lib.hid (HT.out.below B3.out)
  clear hb
  unfold genE
  go_wp2_with fail
  refine (isGroup_any g _ M3.out).mono ?_
  rw [hg]
  rintro e w4 ⟨rfl, hb⟩
  have B4 := Lib.hid (B3.out.trans (hb.mono B3.out.size))
  have M4 := Lib.hid (HM.out.below B4.out)
  clear hb
  go_wp2_with fail
  go_ret
  exact ⟨rfl, B4.out⟩
theorem gens_high (g : ByteArray) (n m : Int) (w : World) (hm : MaxLen w) (ht : Tab w) (hz : g.size ≤ 31) (hg : groupB g = true) (hc : 9999 < n) :
    Calls Tryd.prog 8 #[.string g, .int .i64 n, .int .i64 m] w fun e w' => e = .returned (.bool true) ∧ Below w.heap.size w w' := by
  have HM := Lib.hid hm
  have HT := Lib.hid ht
  clear hm ht
  have hz' : decide ((31 : Int) < (g.size : Int)) = false := by simp; omega
  have h1 : decide (n < 1) = false := by simp; omega
  have h2 : decide (9999 < n) = true := by simpa using hc
  have R : genV g n = (⟨#[]⟩, 2) := by unfold genV; rw [hg, if_pos rfl, if_pos (by omega)]
  obtain ⟨b, f, R2⟩ : ∃ b f, genV g m = (b, f) := ⟨_, _, rfl⟩
  clear hc
  go_enter Tryd.func8, Tryd.ntmps8
  go_wp2_with fail
  refine (awake_true _ HM.out HT.out).mono ?_
  rintro e w1 ⟨rfl, hb⟩
  have B1 := Lib.hid hb
  have M1 := Lib.hid (HM.out.below B1.out)
  have T1 := Lib.hid (HT.out.below B1.out)
  clear hb
  go_wp2_with fail
  refine (generation_any g n _ M1.out T1.out).mono ?_
  rw [R]
  rintro e w2 ⟨rfl, hb⟩
  have B2 := Lib.hid (B1.out.trans (hb.mono B1.out.size))
  have M2 := Lib.hid (HM.out.below B2.out)
  have T2 := Lib.hid (HT.out.below B2.out)
  clear hb
  unfold genE
  go_wp2_with fail
  refine (generation_any g m _ M2.out T2.out).mono ?_
  rw [R2]
  rintro e w3 ⟨rfl, hb⟩
  have B3 := Lib.hid (B2.out.trans (hb.mono B2.out.size))
  have M3 := Lib.hid (HM.out.below B3.out)
  have T3 := Lib.hid (HT.out.below B3.out)
  clear hb
  unfold genE
  go_wp2_with fail
  refine (isGroup_any g _ M3.out).mono ?_
  rw [hg]
  rintro e w4 ⟨rfl, hb⟩
  have B4 := Lib.hid (B3.out.trans (hb.mono B3.out.size))
  have M4 := Lib.hid (HM.out.below B4.out)
  clear hb
  go_wp2_with fail
  go_ret
  exact ⟨rfl, B4.out⟩
theorem gens_low2 (g : ByteArray) (n m : Int) (w : World) (hm : MaxLen w) (ht : Tab w) (hz : g.size ≤ 31) (hg : groupB g = true) (hn1 : 1 ≤ n) (hn2 : n ≤ 9999) (hc : m < 1) :
    Calls Tryd.prog 8 #[.string g, .int .i64 n, .int .i64 m] w fun e w' => e = .returned (.bool true) ∧ Below w.heap.size w w' := by
  have HM := Lib.hid hm
  have HT := Lib.hid ht
  clear hm ht
  have hz' : decide ((31 : Int) < (g.size : Int)) = false := by simp; omega
  have h1 : decide (n < 1) = false := by simp; omega
  have h2 : decide (9999 < n) = false := by simp; omega
  have h3 : decide (m < 1) = true := by simpa using hc
  have R2 : genV g m = (⟨#[]⟩, 2) := by unfold genV; rw [hg, if_pos rfl, if_pos (by omega)]
  obtain ⟨b, R⟩ : ∃ b, genV g n = (b, 0) := ⟨genText g n.toNat, by unfold genV; rw [hg, if_pos rfl, if_neg (by omega)]⟩
  clear hc hn1 hn2
  go_enter Tryd.func8, Tryd.ntmps8
  go_wp2_with fail
  refine (awake_true _ HM.out HT.out).mono ?_
  rintro e w1 ⟨rfl, hb⟩
  have B1 := Lib.hid hb
  have M1 := Lib.hid (HM.out.below B1.out)
  have T1 := Lib.hid (HT.out.below B1.out)
  clear hb
  go_wp2_with fail
  refine (generation_any g n _ M1.out T1.out).mono ?_
  rw [R]
  rintro e w2 ⟨rfl, hb⟩
  have B2 := Lib.hid (B1.out.trans (hb.mono B1.out.size))
  have M2 := Lib.hid (HM.out.below B2.out)
  have T2 := Lib.hid (HT.out.below B2.out)
  clear hb
  unfold genE
  go_wp2_with fail
  refine (generation_any g m _ M2.out T2.out).mono ?_
  rw [R2]
  rintro e w3 ⟨rfl, hb⟩
  have B3 := Lib.hid (B2.out.trans (hb.mono B2.out.size))
  have M3 := Lib.hid (HM.out.below B3.out)
  have T3 := Lib.hid (HT.out.below B3.out)
  clear hb
  unfold genE
  go_wp2_with fail
  refine (isGroup_any g _ M3.out).mono ?_
  rw [hg]
  rintro e w4 ⟨rfl, hb⟩
  have B4 := Lib.hid (B3.out.trans (hb.mono B3.out.size))
  have M4 := Lib.hid (HM.out.below B4.out)
  clear hb
  go_wp2_with fail
  go_ret
  exact ⟨rfl, B4.out⟩
theorem gens_high2 (g : ByteArray) (n m : Int) (w : World) (hm : MaxLen w) (ht : Tab w) (hz : g.size ≤ 31) (hg : groupB g = true) (hn1 : 1 ≤ n) (hn2 : n ≤ 9999) (hc : 9999 < m) :
    Calls Tryd.prog 8 #[.string g, .int .i64 n, .int .i64 m] w fun e w' => e = .returned (.bool true) ∧ Below w.heap.size w w' := by
  have HM := Lib.hid hm
  have HT := Lib.hid ht
  clear hm ht
  have hz' : decide ((31 : Int) < (g.size : Int)) = false := by simp; omega
  have h1 : decide (n < 1) = false := by simp; omega
  have h2 : decide (9999 < n) = false := by simp; omega
  have h3 : decide (m < 1) = false := by simp; omega
  have h4 : decide (9999 < m) = true := by simpa using hc
  have R2 : genV g m = (⟨#[]⟩, 2) := by unfold genV; rw [hg, if_pos rfl, if_pos (by omega)]
  obtain ⟨b, R⟩ : ∃ b, genV g n = (b, 0) := ⟨genText g n.toNat, by unfold genV; rw [hg, if_pos rfl, if_neg (by omega)]⟩
  clear hc hn1 hn2
  go_enter Tryd.func8, Tryd.ntmps8
  go_wp2_with fail
  refine (awake_true _ HM.out HT.out).mono ?_
  rintro e w1 ⟨rfl, hb⟩
  have B1 := Lib.hid hb
  have M1 := Lib.hid (HM.out.below B1.out)
  have T1 := Lib.hid (HT.out.below B1.out)
  clear hb
  go_wp2_with fail
  refine (generation_any g n _ M1.out T1.out).mono ?_
  rw [R]
  rintro e w2 ⟨rfl, hb⟩
  have B2 := Lib.hid (B1.out.trans (hb.mono B1.out.size))
  have M2 := Lib.hid (HM.out.below B2.out)
  have T2 := Lib.hid (HT.out.below B2.out)
  clear hb
  unfold genE
  go_wp2_with fail
  refine (generation_any g m _ M2.out T2.out).mono ?_
  rw [R2]
  rintro e w3 ⟨rfl, hb⟩
  have B3 := Lib.hid (B2.out.trans (hb.mono B2.out.size))
  have M3 := Lib.hid (HM.out.below B3.out)
  have T3 := Lib.hid (HT.out.below B3.out)
  clear hb
  unfold genE
  go_wp2_with fail
  refine (isGroup_any g _ M3.out).mono ?_
  rw [hg]
  rintro e w4 ⟨rfl, hb⟩
  have B4 := Lib.hid (B3.out.trans (hb.mono B3.out.size))
  have M4 := Lib.hid (HM.out.below B4.out)
  clear hb
  go_wp2_with fail
  go_ret
  exact ⟨rfl, B4.out⟩
/-- What the walk asks of the two names. -/
structure TwoGens (g : ByteArray) (n m : Nat) (a b : ByteArray) : Prop where
  ra : genV g n = (a, 0)
  rb : genV g m = (b, 0)
  sz : a.size ≤ 31
  sp : splitV a = (g, (n : Int), true)
  va : validB a = true
  ng : groupB a = false
  mt : matchB (gpat g) a = true
set_option maxHeartbeats 2000000 in
theorem gens_main (g : ByteArray) (n m : Nat) (w : World) (hm : MaxLen w) (ht : Tab w) (a b : ByteArray) (hgz : g.size ≤ 22) (hg : groupB g = true) (h : TwoGens g n m a b) (hn1 : 1 ≤ n) (hn2 : n ≤ 9999) (lt eq : Bool) (hlt : decide (n < m) = lt) (heq : (((n : Int)) == (m : Int)) = eq) (hlt' : Op.bytesLess a.toList b.toList = lt) (heq' : (a.toList == b.toList) = eq) :
    Calls Tryd.prog 8 #[.string g, .int .i64 n, .int .i64 m] w fun e w' => e = .returned (.bool true) ∧ Below w.heap.size w w' := by
  have HM := Lib.hid hm
  have HT := Lib.hid ht
  clear hm ht
  have hz' : decide ((31 : Int) < (g.size : Int)) = false := by simp; omega
  have h1 : decide ((n : Int) < 1) = false := by simp; omega
  have h2 : decide ((9999 : Int) < n) = false := by simp; omega
  obtain ⟨R, R2, Z, SP, V, NG, MT⟩ := h
  have Z := Lib.hid Z
  clear hn1 hn2
  cases lt
  all_goals
    cases eq
    all_goals
      go_enter Tryd.func8, Tryd.ntmps8
      go_wp2_with fail
      refine (awake_true _ HM.out HT.out).mono ?_
      rintro e w1 ⟨rfl, hb⟩
      have B1 := Lib.hid hb
      have M1 := Lib.hid (HM.out.below B1.out)
      have T1 := Lib.hid (HT.out.below B1.out)
      clear hb
      go_wp2_with fail
      refine (generation_any g n _ M1.out T1.out).mono ?_
      rw [R]
      rintro e w2 ⟨rfl, hb⟩
      have B2 := Lib.hid (B1.out.trans (hb.mono B1.out.size))
      have M2 := Lib.hid (HM.out.below B2.out)
      have T2 := Lib.hid (HT.out.below B2.out)
      clear hb
      unfold genE
      go_wp2_with fail
      refine (generation_any g m _ M2.out T2.out).mono ?_
      rw [R2]
      rintro e w3 ⟨rfl, hb⟩
      have B3 := Lib.hid (B2.out.trans (hb.mono B2.out.size))
      have M3 := Lib.hid (HM.out.below B3.out)
      have T3 := Lib.hid (HT.out.below B3.out)
      clear hb
      unfold genE
      go_wp2_with fail
      refine (isGroup_any g _ M3.out).mono ?_
      rw [hg]
      rintro e w4 ⟨rfl, hb⟩
      have B4 := Lib.hid (B3.out.trans (hb.mono B3.out.size))
      have M4 := Lib.hid (HM.out.below B4.out)
      clear hb
      go_wp2_with fail
      refine (splitName_any a _ M4.out (by have := Z.out; omega)).mono ?_
      rw [SP]
      rintro e w5 ⟨rfl, hb⟩
      have B5 := Lib.hid (B4.out.trans (hb.mono B4.out.size))
      have M5 := Lib.hid (HM.out.below B5.out)
      clear hb
      unfold splitE
      go_wp2_with fail
      refine (valid_any a _ M5.out).mono ?_
      rw [V]
      rintro e w6 ⟨rfl, hb⟩
      have B6 := Lib.hid (B5.out.trans (hb.mono B5.out.size))
      have M6 := Lib.hid (HM.out.below B6.out)
      clear hb
      go_wp2_with fail
      refine (isGroup_any a _ M6.out).mono ?_
      rw [NG]
      rintro e w7 ⟨rfl, hb⟩
      have B7 := Lib.hid (B6.out.trans (hb.mono B6.out.size))
      have M7 := Lib.hid (HM.out.below B7.out)
      clear hb
      go_wp2_with fail
      refine (match_any (gpat g) a _ M7.out).mono ?_
      rw [MT]
      rintro e w8 ⟨rfl, hb⟩
      have B8 := Lib.hid (B7.out.trans (hb.mono B7.out.size))
      have M8 := Lib.hid (HM.out.below B8.out)
      clear hb
      go_wp2_with fail
      go_ret
      exact ⟨rfl, B8.out⟩
/-- The law's walk. -/
theorem gens_walk (g : ByteArray) (n m : Int) (w : World) (hm : MaxLen w) (ht : Tab w) :
    Calls Tryd.prog 8 #[.string g, .int .i64 n, .int .i64 m] w fun e w' => e = .returned (.bool true) ∧ Below w.heap.size w w' := by
  by_cases hz : 31 < g.size
  · exact gens_long g n m w hm ht hz
  have hz := Nat.le_of_not_lt hz
  cases hg : groupB g with
  | false => exact gens_nogroup g n m w hm ht hz hg
  | true =>
    by_cases h1 : n < 1
    · exact gens_low g n m w hm ht hz hg h1
    by_cases h2 : 9999 < n
    · exact gens_high g n m w hm ht hz hg h2
    by_cases h3 : m < 1
    · exact gens_low2 g n m w hm ht hz hg (by omega) (by omega) h3
    by_cases h4 : 9999 < m
    · exact gens_high2 g n m w hm ht hz hg (by omega) (by omega) h4
    obtain ⟨n, rfl⟩ : ∃ k : Nat, n = k := ⟨n.toNat, by omega⟩
    obtain ⟨m, rfl⟩ : ∃ k : Nat, m = k := ⟨m.toNat, by omega⟩
    have hn : n ≤ 9999 := by omega
    have hmm : m ≤ 9999 := by omega
    have hgz := groupB_size hg
    refine gens_main g n m w hm ht (genText g n) (genText g m) hgz hg ⟨?_, ?_, ?_, gen_split hg n (by omega) hn, gen_validB hg n, gen_nogroupB g n (by omega) hn, gen_matchB hg n⟩ (by omega) hn _ (decide (n = m)) rfl ?_ (gen_less g hn hmm) (gen_eq g hn hmm)
    · unfold genV; rw [hg, if_pos rfl, if_neg (by omega)]; rfl
    · unfold genV; rw [hg, if_pos rfl, if_neg (by omega)]; rfl
    · rw [genText_size]; omega
    · rw [Bool.eq_iff_iff, beq_iff_eq, decide_eq_true_eq]; omega
end Go.Proofs.YtkoaeldlflncpaaDoor
