/-
  The contract of Generation.
-/
import Derived.Test.YtkoaeldlflncpaaDoorDigits
import Derived.Lib.LaidTab
namespace Go.Proofs.YtkoaeldlflncpaaDoor
open Go.RowKit Go.PlainAid

/-- The library's table of powers of ten stands as its initialiser lays it. -/
def Tab (w : World) : Prop := Lib.TabIs Tryd.prog w "internal/strconv.uint64pow10" .u64 Lib.pow10Tab
theorem Tab.below {w w' : World} (h : Tab w) (hb : Below w.heap.size w w') : Tab w' := by
  unfold Tab Lib.TabIs World.var? at h ⊢
  cases hg : Tryd.prog.globalNamed "internal/strconv.uint64pow10" with
  | none => rw [hg] at h; simp at h
  | some g =>
    rw [hg] at h
    simp only [Option.bind_some] at h ⊢
    have hlt : g < w.heap.size := by
      by_cases k : g < w.heap.size
      · exact k
      · rw [Array.getElem?_eq_none (by omega)] at h; simp at h
    rw [hb.block g hlt]; exact h
theorem below_grow (w : World) (k : Nat) (os : Array Obj) : Below w.heap.size w (Go.Sort.grow (w.drewN k) os) :=
  ⟨rfl, rfl, rfl, by simp, fun i hi => by rw [Go.Sort.heap_grow_old _ _ (by simpa using hi)]; rfl⟩
theorem itoa_any (n : Nat) (hn : n ≤ 9999) (w : World) (ht : Tab w) :
    Calls Tryd.prog 60 #[.int .i64 n] w fun e w' => e = .returned (.string ⟨(Lib.itoa n).toArray⟩) ∧ Below w.heap.size w w' :=
  (Tryd.strconv_Itoa n (by omega) (by omega) w ht).mono fun _ _ ⟨he, k, os, hw⟩ => ⟨he, by rw [hw]; exact below_grow w k os⟩
/-- The digits of a number below 10000, and as many zeros as four digits want. -/
theorem itoa_pad (n : Nat) (hn : n ≤ 9999) : ∃ k, k ≤ 3 ∧ (Lib.itoa (n : Int)).length = 4 - k ∧ Lib.repeatL [48] k ++ Lib.itoa (n : Int) = digs n 4 := by
  have z : (48 : UInt8) = UInt8.ofNat (48 + 0) := rfl
  by_cases h3 : 1000 ≤ n
  · refine ⟨0, by omega, ?_, ?_⟩
    all_goals rw [Lib.itoa_nonneg, Lib.decDigits, dif_neg (by omega), Lib.decDigits, dif_neg (by omega), Lib.decDigits, dif_neg (by omega), Lib.decDigits_one (by omega)]
    · rfl
    · have e1 : n / 10 / 10 / 10 = n / 10 ^ 3 % 10 := by omega
      have e2 : n / 10 / 10 % 10 = n / 10 ^ 2 % 10 := by omega
      have e3 : n / 10 % 10 = n / 10 ^ 1 % 10 := by omega
      have e4 : n % 10 = n / 10 ^ 0 % 10 := by omega
      simp only [digs]
      rw [e1, e2, e3, ← e4]; rfl
  by_cases h2 : 100 ≤ n
  · refine ⟨1, by omega, ?_, ?_⟩
    all_goals rw [Lib.itoa_nonneg, Lib.decDigits, dif_neg (by omega), Lib.decDigits, dif_neg (by omega), Lib.decDigits_one (by omega)]
    · rfl
    · have e1 : n / 10 ^ 3 % 10 = 0 := by omega
      have e2 : n / 10 / 10 = n / 10 ^ 2 % 10 := by omega
      have e3 : n / 10 % 10 = n / 10 ^ 1 % 10 := by omega
      have e4 : n % 10 = n / 10 ^ 0 % 10 := by omega
      simp only [digs]
      rw [e1, e2, e3, ← e4]; rfl
  by_cases h1 : 10 ≤ n
  · refine ⟨2, by omega, ?_, ?_⟩
    all_goals rw [Lib.itoa_nonneg, Lib.decDigits, dif_neg (by omega), Lib.decDigits_one (by omega)]
    · rfl
    · have e1 : n / 10 ^ 3 % 10 = 0 := by omega
      have e2 : n / 10 ^ 2 % 10 = 0 := by omega
      have e3 : n / 10 = n / 10 ^ 1 % 10 := by omega
      have e4 : n % 10 = n / 10 ^ 0 % 10 := by omega
      simp only [digs]
      rw [e1, e2, ← e3, ← e4]; rfl
  · refine ⟨3, by omega, ?_, ?_⟩
    all_goals rw [Lib.itoa_nonneg, Lib.decDigits_one (by omega)]
    · rfl
    · have e1 : n / 10 ^ 3 % 10 = 0 := by omega
      have e2 : n / 10 ^ 2 % 10 = 0 := by omega
      have e3 : n / 10 ^ 1 % 10 = 0 := by omega
      have e4 : n = n / 10 ^ 0 % 10 := by omega
      simp only [digs]
      rw [e1, e2, e3, ← e4]; rfl
/-- The name of a generation. -/
def genText (g : ByteArray) (n : Nat) : ByteArray := ofL (bs g ++ [46, 71] ++ digs n 4 ++ [86, 48, 48])
/-- What Generation answers. -/
def genV (g : ByteArray) (n : Int) : ByteArray × Int := if groupB g then if n < 1 ∨ 9999 < n then (⟨#[]⟩, 2) else (genText g n.toNat, 0) else (⟨#[]⟩, 1)
def genE (v : ByteArray × Int) : Ending := .returned (.tuple #[.string v.1, .int .i64 v.2])
theorem groupB_size {s : ByteArray} (h : groupB s = true) : s.size ≤ 22 := by
  unfold groupB at h; simp at h; omega
set_option maxHeartbeats 1000000 in
theorem generation_any (g : ByteArray) (n : Int) (w : World) (hm : MaxLen w) (ht : Tab w) : Calls Tryd.prog 22 #[.string g, .int .i64 n] w fun e w' => e = genE (genV g n) ∧ Below w.heap.size w w' := by
  have HM := Lib.hid hm
  have HT := Lib.hid ht
  clear hm ht
  cases hg : groupB g with
  | false =>
    have R : genV g n = (⟨#[]⟩, 1) := by simp [genV, hg]
    go_enter Tryd.func22, Tryd.ntmps22
    go_wp2_with (go_at_call 23; refine (isGroup_any g _ HM.out).mono ?_; rw [hg]; rintro e w' ⟨rfl, hb⟩)
    go_ret2
    exact ⟨by rw [R]; rfl, hb⟩
  | true =>
    by_cases h1 : n < 1
    · have R : genV g n = (⟨#[]⟩, 2) := by simp [genV, hg, h1]
      go_enter Tryd.func22, Tryd.ntmps22
      go_wp2_with (go_at_call 23; refine (isGroup_any g _ HM.out).mono ?_; rw [hg]; rintro e w' ⟨rfl, hb⟩)
      go_ret2
      exact ⟨by rw [R]; rfl, hb⟩
    by_cases h2 : 9999 < n
    · have R : genV g n = (⟨#[]⟩, 2) := by simp [genV, hg, h2]
      have h1' : decide (n < 1) = false := by simpa using h1
      go_enter Tryd.func22, Tryd.ntmps22
      go_wp2_with (go_at_call 23; refine (isGroup_any g _ HM.out).mono ?_; rw [hg]; rintro e w' ⟨rfl, hb⟩)
      go_ret2
      exact ⟨by rw [R]; rfl, hb⟩
    obtain ⟨k, rfl⟩ : ∃ k : Nat, n = k := ⟨n.toNat, by omega⟩
    have R : genV g k = (genText g k, 0) := by simp [genV, hg, h1, h2]
    have h1' : decide ((k : Int) < 1) = false := by simpa using h1
    have h2' : decide ((9999 : Int) < k) = false := by simpa using h2
    have hgz := groupB_size hg
    obtain ⟨z, hz, hl, hp⟩ := itoa_pad k (by omega)
    have IT := fun w ht => itoa_any k (by omega) w ht
    obtain ⟨t, htt⟩ : ∃ t : ByteArray, t = ⟨(Lib.itoa (k : Int)).toArray⟩ := ⟨_, rfl⟩
    have htz : t.size = 4 - z := by rw [htt, ← hl]; simp [ByteArray.size]
    have htl : bs t = Lib.itoa (k : Int) := by rw [htt]
    rw [← htt] at IT
    rw [← htl] at hp
    have IT := Lib.hid IT
    have HP := Lib.hid hp
    have RP := fun w => Tryd.strings_Repeat ⟨#[48]⟩ z w (by omega) (by show 1 * z ≤ _; omega)
    obtain ⟨zs, hzs⟩ : ∃ zs : ByteArray, zs = ⟨(Lib.repeatL [48] z).toArray⟩ := ⟨_, rfl⟩
    have hzsz : zs.size = z := by
      have : ∀ z, (Lib.repeatL [48] z).length = z := fun z => by
        induction z with
        | zero => rfl
        | succ z ih => simp [Lib.repeatL, ih]
      rw [hzs]; simp [ByteArray.size, this]
    have hzs3 : zs.size ≤ 3 := by omega
    have HZ := Lib.hid hzs
    have RP : ∀ w, Calls Tryd.prog 61 #[.string ⟨#[48]⟩, .int .i64 z] w fun e w' => e = .returned (.string zs) ∧ Below w.heap.size w w' := fun w => by rw [hzs]; exact RP w
    have RP := Lib.hid RP
    clear hzs hzsz
    clear hp htl htt hl h1 h2
    have hzz : (4 : Int) - (t.size : Int) = z := by omega
    have htz4 : t.size ≤ 4 := by omega
    clear htz
    go_enter Tryd.func22, Tryd.ntmps22
    go_wp2_with fail
    refine (isGroup_any g _ HM.out).mono ?_
    rw [hg]
    rintro e w1 ⟨rfl, hb1⟩
    have T1 := Lib.hid (HT.out.below hb1)
    go_wp2_with fail
    refine (IT.out _ T1.out).mono ?_
    rintro e w2 ⟨rfl, hb2⟩
    go_wp2_with fail
    refine (RP.out _).mono ?_
    rintro e w3 ⟨rfl, hb3⟩
    go_wp2_with fail
    go_ret2
    refine ⟨?_, (hb1.trans (hb2.mono hb1.size)).trans (hb3.mono (Nat.le_trans hb1.size hb2.size))⟩
    rw [R]
    have : g ++ ⟨#[46, 71]⟩ ++ zs ++ t ++ ⟨#[86, 48, 48]⟩ = genText g k := by
      apply ByteArray.ext
      rw [genText, ← HP.out, HZ.out]
      simp
    rw [← this]
    rfl
end Go.Proofs.YtkoaeldlflncpaaDoor
