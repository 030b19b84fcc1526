/-
  The contract of the reference's partMatch: a qualifier against one with stars, row by row.
-/
import Derived.Test.YtkoaeldlflncpaaDoorRows2
import Derived.Test.YtkoaeldlflncpaaDoorMatch
import Derived.Test.YtkoaeldlflncpaaDoorHeld
import Derived.StillTailTactics
import Derived.Deep.QuietTactic
import Derived.BigQuiet
namespace Go.Proofs.YtkoaeldlflncpaaDoor
open Go.RowKit Go.PlainAid

theorem row_next {g q : Nat → Bool} {k : Nat} {v : Bool} (hg : ∀ j, j < k → g j = q j) (hv : v = q k) : ∀ j, j < k + 1 → (if j = k then v else g j) = q j := fun j hj => by
  by_cases e : j = k
  · subst e; rw [if_pos rfl]; exact hv
  · rw [if_neg e]; exact hg j (by omega)
structure HeldB (w : World) (B o : Nat) (b : Bool) : Prop where
  c : w.cell? ⟨B, o, none⟩ = some (.bool b)
theorem HeldB.drew {w : World} {B o : Nat} {b : Bool} (h : HeldB w B o b) : HeldB w.drew B o b := ⟨h.c⟩
theorem HeldB.put {w : World} {B o C j : Nat} {b : Bool} (h : HeldB w B o b) (hC : B ≠ C) (v : Value) : HeldB (w.setCell ⟨C, j, none⟩ v) B o b :=
  ⟨by rw [World.cell?_setCell_other _ _ _ _ (by intro q; have := congrArg Addr.block q; simp only at this; omega)]; exact h.c⟩
theorem byte_eq {p s : ByteArray} {i k : Nat} {a b : UInt8} (ha : (bs p)[i]? = some a) (hb : (bs s)[k]? = some b) : (bt p i == bt s k) = (a == b) := by
  obtain ⟨_, e1⟩ := bs_get ha
  obtain ⟨_, e2⟩ := bs_get hb
  rw [e1, e2, Bool.eq_iff_iff, beq_iff_eq, beq_iff_eq]
  constructor
  · intro h; exact UInt8.toNat_inj.1 (by omega)
  · rintro rfl; rfl
theorem star_eq {p : ByteArray} {i : Nat} {a : UInt8} (ha : (bs p)[i]? = some a) : (bt p i == 42) = star8 a := by
  obtain ⟨_, e1⟩ := bs_get ha
  rw [e1]
  unfold star8
  rw [Bool.eq_iff_iff, beq_iff_eq, beq_iff_eq]
  have e42 : (42 : UInt8).toNat = 42 := rfl
  constructor
  · intro h; exact UInt8.toNat_inj.1 (by omega)
  · rintro rfl; rfl
set_option maxRecDepth 100000 in
set_option maxHeartbeats 8000000 in
theorem partMatch_any (p s : ByteArray) (w : World) (hp : p.size ≤ 100) (hs : s.size ≤ 100) : Calls Tryd.prog 54 #[.string p, .string s] w fun e w' => e = .returned (.bool (partB p s)) ∧ Below w.heap.size w w' := by
  obtain ⟨i0, hi, hz0, hz1, hz2⟩ := info_parts info4
  have I := Lib.hid hi
  have Z0 := Lib.hid hz0
  have Z1 := Lib.hid hz1
  have Z2 := Lib.hid hz2
  clear hi hz0 hz1 hz2
  obtain ⟨n, hn⟩ : ∃ n, s.size = n := ⟨_, rfl⟩
  obtain ⟨P, hP⟩ : ∃ P, p.size = P := ⟨_, rfl⟩
  rw [hn] at hs
  rw [hP] at hp
  have HN := Lib.hid hn
  have HP := Lib.hid hP
  obtain ⟨M, hM⟩ : ∃ M, n + 1 = M := ⟨_, rfl⟩
  have hMi : (s.size : Int) + 1 = (M : Int) := by omega
  have hwM : IntKind.i64.wrap ((s.size : Int) + 1) = (M : Int) := by have := i64_lin 0 (s.size + 1) 0 (by omega); rw [← hMi]; simpa using this
  have hM0 : (0 : Int) < (M : Int) := by omega
  have h0M : 0 < M := by omega
  have hget := get_bt p
  have hget' := get_bt s
  go_enter Tryd.func54, Tryd.ntmps54
  go_wp2_with (first | (at_make; refine wpList_make_full _ rfl _ _ 61 rfl 0 4 i0 (.bool false) 1 Tryd.underlying61 I.out Z0.out Z1.out _ _ _ _ M rfl rfl (by first | rfl | omega) (by first | rfl | omega) (by rw [Z2.out]; omega) (by unfold maxLen; omega) (Nat.zero_le _) ?_) | fail)
  intro w1 hown hgrow
  have R1 := RowB.made hM hown
  have B1 := grown_below hgrow
  have hgt := R1.lt
  clear hown hgrow
  obtain ⟨F, hF⟩ : ∃ F, w.heap.size = F := ⟨_, rfl⟩
  have R2 := (R1.put (k := 0) (Nat.zero_le _) true)
  have BB0 := B1.setCell (p := ⟨w.heap.size, 0, none⟩) (Nat.le_refl _) (.bool true)
  have hc := R1.c 0 (Nat.zero_le _)
  have hz := R1.z 0
  rw [hF] at R2 BB0 hc hz ⊢
  have HF0 := Lib.hid hF
  have RR := Lib.hid R2
  have BB := Lib.hid BB0
  clear R1 R2 B1 BB0 hF
  go_wp2_with fail
  clear hc hz
  go_loopw [5, 6] (fun v x wr => ∃ i Fb : Nat, i ≤ P ∧ x = .int .i64 i ∧ v = .slice (some ⟨Fb, 0, none⟩) M M ∧ F ≤ Fb ∧ Hid (∃ f, RowB wr Fb n f ∧ ∀ k, k ≤ n → f k = pre star8 (fun a b => a == b) (bs p) (bs s) i k) ∧ Hid (Below F w wr)) (fun _ x _ => P - (intOf x).toNat)
  case atStart =>
    refine ⟨0, F, by omega, rfl, rfl, Nat.le_refl _, Lib.hid ⟨_, RR.out, fun k hk => ?_⟩, BB⟩
    rw [pre_zero (by rw [bs_length, HN.out]; exact hk)]
    by_cases e : k = 0 <;> simp [e]
  case round =>
    obtain ⟨i, Fb, hi, rfl, rfl, hFb, HR, HB⟩ := hrel
    obtain ⟨f, RF0, hf0⟩ := HR.out
    have RF := Lib.hid RF0
    have hf := Lib.hid hf0
    clear HR RF0 hf0
    by_cases hlt : i < P
    · obtain ⟨a, ha⟩ : ∃ a, (bs p)[i]? = some a := ⟨_, List.getElem?_eq_getElem (by rw [bs_length, HP.out]; exact hlt)⟩
      have HA := Lib.hid ha
      have hstar := star_eq ha
      clear ha
      cases hsv : star8 a with
      | false =>
        rw [hsv] at hstar
        have HSV := Lib.hid hsv
        go_wp2_with (first | (at_make; refine wpList_make_full _ rfl _ _ 61 rfl 0 4 i0 (.bool false) 1 Tryd.underlying61 I.out Z0.out Z1.out _ _ _ _ M rfl rfl (by first | rfl | omega) (by first | rfl | omega) (by rw [Z2.out]; omega) (by unfold maxLen; omega) (Nat.zero_le _) ?_) | fail)
        intro w2 hown hgrow
        have B2 := grown_below hgrow
        have RN0 := RowB.made hM hown
        have RF2 := Lib.hid (RF.out.below B2)
        have hgt2 := RN0.lt
        have BB2 := Lib.hid (below_made HB.out hgrow (by rw [← HF0.out]; exact HB.out.size))
        obtain ⟨Nb, hNb⟩ : ∃ Nb, wr.heap.size = Nb := ⟨_, rfl⟩
        have hne : Fb ≠ Nb := by have := RF.out.lt; omega
        have hNF : F ≤ Nb := by rw [← hNb, ← HF0.out]; exact HB.out.size
        rw [hNb] at RN0 hgt2 ⊢
        have RN := Lib.hid RN0
        clear RN0 hown hgrow B2 hNb hsv
        go_wp2_with fail
        go_loopw [8] (fun x wk => ∃ k : Nat, k ≤ M ∧ x = .int .i64 k ∧ Hid (∃ g, RowB wk Nb n g ∧ ∀ j, j < k → g j = pre star8 (fun a b => a == b) (bs p) (bs s) (i + 1) j) ∧ Hid (RowB wk Fb n f) ∧ Hid (Below F w wk)) (fun x _ => M - (intOf x).toNat)
        case atStart => exact ⟨0, by omega, rfl, Lib.hid ⟨_, RN.out, fun j hj => absurd hj (by omega)⟩, RF2, BB2⟩
        case round =>
          obtain ⟨k, hk, rfl, HG, RFk, BBk⟩ := hrel
          obtain ⟨g, RG0, hg0⟩ := HG.out
          have RG := Lib.hid RG0
          have hg := Lib.hid hg0
          clear HG RG0 hg0
          by_cases hkn : k ≤ n
          · by_cases hk0 : k = 0
            · subst hk0
              have hz := RG.out.z 0
              have hcN := RG.out.c 0 (by omega)
              have hcF := RFk.out.c 0 (by omega)
              have hf0 := hf.out 0 (by omega)
              have h0n : decide ((0 : Int) ≤ (n : Int)) = true := decide_eq_true (by omega)
              have HP0 := Lib.hid (show false = pre star8 (fun a b => a == b) (bs p) (bs s) (i + 1) 0 from (pre_one0 HA.out HSV.out).symm)
              clear hf0
              have HV := Lib.hid (HP0.out)
              go_wp2_with fail
              have H2 := Lib.hid (HeldB.mk hcF)
              refine held_start (S := fun w' => HeldB w' Fb 0 (f 0)) 23 [false, false, false, false, false, false, false, false, false, false, false, false, false, false, false, false, false, false, false, false, false, false, false] rfl rfl (by kernel_rfl) H2.out.drew (fun hS => ?_)
              refine held_take 0 53 (v := .slice (some ⟨Nb, 0, none⟩) M M) rfl rfl (by kernel_rfl) (by kernel_rfl) (by kernel_rfl) (fun _ _ _ h => h) (Or.inl ⟨by rfl, fun w h => by go_simp⟩) hS ?_
              dsimp only [List.set]
              refine held_take 1 54 (v := .int .i64 0) rfl rfl (by kernel_rfl) (by kernel_rfl) (by kernel_rfl) (fun _ _ _ h => h) (Or.inl ⟨by rfl, fun w h => by go_simp⟩) hS ?_
              dsimp only [List.set]
              refine held_take 2 55 (v := .int .i64 0) rfl rfl (by kernel_rfl) (by kernel_rfl) (by kernel_rfl) (fun _ _ _ h => h) (Or.inl ⟨by rfl, fun w h => by go_simp⟩) hS ?_
              dsimp only [List.set]
              refine held_take 3 56 (v := .bool false) rfl rfl (by kernel_rfl) (by kernel_rfl) (by kernel_rfl) (fun _ _ _ h => h) (Or.inl ⟨by rfl, fun w h => by go_simp⟩) hS ?_
              dsimp only [List.set]
              refine held_take 4 57 (v := .bool false) rfl rfl (by kernel_rfl) (by kernel_rfl) (by kernel_rfl) (fun _ _ _ h => h) (Or.inl ⟨by rfl, fun w h => by go_simp⟩) hS ?_
              dsimp only [List.set]
              refine held_take 5 58 (v := undef) rfl rfl (by kernel_rfl) (by kernel_rfl) (by kernel_rfl) (fun _ _ _ h => h) (Or.inr ⟨by rfl, rfl⟩) hS ?_
              dsimp only [List.set]
              refine held_take 6 59 (v := undef) rfl rfl (by kernel_rfl) (by kernel_rfl) (by kernel_rfl) (fun _ _ _ h => h) (Or.inr ⟨by rfl, rfl⟩) hS ?_
              dsimp only [List.set]
              refine held_take 7 60 (v := undef) rfl rfl (by kernel_rfl) (by kernel_rfl) (by kernel_rfl) (fun _ _ _ h => h) (Or.inr ⟨by rfl, rfl⟩) hS ?_
              dsimp only [List.set]
              refine held_take 8 61 (v := undef) rfl rfl (by kernel_rfl) (by kernel_rfl) (by kernel_rfl) (fun _ _ _ h => h) (Or.inr ⟨by rfl, rfl⟩) hS ?_
              dsimp only [List.set]
              refine held_take 9 62 (v := undef) rfl rfl (by kernel_rfl) (by kernel_rfl) (by kernel_rfl) (fun _ _ _ h => h) (Or.inr ⟨by rfl, rfl⟩) hS ?_
              dsimp only [List.set]
              refine held_take 10 63 (v := .bool false) rfl rfl (by kernel_rfl) (by kernel_rfl) (by kernel_rfl) (fun _ _ _ h => h) (Or.inl ⟨by rfl, fun w h => by go_simp⟩) hS ?_
              dsimp only [List.set]
              refine held_take 11 64 (v := .bool false) rfl rfl (by kernel_rfl) (by kernel_rfl) (by kernel_rfl) (fun _ _ _ h => h) (Or.inl ⟨by rfl, fun w h => by go_simp⟩) hS ?_
              dsimp only [List.set]
              refine held_take 12 65 (v := undef) rfl rfl (by kernel_rfl) (by kernel_rfl) (by kernel_rfl) (fun _ _ _ h => h) (Or.inr ⟨by rfl, rfl⟩) hS ?_
              dsimp only [List.set]
              refine held_take 13 66 (v := undef) rfl rfl (by kernel_rfl) (by kernel_rfl) (by kernel_rfl) (fun _ _ _ h => h) (Or.inr ⟨by rfl, rfl⟩) hS ?_
              dsimp only [List.set]
              refine held_take 14 67 (v := undef) rfl rfl (by kernel_rfl) (by kernel_rfl) (by kernel_rfl) (fun _ _ _ h => h) (Or.inr ⟨by rfl, rfl⟩) hS ?_
              dsimp only [List.set]
              refine held_take 15 68 (v := undef) rfl rfl (by kernel_rfl) (by kernel_rfl) (by kernel_rfl) (fun _ _ _ h => h) (Or.inr ⟨by rfl, rfl⟩) hS ?_
              dsimp only [List.set]
              refine held_take 16 69 (v := undef) rfl rfl (by kernel_rfl) (by kernel_rfl) (by kernel_rfl) (fun _ _ _ h => h) (Or.inr ⟨by rfl, rfl⟩) hS ?_
              dsimp only [List.set]
              refine held_take 17 70 (v := undef) rfl rfl (by kernel_rfl) (by kernel_rfl) (by kernel_rfl) (fun _ _ _ h => h) (Or.inr ⟨by rfl, rfl⟩) hS ?_
              dsimp only [List.set]
              refine held_take 18 71 (v := undef) rfl rfl (by kernel_rfl) (by kernel_rfl) (by kernel_rfl) (fun _ _ _ h => h) (Or.inr ⟨by rfl, rfl⟩) hS ?_
              dsimp only [List.set]
              refine held_take 19 72 (v := undef) rfl rfl (by kernel_rfl) (by kernel_rfl) (by kernel_rfl) (fun _ _ _ h => h) (Or.inr ⟨by rfl, rfl⟩) hS ?_
              dsimp only [List.set]
              refine held_take 20 73 (v := .bool false) rfl rfl (by kernel_rfl) (by kernel_rfl) (by kernel_rfl) (fun _ _ _ h => h) (Or.inl ⟨by rfl, fun w h => by go_simp⟩) hS ?_
              dsimp only [List.set]
              refine held_take 21 74 (v := .pointer (some ⟨Nb, 0, none⟩)) rfl rfl (by kernel_rfl) (by kernel_rfl) (by kernel_rfl) (fun _ _ _ h => h) (Or.inl ⟨by rfl, fun w h => by go_simp⟩) hS ?_
              dsimp only [List.set]
              have hc0 : wr.drew.cell? ⟨Nb, 0, none⟩ = some (.bool (g (0))) := hcN
              have hf0 : wr.drew.frozen? ⟨Nb, 0, none⟩ = false := hz
              refine held_ready 22 rfl (by kernel_rfl) (fun K' hK => ?_)
              go_simp
              refine hK.out _ _ (hS.put hne _) (fun hS2 => ?_)
              clear hK hc0 hf0
              refine wpAnyH_done (by kernel_rfl) ?_ _
              have RG' := Lib.hid RG.out.drew
              have RFk' := Lib.hid RFk.out.drew
              have BBk' := Lib.hid BBk.out.drew
              clear hz hcN hcF RG RFk BBk hS hS2
              have RG := RG'
              have RFk := RFk'
              have BBk := BBk'
              clear RG' RFk' BBk'
              go_wp2_with fail
              go_roundw
              case rel => exact ⟨1, by omega, by go_num, Lib.hid ⟨_, RG.out.put (by omega) false, row_next hg.out (HV.out)⟩, Lib.hid (RFk.out.other hne _), Lib.hid (BBk.out.setCell hNF _)⟩
              case measure => simp [intOf]; omega
            · obtain ⟨k, rfl⟩ : ∃ k', k = k' + 1 := ⟨k - 1, by omega⟩
              have hz := RG.out.z (k + 1)
              have hcN := RG.out.c (k + 1) (by omega)
              have hkle : decide ((k : Int) + 1 ≤ (n : Int)) = true := decide_eq_true (by omega)
              have hi0 : decide ((0 : Int) < (k : Int) + 1) = true := decide_eq_true (by omega)
              have hkM : (k : Int) + 1 < (M : Int) := by omega
              have hkM2 : (k : Int) < (M : Int) := by omega
              have hkneg : ¬ ((k : Int) + 1 < 0) := by omega
              have hkn2 : (k : Int) < (n : Int) := by omega
              have hkn3 : k < n := by omega
              have hwk : IntKind.i64.wrap (k : Int) = (k : Int) := by have := i64_lin 0 k 0 (by omega); simpa using this
              have hklt : k < (bs s).length := by rw [bs_length, HN.out]; omega
              have hcF := RFk.out.c k (by omega)
              have hfk := hf.out k (by omega)
              obtain ⟨b, hb⟩ : ∃ b, (bs s)[k]? = some b := ⟨_, List.getElem?_eq_getElem hklt⟩
              have PS := pre_one (star := star8) (one := fun a b => a == b) (ps := bs p) (qs := bs s) HA.out HSV.out hb
              have hbe := byte_eq HA.out hb
              cases hfv : f k
              · rw [hfv] at hcF
                have HP0 := Lib.hid (show false = pre star8 (fun a b => a == b) (bs p) (bs s) (i + 1) (k + 1) from by rw [PS, ← hfk, hfv, Bool.false_and])
                clear hfk PS hb hbe
                have HV := Lib.hid (HP0.out)
                go_wp2_with fail
                have H2 := Lib.hid (HeldB.mk hcF)
                refine held_start (S := fun w' => HeldB w' Fb k false) 23 [false, false, false, false, false, false, false, false, false, false, false, false, false, false, false, false, false, false, false, false, false, false, false] rfl rfl (by kernel_rfl) H2.out.drew (fun hS => ?_)
                refine held_take 0 53 (v := .slice (some ⟨Nb, 0, none⟩) M M) rfl rfl (by kernel_rfl) (by kernel_rfl) (by kernel_rfl) (fun _ _ _ h => h) (Or.inl ⟨by rfl, fun w h => by go_simp⟩) hS ?_
                dsimp only [List.set]
                refine held_take 1 54 (v := .int .i64 ((k : Int) + 1)) rfl rfl (by kernel_rfl) (by kernel_rfl) (by kernel_rfl) (fun _ _ _ h => h) (Or.inl ⟨by rfl, fun w h => by go_simp⟩) hS ?_
                dsimp only [List.set]
                refine held_take 2 55 (v := .int .i64 ((k : Int) + 1)) rfl rfl (by kernel_rfl) (by kernel_rfl) (by kernel_rfl) (fun _ _ _ h => h) (Or.inl ⟨by rfl, fun w h => by go_simp⟩) hS ?_
                dsimp only [List.set]
                refine held_take 3 56 (v := .bool true) rfl rfl (by kernel_rfl) (by kernel_rfl) (by kernel_rfl) (fun _ _ _ h => h) (Or.inl ⟨by rfl, fun w h => by go_simp⟩) hS ?_
                dsimp only [List.set]
                refine held_take 4 57 (v := .bool true) rfl rfl (by kernel_rfl) (by kernel_rfl) (by kernel_rfl) (fun _ _ _ h => h) (Or.inl ⟨by rfl, fun w h => by go_simp⟩) hS ?_
                dsimp only [List.set]
                refine held_take 5 58 (v := .slice (some ⟨Fb, 0, none⟩) M M) rfl rfl (by kernel_rfl) (by kernel_rfl) (by kernel_rfl) (fun _ _ _ h => h) (Or.inl ⟨by rfl, fun w h => by go_simp⟩) hS ?_
                dsimp only [List.set]
                refine held_take 6 59 (v := .int .i64 ((k : Int) + 1)) rfl rfl (by kernel_rfl) (by kernel_rfl) (by kernel_rfl) (fun _ _ _ h => h) (Or.inl ⟨by rfl, fun w h => by go_simp⟩) hS ?_
                dsimp only [List.set]
                refine held_take 7 60 (v := .int .i64 (k : Int)) rfl rfl (by kernel_rfl) (by kernel_rfl) (by kernel_rfl) (fun _ _ _ h => h) (Or.inl ⟨by rfl, fun w h => by go_simp⟩) hS ?_
                dsimp only [List.set]
                refine held_take 8 61 (v := .pointer (some ⟨Fb, k, none⟩)) rfl rfl (by kernel_rfl) (by kernel_rfl) (by kernel_rfl) (fun _ _ _ h => h) (Or.inl ⟨by rfl, fun w h => by go_simp⟩) hS ?_
                dsimp only [List.set]
                refine held_take 9 62 (v := .bool false) rfl rfl (by kernel_rfl) (by kernel_rfl) (by kernel_rfl) (fun _ _ _ h => h) (Or.inl ⟨by rfl, fun w h => by have hq := h.c; go_simp⟩) hS ?_
                dsimp only [List.set]
                refine held_take 10 63 (v := .bool false) rfl rfl (by kernel_rfl) (by kernel_rfl) (by kernel_rfl) (fun _ _ _ h => h) (Or.inl ⟨by rfl, fun w h => by go_simp⟩) hS ?_
                dsimp only [List.set]
                refine held_take 11 64 (v := .bool false) rfl rfl (by kernel_rfl) (by kernel_rfl) (by kernel_rfl) (fun _ _ _ h => h) (Or.inl ⟨by rfl, fun w h => by go_simp⟩) hS ?_
                dsimp only [List.set]
                refine held_take 12 65 (v := undef) rfl rfl (by kernel_rfl) (by kernel_rfl) (by kernel_rfl) (fun _ _ _ h => h) (Or.inr ⟨by rfl, rfl⟩) hS ?_
                dsimp only [List.set]
                refine held_take 13 66 (v := undef) rfl rfl (by kernel_rfl) (by kernel_rfl) (by kernel_rfl) (fun _ _ _ h => h) (Or.inr ⟨by rfl, rfl⟩) hS ?_
                dsimp only [List.set]
                refine held_take 14 67 (v := undef) rfl rfl (by kernel_rfl) (by kernel_rfl) (by kernel_rfl) (fun _ _ _ h => h) (Or.inr ⟨by rfl, rfl⟩) hS ?_
                dsimp only [List.set]
                refine held_take 15 68 (v := undef) rfl rfl (by kernel_rfl) (by kernel_rfl) (by kernel_rfl) (fun _ _ _ h => h) (Or.inr ⟨by rfl, rfl⟩) hS ?_
                dsimp only [List.set]
                refine held_take 16 69 (v := undef) rfl rfl (by kernel_rfl) (by kernel_rfl) (by kernel_rfl) (fun _ _ _ h => h) (Or.inr ⟨by rfl, rfl⟩) hS ?_
                dsimp only [List.set]
                refine held_take 17 70 (v := undef) rfl rfl (by kernel_rfl) (by kernel_rfl) (by kernel_rfl) (fun _ _ _ h => h) (Or.inr ⟨by rfl, rfl⟩) hS ?_
                dsimp only [List.set]
                refine held_take 18 71 (v := undef) rfl rfl (by kernel_rfl) (by kernel_rfl) (by kernel_rfl) (fun _ _ _ h => h) (Or.inr ⟨by rfl, rfl⟩) hS ?_
                dsimp only [List.set]
                refine held_take 19 72 (v := undef) rfl rfl (by kernel_rfl) (by kernel_rfl) (by kernel_rfl) (fun _ _ _ h => h) (Or.inr ⟨by rfl, rfl⟩) hS ?_
                dsimp only [List.set]
                refine held_take 20 73 (v := .bool false) rfl rfl (by kernel_rfl) (by kernel_rfl) (by kernel_rfl) (fun _ _ _ h => h) (Or.inl ⟨by rfl, fun w h => by go_simp⟩) hS ?_
                dsimp only [List.set]
                refine held_take 21 74 (v := .pointer (some ⟨Nb, k + 1, none⟩)) rfl rfl (by kernel_rfl) (by kernel_rfl) (by kernel_rfl) (fun _ _ _ h => h) (Or.inl ⟨by rfl, fun w h => by go_simp⟩) hS ?_
                dsimp only [List.set]
                have hc0 : wr.drew.cell? ⟨Nb, k + 1, none⟩ = some (.bool (g (k + 1))) := hcN
                have hf0 : wr.drew.frozen? ⟨Nb, k + 1, none⟩ = false := hz
                refine held_ready 22 rfl (by kernel_rfl) (fun K' hK => ?_)
                go_simp
                refine hK.out _ _ (hS.put hne _) (fun hS2 => ?_)
                clear hK hc0 hf0
                refine wpAnyH_done (by kernel_rfl) ?_ _
                have RG' := Lib.hid RG.out.drew
                have RFk' := Lib.hid RFk.out.drew
                have BBk' := Lib.hid BBk.out.drew
                clear hz hcN hcF RG RFk BBk hS hS2
                have RG := RG'
                have RFk := RFk'
                have BBk := BBk'
                clear RG' RFk' BBk'
                go_wp2_with fail
                go_roundw
                case rel => exact ⟨k + 1 + 1, by omega, by go_num, Lib.hid ⟨_, RG.out.put (by omega) false, row_next hg.out (HV.out)⟩, Lib.hid (RFk.out.other hne _), Lib.hid (BBk.out.setCell hNF _)⟩
                case measure => simp [intOf]; omega
              · rw [hfv] at hcF
                cases hab : (a == b)
                · rw [hab] at hbe
                  have HP0 := Lib.hid (show false = pre star8 (fun a b => a == b) (bs p) (bs s) (i + 1) (k + 1) from by rw [PS, ← hfk, hfv, hab, Bool.true_and])
                  clear hfk PS hb hab
                  have HV := Lib.hid (HP0.out)
                  go_wp2_with fail
                  have H2 := Lib.hid (HeldB.mk hcF)
                  refine held_start (S := fun w' => HeldB w' Fb k true) 23 [false, false, false, false, false, false, false, false, false, false, false, false, false, false, false, false, false, false, false, false, false, false, false] rfl rfl (by kernel_rfl) H2.out.drew (fun hS => ?_)
                  refine held_take 0 53 (v := .slice (some ⟨Nb, 0, none⟩) M M) rfl rfl (by kernel_rfl) (by kernel_rfl) (by kernel_rfl) (fun _ _ _ h => h) (Or.inl ⟨by rfl, fun w h => by go_simp⟩) hS ?_
                  dsimp only [List.set]
                  refine held_take 1 54 (v := .int .i64 ((k : Int) + 1)) rfl rfl (by kernel_rfl) (by kernel_rfl) (by kernel_rfl) (fun _ _ _ h => h) (Or.inl ⟨by rfl, fun w h => by go_simp⟩) hS ?_
                  dsimp only [List.set]
                  refine held_take 2 55 (v := .int .i64 ((k : Int) + 1)) rfl rfl (by kernel_rfl) (by kernel_rfl) (by kernel_rfl) (fun _ _ _ h => h) (Or.inl ⟨by rfl, fun w h => by go_simp⟩) hS ?_
                  dsimp only [List.set]
                  refine held_take 3 56 (v := .bool true) rfl rfl (by kernel_rfl) (by kernel_rfl) (by kernel_rfl) (fun _ _ _ h => h) (Or.inl ⟨by rfl, fun w h => by go_simp⟩) hS ?_
                  dsimp only [List.set]
                  refine held_take 4 57 (v := .bool true) rfl rfl (by kernel_rfl) (by kernel_rfl) (by kernel_rfl) (fun _ _ _ h => h) (Or.inl ⟨by rfl, fun w h => by go_simp⟩) hS ?_
                  dsimp only [List.set]
                  refine held_take 5 58 (v := .slice (some ⟨Fb, 0, none⟩) M M) rfl rfl (by kernel_rfl) (by kernel_rfl) (by kernel_rfl) (fun _ _ _ h => h) (Or.inl ⟨by rfl, fun w h => by go_simp⟩) hS ?_
                  dsimp only [List.set]
                  refine held_take 6 59 (v := .int .i64 ((k : Int) + 1)) rfl rfl (by kernel_rfl) (by kernel_rfl) (by kernel_rfl) (fun _ _ _ h => h) (Or.inl ⟨by rfl, fun w h => by go_simp⟩) hS ?_
                  dsimp only [List.set]
                  refine held_take 7 60 (v := .int .i64 (k : Int)) rfl rfl (by kernel_rfl) (by kernel_rfl) (by kernel_rfl) (fun _ _ _ h => h) (Or.inl ⟨by rfl, fun w h => by go_simp⟩) hS ?_
                  dsimp only [List.set]
                  refine held_take 8 61 (v := .pointer (some ⟨Fb, k, none⟩)) rfl rfl (by kernel_rfl) (by kernel_rfl) (by kernel_rfl) (fun _ _ _ h => h) (Or.inl ⟨by rfl, fun w h => by go_simp⟩) hS ?_
                  dsimp only [List.set]
                  refine held_take 9 62 (v := .bool true) rfl rfl (by kernel_rfl) (by kernel_rfl) (by kernel_rfl) (fun _ _ _ h => h) (Or.inl ⟨by rfl, fun w h => by have hq := h.c; go_simp⟩) hS ?_
                  dsimp only [List.set]
                  refine held_take 10 63 (v := .bool true) rfl rfl (by kernel_rfl) (by kernel_rfl) (by kernel_rfl) (fun _ _ _ h => h) (Or.inl ⟨by rfl, fun w h => by go_simp⟩) hS ?_
                  dsimp only [List.set]
                  refine held_take 11 64 (v := .bool true) rfl rfl (by kernel_rfl) (by kernel_rfl) (by kernel_rfl) (fun _ _ _ h => h) (Or.inl ⟨by rfl, fun w h => by go_simp⟩) hS ?_
                  dsimp only [List.set]
                  refine held_take 12 65 (v := .string p) rfl rfl (by kernel_rfl) (by kernel_rfl) (by kernel_rfl) (fun _ _ _ h => h) (Or.inl ⟨by rfl, fun w h => by go_simp⟩) hS ?_
                  dsimp only [List.set]
                  refine held_take 13 66 (v := .int .i64 (i : Int)) rfl rfl (by kernel_rfl) (by kernel_rfl) (by kernel_rfl) (fun _ _ _ h => h) (Or.inl ⟨by rfl, fun w h => by go_simp⟩) hS ?_
                  dsimp only [List.set]
                  refine held_take 14 67 (v := .int .u8 (bt p i)) rfl rfl (by kernel_rfl) (by kernel_rfl) (by kernel_rfl) (fun _ _ _ h => h) (Or.inl ⟨by rfl, fun w h => by go_simp⟩) hS ?_
                  dsimp only [List.set]
                  refine held_take 15 68 (v := .string s) rfl rfl (by kernel_rfl) (by kernel_rfl) (by kernel_rfl) (fun _ _ _ h => h) (Or.inl ⟨by rfl, fun w h => by go_simp⟩) hS ?_
                  dsimp only [List.set]
                  refine held_take 16 69 (v := .int .i64 ((k : Int) + 1)) rfl rfl (by kernel_rfl) (by kernel_rfl) (by kernel_rfl) (fun _ _ _ h => h) (Or.inl ⟨by rfl, fun w h => by go_simp⟩) hS ?_
                  dsimp only [List.set]
                  refine held_take 17 70 (v := .int .i64 (k : Int)) rfl rfl (by kernel_rfl) (by kernel_rfl) (by kernel_rfl) (fun _ _ _ h => h) (Or.inl ⟨by rfl, fun w h => by go_simp⟩) hS ?_
                  dsimp only [List.set]
                  refine held_take 18 71 (v := .int .u8 (bt s k)) rfl rfl (by kernel_rfl) (by kernel_rfl) (by kernel_rfl) (fun _ _ _ h => h) (Or.inl ⟨by rfl, fun w h => by go_simp⟩) hS ?_
                  dsimp only [List.set]
                  refine held_take 19 72 (v := .bool false) rfl rfl (by kernel_rfl) (by kernel_rfl) (by kernel_rfl) (fun _ _ _ h => h) (Or.inl ⟨by rfl, fun w h => by go_simp⟩) hS ?_
                  dsimp only [List.set]
                  refine held_take 20 73 (v := .bool false) rfl rfl (by kernel_rfl) (by kernel_rfl) (by kernel_rfl) (fun _ _ _ h => h) (Or.inl ⟨by rfl, fun w h => by go_simp⟩) hS ?_
                  dsimp only [List.set]
                  refine held_take 21 74 (v := .pointer (some ⟨Nb, k + 1, none⟩)) rfl rfl (by kernel_rfl) (by kernel_rfl) (by kernel_rfl) (fun _ _ _ h => h) (Or.inl ⟨by rfl, fun w h => by go_simp⟩) hS ?_
                  dsimp only [List.set]
                  have hc0 : wr.drew.cell? ⟨Nb, k + 1, none⟩ = some (.bool (g (k + 1))) := hcN
                  have hf0 : wr.drew.frozen? ⟨Nb, k + 1, none⟩ = false := hz
                  refine held_ready 22 rfl (by kernel_rfl) (fun K' hK => ?_)
                  go_simp
                  refine hK.out _ _ (hS.put hne _) (fun hS2 => ?_)
                  clear hK hc0 hf0
                  refine wpAnyH_done (by kernel_rfl) ?_ _
                  have RG' := Lib.hid RG.out.drew
                  have RFk' := Lib.hid RFk.out.drew
                  have BBk' := Lib.hid BBk.out.drew
                  clear hz hcN hcF RG RFk BBk hS hS2
                  have RG := RG'
                  have RFk := RFk'
                  have BBk := BBk'
                  clear RG' RFk' BBk'
                  go_wp2_with fail
                  go_roundw
                  case rel => exact ⟨k + 1 + 1, by omega, by go_num, Lib.hid ⟨_, RG.out.put (by omega) false, row_next hg.out (HV.out)⟩, Lib.hid (RFk.out.other hne _), Lib.hid (BBk.out.setCell hNF _)⟩
                  case measure => simp [intOf]; omega
                · rw [hab] at hbe
                  have HP0 := Lib.hid (show true = pre star8 (fun a b => a == b) (bs p) (bs s) (i + 1) (k + 1) from by rw [PS, ← hfk, hfv, hab, Bool.true_and])
                  clear hfk PS hb hab
                  have HV := Lib.hid (HP0.out)
                  go_wp2_with fail
                  have H2 := Lib.hid (HeldB.mk hcF)
                  refine held_start (S := fun w' => HeldB w' Fb k true) 23 [false, false, false, false, false, false, false, false, false, false, false, false, false, false, false, false, false, false, false, false, false, false, false] rfl rfl (by kernel_rfl) H2.out.drew (fun hS => ?_)
                  refine held_take 0 53 (v := .slice (some ⟨Nb, 0, none⟩) M M) rfl rfl (by kernel_rfl) (by kernel_rfl) (by kernel_rfl) (fun _ _ _ h => h) (Or.inl ⟨by rfl, fun w h => by go_simp⟩) hS ?_
                  dsimp only [List.set]
                  refine held_take 1 54 (v := .int .i64 ((k : Int) + 1)) rfl rfl (by kernel_rfl) (by kernel_rfl) (by kernel_rfl) (fun _ _ _ h => h) (Or.inl ⟨by rfl, fun w h => by go_simp⟩) hS ?_
                  dsimp only [List.set]
                  refine held_take 2 55 (v := .int .i64 ((k : Int) + 1)) rfl rfl (by kernel_rfl) (by kernel_rfl) (by kernel_rfl) (fun _ _ _ h => h) (Or.inl ⟨by rfl, fun w h => by go_simp⟩) hS ?_
                  dsimp only [List.set]
                  refine held_take 3 56 (v := .bool true) rfl rfl (by kernel_rfl) (by kernel_rfl) (by kernel_rfl) (fun _ _ _ h => h) (Or.inl ⟨by rfl, fun w h => by go_simp⟩) hS ?_
                  dsimp only [List.set]
                  refine held_take 4 57 (v := .bool true) rfl rfl (by kernel_rfl) (by kernel_rfl) (by kernel_rfl) (fun _ _ _ h => h) (Or.inl ⟨by rfl, fun w h => by go_simp⟩) hS ?_
                  dsimp only [List.set]
                  refine held_take 5 58 (v := .slice (some ⟨Fb, 0, none⟩) M M) rfl rfl (by kernel_rfl) (by kernel_rfl) (by kernel_rfl) (fun _ _ _ h => h) (Or.inl ⟨by rfl, fun w h => by go_simp⟩) hS ?_
                  dsimp only [List.set]
                  refine held_take 6 59 (v := .int .i64 ((k : Int) + 1)) rfl rfl (by kernel_rfl) (by kernel_rfl) (by kernel_rfl) (fun _ _ _ h => h) (Or.inl ⟨by rfl, fun w h => by go_simp⟩) hS ?_
                  dsimp only [List.set]
                  refine held_take 7 60 (v := .int .i64 (k : Int)) rfl rfl (by kernel_rfl) (by kernel_rfl) (by kernel_rfl) (fun _ _ _ h => h) (Or.inl ⟨by rfl, fun w h => by go_simp⟩) hS ?_
                  dsimp only [List.set]
                  refine held_take 8 61 (v := .pointer (some ⟨Fb, k, none⟩)) rfl rfl (by kernel_rfl) (by kernel_rfl) (by kernel_rfl) (fun _ _ _ h => h) (Or.inl ⟨by rfl, fun w h => by go_simp⟩) hS ?_
                  dsimp only [List.set]
                  refine held_take 9 62 (v := .bool true) rfl rfl (by kernel_rfl) (by kernel_rfl) (by kernel_rfl) (fun _ _ _ h => h) (Or.inl ⟨by rfl, fun w h => by have hq := h.c; go_simp⟩) hS ?_
                  dsimp only [List.set]
                  refine held_take 10 63 (v := .bool true) rfl rfl (by kernel_rfl) (by kernel_rfl) (by kernel_rfl) (fun _ _ _ h => h) (Or.inl ⟨by rfl, fun w h => by go_simp⟩) hS ?_
                  dsimp only [List.set]
                  refine held_take 11 64 (v := .bool true) rfl rfl (by kernel_rfl) (by kernel_rfl) (by kernel_rfl) (fun _ _ _ h => h) (Or.inl ⟨by rfl, fun w h => by go_simp⟩) hS ?_
                  dsimp only [List.set]
                  refine held_take 12 65 (v := .string p) rfl rfl (by kernel_rfl) (by kernel_rfl) (by kernel_rfl) (fun _ _ _ h => h) (Or.inl ⟨by rfl, fun w h => by go_simp⟩) hS ?_
                  dsimp only [List.set]
                  refine held_take 13 66 (v := .int .i64 (i : Int)) rfl rfl (by kernel_rfl) (by kernel_rfl) (by kernel_rfl) (fun _ _ _ h => h) (Or.inl ⟨by rfl, fun w h => by go_simp⟩) hS ?_
                  dsimp only [List.set]
                  refine held_take 14 67 (v := .int .u8 (bt p i)) rfl rfl (by kernel_rfl) (by kernel_rfl) (by kernel_rfl) (fun _ _ _ h => h) (Or.inl ⟨by rfl, fun w h => by go_simp⟩) hS ?_
                  dsimp only [List.set]
                  refine held_take 15 68 (v := .string s) rfl rfl (by kernel_rfl) (by kernel_rfl) (by kernel_rfl) (fun _ _ _ h => h) (Or.inl ⟨by rfl, fun w h => by go_simp⟩) hS ?_
                  dsimp only [List.set]
                  refine held_take 16 69 (v := .int .i64 ((k : Int) + 1)) rfl rfl (by kernel_rfl) (by kernel_rfl) (by kernel_rfl) (fun _ _ _ h => h) (Or.inl ⟨by rfl, fun w h => by go_simp⟩) hS ?_
                  dsimp only [List.set]
                  refine held_take 17 70 (v := .int .i64 (k : Int)) rfl rfl (by kernel_rfl) (by kernel_rfl) (by kernel_rfl) (fun _ _ _ h => h) (Or.inl ⟨by rfl, fun w h => by go_simp⟩) hS ?_
                  dsimp only [List.set]
                  refine held_take 18 71 (v := .int .u8 (bt s k)) rfl rfl (by kernel_rfl) (by kernel_rfl) (by kernel_rfl) (fun _ _ _ h => h) (Or.inl ⟨by rfl, fun w h => by go_simp⟩) hS ?_
                  dsimp only [List.set]
                  refine held_take 19 72 (v := .bool true) rfl rfl (by kernel_rfl) (by kernel_rfl) (by kernel_rfl) (fun _ _ _ h => h) (Or.inl ⟨by rfl, fun w h => by go_simp⟩) hS ?_
                  dsimp only [List.set]
                  refine held_take 20 73 (v := .bool true) rfl rfl (by kernel_rfl) (by kernel_rfl) (by kernel_rfl) (fun _ _ _ h => h) (Or.inl ⟨by rfl, fun w h => by go_simp⟩) hS ?_
                  dsimp only [List.set]
                  refine held_take 21 74 (v := .pointer (some ⟨Nb, k + 1, none⟩)) rfl rfl (by kernel_rfl) (by kernel_rfl) (by kernel_rfl) (fun _ _ _ h => h) (Or.inl ⟨by rfl, fun w h => by go_simp⟩) hS ?_
                  dsimp only [List.set]
                  have hc0 : wr.drew.cell? ⟨Nb, k + 1, none⟩ = some (.bool (g (k + 1))) := hcN
                  have hf0 : wr.drew.frozen? ⟨Nb, k + 1, none⟩ = false := hz
                  refine held_ready 22 rfl (by kernel_rfl) (fun K' hK => ?_)
                  go_simp
                  refine hK.out _ _ (hS.put hne _) (fun hS2 => ?_)
                  clear hK hc0 hf0
                  refine wpAnyH_done (by kernel_rfl) ?_ _
                  have RG' := Lib.hid RG.out.drew
                  have RFk' := Lib.hid RFk.out.drew
                  have BBk' := Lib.hid BBk.out.drew
                  clear hz hcN hcF RG RFk BBk hS hS2
                  have RG := RG'
                  have RFk := RFk'
                  have BBk := BBk'
                  clear RG' RFk' BBk'
                  go_wp2_with fail
                  go_roundw
                  case rel => exact ⟨k + 1 + 1, by omega, by go_num, Lib.hid ⟨_, RG.out.put (by omega) true, row_next hg.out (HV.out)⟩, Lib.hid (RFk.out.other hne _), Lib.hid (BBk.out.setCell hNF _)⟩
                  case measure => simp [intOf]; omega
          · obtain rfl : k = M := by omega
            have hkle : decide ((k : Int) ≤ (n : Int)) = false := decide_eq_false (by omega)
            go_wp2_with fail
            go_roundw
            case rel => exact ⟨i + 1, Nb, by omega, by go_num, rfl, hNF, Lib.hid ⟨g, RG.out, fun j hj => hg.out j (by omega)⟩, BBk⟩
            case measure => simp [intOf]; omega
      | true =>
        rw [hsv] at hstar
        have HSV := Lib.hid hsv
        go_wp2_with (first | (at_make; refine wpList_make_full _ rfl _ _ 61 rfl 0 4 i0 (.bool false) 1 Tryd.underlying61 I.out Z0.out Z1.out _ _ _ _ M rfl rfl (by first | rfl | omega) (by first | rfl | omega) (by rw [Z2.out]; omega) (by unfold maxLen; omega) (Nat.zero_le _) ?_) | fail)
        intro w2 hown hgrow
        have B2 := grown_below hgrow
        have RN0 := RowB.made hM hown
        have RF2 := Lib.hid (RF.out.below B2)
        have hgt2 := RN0.lt
        have BB2 := Lib.hid (below_made HB.out hgrow (by rw [← HF0.out]; exact HB.out.size))
        obtain ⟨Nb, hNb⟩ : ∃ Nb, wr.heap.size = Nb := ⟨_, rfl⟩
        have hne : Fb ≠ Nb := by have := RF.out.lt; omega
        have hNF : F ≤ Nb := by rw [← hNb, ← HF0.out]; exact HB.out.size
        rw [hNb] at RN0 hgt2 ⊢
        have RN := Lib.hid RN0
        clear RN0 hown hgrow B2 hNb hsv
        go_wp2_with fail
        go_loopw [8] (fun x wk => ∃ k : Nat, k ≤ M ∧ x = .int .i64 k ∧ Hid (∃ g, RowB wk Nb n g ∧ ∀ j, j < k → g j = pre star8 (fun a b => a == b) (bs p) (bs s) (i + 1) j) ∧ Hid (RowB wk Fb n f) ∧ Hid (Below F w wk)) (fun x _ => M - (intOf x).toNat)
        case atStart => exact ⟨0, by omega, rfl, Lib.hid ⟨_, RN.out, fun j hj => absurd hj (by omega)⟩, RF2, BB2⟩
        case round =>
          obtain ⟨k, hk, rfl, HG, RFk, BBk⟩ := hrel
          obtain ⟨g, RG0, hg0⟩ := HG.out
          have RG := Lib.hid RG0
          have hg := Lib.hid hg0
          clear HG RG0 hg0
          by_cases hkn : k ≤ n
          · by_cases hk0 : k = 0
            · subst hk0
              have hz := RG.out.z 0
              have hcN := RG.out.c 0 (by omega)
              have hcF := RFk.out.c 0 (by omega)
              have hf0 := hf.out 0 (by omega)
              have h0n : decide ((0 : Int) ≤ (n : Int)) = true := decide_eq_true (by omega)
              cases hfv : f 0
              · rw [hfv] at hcF
                have HP0 := Lib.hid (show false = pre star8 (fun a b => a == b) (bs p) (bs s) (i + 1) 0 from by rw [pre_star0 HA.out HSV.out, ← hf0, hfv])
                clear hf0
                have HV := Lib.hid (HP0.out)
                go_wp2_with fail
                go_roundw
                case rel => exact ⟨1, by omega, by go_num, Lib.hid ⟨_, RG.out.put (by omega) false, row_next hg.out (HV.out)⟩, Lib.hid (RFk.out.other hne _), Lib.hid (BBk.out.setCell hNF _)⟩
                case measure => simp [intOf]; omega
              · rw [hfv] at hcF
                have HP0 := Lib.hid (show true = pre star8 (fun a b => a == b) (bs p) (bs s) (i + 1) 0 from by rw [pre_star0 HA.out HSV.out, ← hf0, hfv])
                clear hf0
                have HV := Lib.hid (HP0.out)
                go_wp2_with fail
                go_roundw
                case rel => exact ⟨1, by omega, by go_num, Lib.hid ⟨_, RG.out.put (by omega) true, row_next hg.out (HV.out)⟩, Lib.hid (RFk.out.other hne _), Lib.hid (BBk.out.setCell hNF _)⟩
                case measure => simp [intOf]; omega
            · obtain ⟨k, rfl⟩ : ∃ k', k = k' + 1 := ⟨k - 1, by omega⟩
              have hz := RG.out.z (k + 1)
              have hcN := RG.out.c (k + 1) (by omega)
              have hkle : decide ((k : Int) + 1 ≤ (n : Int)) = true := decide_eq_true (by omega)
              have hi0 : decide ((0 : Int) < (k : Int) + 1) = true := decide_eq_true (by omega)
              have hkM : (k : Int) + 1 < (M : Int) := by omega
              have hkM2 : (k : Int) < (M : Int) := by omega
              have hkneg : ¬ ((k : Int) + 1 < 0) := by omega
              have hkn2 : (k : Int) < (n : Int) := by omega
              have hkn3 : k < n := by omega
              have hwk : IntKind.i64.wrap (k : Int) = (k : Int) := by have := i64_lin 0 k 0 (by omega); simpa using this
              have hklt : k < (bs s).length := by rw [bs_length, HN.out]; omega
              have hcF := RFk.out.c (k + 1) (by omega)
              have hfk := hf.out (k + 1) (by omega)
              have hcG := RG.out.c k (by omega)
              have hgk := hg.out k (by omega)
              have PS := pre_star (star := star8) (one := fun a b => a == b) (ps := bs p) (qs := bs s) HA.out HSV.out hklt
              cases hfv : f (k + 1)
              · rw [hfv] at hcF
                have HP0 := Lib.hid (show g k = pre star8 (fun a b => a == b) (bs p) (bs s) (i + 1) (k + 1) from by rw [PS, ← hfk, hfv, hgk, Bool.false_or])
                clear hfk hgk PS
                have HV := Lib.hid (HP0.out)
                go_wp2_with fail
                go_roundw
                case rel => exact ⟨k + 1 + 1, by omega, by go_num, Lib.hid ⟨_, RG.out.put (by omega) (g k), row_next hg.out (HV.out)⟩, Lib.hid (RFk.out.other hne _), Lib.hid (BBk.out.setCell hNF _)⟩
                case measure => simp [intOf]; omega
              · rw [hfv] at hcF
                have HP0 := Lib.hid (show true = pre star8 (fun a b => a == b) (bs p) (bs s) (i + 1) (k + 1) from by rw [PS, ← hfk, hfv, Bool.true_or])
                clear hfk hgk PS
                have HV := Lib.hid (HP0.out)
                go_wp2_with fail
                go_roundw
                case rel => exact ⟨k + 1 + 1, by omega, by go_num, Lib.hid ⟨_, RG.out.put (by omega) true, row_next hg.out (HV.out)⟩, Lib.hid (RFk.out.other hne _), Lib.hid (BBk.out.setCell hNF _)⟩
                case measure => simp [intOf]; omega
          · obtain rfl : k = M := by omega
            have hkle : decide ((k : Int) ≤ (n : Int)) = false := decide_eq_false (by omega)
            go_wp2_with fail
            go_roundw
            case rel => exact ⟨i + 1, Nb, by omega, by go_num, rfl, hNF, Lib.hid ⟨g, RG.out, fun j hj => hg.out j (by omega)⟩, BBk⟩
            case measure => simp [intOf]; omega
    · obtain rfl : i = P := by omega
      have hcn := RF.out.c n (Nat.le_refl _)
      rw [hf.out n (Nat.le_refl _)] at hcn
      have hpa : pre star8 (fun a b => a == b) (bs p) (bs s) i n = partB p s := by
        have := pre_all (star := star8) (one := fun a b => a == b) (ps := bs p) (qs := bs s)
        rw [bs_length, bs_length, HP.out, HN.out] at this
        exact this
      rw [hpa] at hcn
      have hnM : (n : Int) < (M : Int) := by omega
      have HB' := Lib.hid (show Below w.heap.size w wr by rw [HF0.out]; exact HB.out)
      clear hpa
      go_wp2_with fail
      go_ret
      exact ⟨rfl, HB'.out⟩
end Go.Proofs.YtkoaeldlflncpaaDoor
