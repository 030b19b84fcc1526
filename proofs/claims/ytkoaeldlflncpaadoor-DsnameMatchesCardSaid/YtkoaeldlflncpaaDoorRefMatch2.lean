/-
  The contract of the reference's Match.
-/
import Derived.Test.YtkoaeldlflncpaaDoorRefMatch1
import Derived.Test.YtkoaeldlflncpaaDoorOrder
namespace Go.Proofs.YtkoaeldlflncpaaDoor
open Go.RowKit Go.PlainAid

structure Held3 (w : World) (B o : Nat) (b : Bool) (A i : Nat) (x : ByteArray) (L k : Nat) (y : ByteArray) : Prop where
  c : w.cell? ⟨B, o, none⟩ = some (.bool b)
  cA : w.cell? ⟨A, i, none⟩ = some (.string x)
  cL : w.cell? ⟨L, k, none⟩ = some (.string y)
theorem Held3.drew {w : World} {B o : Nat} {b : Bool} {A i : Nat} {x : ByteArray} {L k : Nat} {y : ByteArray} (h : Held3 w B o b A i x L k y) : Held3 w.drew B o b A i x L k y := ⟨h.c, h.cA, h.cL⟩
theorem cell_other {w : World} {B o C j : Nat} {u : Value} (h : w.cell? ⟨B, o, none⟩ = some u) (hC : B ≠ C) (v : Value) : (w.setCell ⟨C, j, none⟩ v).cell? ⟨B, o, none⟩ = some u := by
  rw [World.cell?_setCell_other _ _ _ _ (by intro q; have := congrArg Addr.block q; simp only at this; omega)]; exact h
theorem Held3.put {w : World} {B o : Nat} {b : Bool} {A i : Nat} {x : ByteArray} {L k : Nat} {y : ByteArray} (h : Held3 w B o b A i x L k y) {C j : Nat} (h1 : B ≠ C) (h2 : A ≠ C) (h3 : L ≠ C) (v : Value) : Held3 (w.setCell ⟨C, j, none⟩ v) B o b A i x L k y :=
  ⟨cell_other h.c h1 v, cell_other h.cA h2 v, cell_other h.cL h3 v⟩
theorem Held3.below {w w' : World} {B o : Nat} {b : Bool} {A i : Nat} {x : ByteArray} {L k : Nat} {y : ByteArray} (h : Held3 w B o b A i x L k y) (hb : Below w.heap.size w w') : Held3 w' B o b A i x L k y :=
  ⟨by rw [hb.cell (World.block_lt_of_cell? _ _ h.c)]; exact h.c, by rw [hb.cell (World.block_lt_of_cell? _ _ h.cA)]; exact h.cA, by rw [hb.cell (World.block_lt_of_cell? _ _ h.cL)]; exact h.cL⟩
theorem refMatch_no1 (p s : ByteArray) (w : World) (h1 : patB p = false) : Calls Tryd.prog 18 #[.string p, .string s] w fun e w' => e = .returned (.bool (matchB p s)) ∧ Below w.heap.size w w' := by
  have R : matchB p s = false := by unfold matchB; rw [h1]; rfl
  go_enter Tryd.func18, Tryd.ntmps18
  go_wp2_with (go_at_call 29; refine (refPattern_any p _).mono ?_; rw [h1]; rintro e w' ⟨rfl, hb⟩)
  go_ret
  exact ⟨by rw [R]; rfl, hb⟩
theorem refMatch_no2 (p s : ByteArray) (w : World) (h1 : patB p = true) (h2 : validB s = false) : Calls Tryd.prog 18 #[.string p, .string s] w fun e w' => e = .returned (.bool (matchB p s)) ∧ Below w.heap.size w w' := by
  have R : matchB p s = false := by unfold matchB; rw [h2]; simp
  go_enter Tryd.func18, Tryd.ntmps18
  go_wp2_with fail
  refine (refPattern_any p _).mono ?_
  rw [h1]
  rintro e w1 ⟨rfl, hb⟩
  have B1 := Lib.hid hb
  clear hb
  go_wp2_with (go_at_call 27; refine (refValid_any s _).mono ?_; rw [h2]; rintro e w' ⟨rfl, hb⟩)
  go_ret
  exact ⟨by rw [R]; rfl, B1.out.trans (hb.mono B1.out.size)⟩
set_option maxRecDepth 100000 in
set_option maxHeartbeats 16000000 in
theorem refMatch_main (p s : ByteArray) (w : World) (h1 : patB p = true) (h2 : validB s = true) : Calls Tryd.prog 18 #[.string p, .string s] w fun e w' => e = .returned (.bool (matchB p s)) ∧ Below w.heap.size w w' := by
  obtain ⟨i0, hi, hz0, hz1, hz2⟩ := info_parts info4
  have I := Lib.hid hi
  have Z0 := Lib.hid hz0
  have Z1 := Lib.hid hz1
  have Z2 := Lib.hid hz2
  clear hi hz0 hz1 hz2
  have hpz := patB_size h1
  have hsz := (validB_size h2).2
  have HPZ := Lib.hid hpz
  have HSZ := Lib.hid hsz
  obtain ⟨n, hn⟩ : ∃ n, (parts s).length = n := ⟨_, rfl⟩
  obtain ⟨P, hP⟩ : ∃ P, (parts p).length = P := ⟨_, rfl⟩
  have hn40 : n ≤ 32 := by have := parts_few s; omega
  have hP40 : P ≤ 32 := by have := parts_few p; omega
  have PP := Lib.hid fun w => refParts_form p w (by omega)
  have PS0 := Lib.hid fun w => refParts_form s w (by omega)
  rw [hP] at PP
  rw [hn] at PS0
  have HN := Lib.hid hn
  have HP := Lib.hid hP
  clear hn hP hpz hsz
  obtain ⟨M, hM⟩ : ∃ M, n + 1 = M := ⟨_, rfl⟩
  have hM0 : (0 : Int) < (M : Int) := by omega
  have h0M : 0 < M := by omega
  have hwn : IntKind.i64.wrap ((n : Int) + 1) = (n : Int) + 1 := by have := i64_lin 0 (n + 1) 0 (by omega); simpa using this
  have hall : matchL isSS partB (parts p) (parts s) = matchB p s := by unfold matchB; rw [h1, h2]; rfl
  have HALL := Lib.hid hall
  clear hall
  go_enter Tryd.func18, Tryd.ntmps18
  go_wp2_with fail
  refine (refPattern_any p _).mono ?_
  rw [h1]
  rintro e wa ⟨rfl, hb⟩
  have Ba := Lib.hid hb
  clear hb
  go_wp2_with fail
  refine (refValid_any s _).mono ?_
  rw [h2]
  rintro e wb ⟨rfl, hb⟩
  have Bb := Lib.hid (Ba.out.trans (hb.mono Ba.out.size))
  clear hb
  go_wp2_with fail
  refine (PP.out wb).mono ?_
  rintro e wc ⟨A, c1, rfl, _, hAl, hc1, hoA, hb⟩
  have Bc := Lib.hid (Bb.out.trans (hb.mono Bb.out.size))
  have TA := Lib.hid hoA.c
  clear hb hoA
  go_wp2_with fail
  refine (PS0.out wc).mono ?_
  rintro e w0 ⟨L, c2, rfl, _, hLl, hc2, hoL, hb⟩
  have Bd := Lib.hid (Bc.out.trans (hb.mono Bc.out.size))
  have TA0 := Lib.hid (TA.out.below hb)
  have TL0 := Lib.hid hoL.c
  have hAl0 := Nat.lt_of_lt_of_le hAl hb.size
  clear hb hoL TA hAl PP PS0 h1 h2
  go_wp2_with (first | (at_make; refine wpList_make_full _ rfl _ _ 61 rfl 0 4 i0 (.bool false) 1 Tryd.underlying61 I.out Z0.out Z1.out _ _ _ _ M rfl rfl (by first | rfl | omega) (by first | rfl | omega) (by rw [Z2.out]; omega) (by unfold maxLen; omega) (Nat.zero_le _) ?_) | fail)
  intro w1 hown hgrow
  have R1 := RowB.made hM hown
  have B1 := grown_below hgrow
  have hgt := R1.lt
  clear hown hgrow
  obtain ⟨F, hF⟩ : ∃ F, w0.heap.size = F := ⟨_, rfl⟩
  have R2 := (R1.put (k := 0) (Nat.zero_le _) true)
  have BB0 := B1.setCell (p := ⟨w0.heap.size, 0, none⟩) (Nat.le_refl _) (.bool true)
  have hc := R1.c 0 (Nat.zero_le _)
  have hz := R1.z 0
  rw [hF] at R2 BB0 hc hz hAl0 hLl ⊢
  have HF0 := Lib.hid hF
  have RR := Lib.hid R2
  have BB := Lib.hid BB0
  clear R1 R2 B1 BB0 hF
  go_wp2_with fail
  clear hc hz
  go_loopw [7, 8] (fun v x wr => ∃ i Fb : Nat, i ≤ P ∧ x = .int .i64 i ∧ v = .slice (some ⟨Fb, 0, none⟩) M M ∧ F ≤ Fb ∧ Hid (∃ f, RowB wr Fb n f ∧ ∀ k, k ≤ n → f k = pre isSS partB (parts p) (parts s) i k) ∧ Hid (Below F w0 wr)) (fun _ x _ => P - (intOf x).toNat)
  case atStart =>
    refine ⟨0, F, by omega, rfl, rfl, Nat.le_refl _, Lib.hid ⟨_, RR.out, fun k hk => ?_⟩, BB⟩
    rw [pre_zero (by rw [HN.out]; exact hk)]
    by_cases e : k = 0 <;> simp [e]
  case round =>
    obtain ⟨i, Fb, hi, rfl, rfl, hFb, HR, HB⟩ := hrel
    obtain ⟨f, RF0, hf0⟩ := HR.out
    have RF := Lib.hid RF0
    have hf := Lib.hid hf0
    clear HR RF0 hf0
    by_cases hlt : i < P
    · obtain ⟨x, hx⟩ : ∃ x, (parts p)[i]? = some x := ⟨_, List.getElem?_eq_getElem (by rw [HP.out]; exact hlt)⟩
      have HA := Lib.hid hx
      have hltI : (i : Int) < (P : Int) := by omega
      have hxz : x.size ≤ 100 := by have := parts_le (List.mem_of_getElem? hx); have := HPZ.out; omega
      clear hx
      cases hsv : isSS x with
      | false =>
        have HSV := Lib.hid hsv
        have hstar : (x.toList == [42, 42]) = false := hsv
        clear hsv
        go_wp2_with (first | (at_make; refine wpList_make_full _ rfl _ _ 61 rfl 0 4 i0 (.bool false) 1 Tryd.underlying61 I.out Z0.out Z1.out _ _ _ _ M rfl rfl (by first | rfl | omega) (by first | rfl | omega) (by rw [Z2.out]; omega) (by unfold maxLen; omega) (Nat.zero_le _) ?_) | fail)
        intro w2 hown hgrow
        have B2 := grown_below hgrow
        have RN0 := RowB.made hM hown
        have RF2 := Lib.hid (RF.out.below B2)
        have hgt2 := RN0.lt
        have BB2 := Lib.hid (below_made HB.out hgrow (by rw [← HF0.out]; exact HB.out.size))
        obtain ⟨Nb, hNb⟩ : ∃ Nb, wr.heap.size = Nb := ⟨_, rfl⟩
        have hne : Fb ≠ Nb := by have := RF.out.lt; omega
        have hNF : F ≤ Nb := by rw [← hNb, ← HF0.out]; exact HB.out.size
        have hneA : A ≠ Nb := by omega
        have hneL : L ≠ Nb := by omega
        rw [hNb] at RN0 hgt2 ⊢
        have RN := Lib.hid RN0
        clear RN0 hown hgrow B2 hNb
        go_wp2_with fail
        go_loopw [10] (fun x wk => ∃ k : Nat, k ≤ M ∧ x = .int .i64 k ∧ Hid (∃ g, RowB wk Nb n g ∧ ∀ j, j < k → g j = pre isSS partB (parts p) (parts s) (i + 1) j) ∧ Hid (RowB wk Fb n f) ∧ Hid (Below F w0 wk)) (fun x _ => M - (intOf x).toNat)
        case atStart => exact ⟨0, by omega, rfl, Lib.hid ⟨_, RN.out, fun j hj => absurd hj (by omega)⟩, RF2, BB2⟩
        case round =>
          obtain ⟨k, hk, rfl, HG, RFk, BBk⟩ := hrel
          obtain ⟨g, RG0, hg0⟩ := HG.out
          have RG := Lib.hid RG0
          have hg := Lib.hid hg0
          clear HG RG0 hg0
          have hcA : wr.cell? ⟨A, i, none⟩ = some (.string x) := by
            rw [BBk.out.cell hAl0]
            have := TA0.out i x HA.out
            rwa [Nat.zero_add] at this
          have hFle : F ≤ w0.heap.size := by rw [HF0.out]; exact Nat.le_refl _
          by_cases hkn : k ≤ n
          · by_cases hk0 : k = 0
            · subst hk0
              have hz := RG.out.z 0
              have hcN := RG.out.c 0 (by omega)
              have hcF := RFk.out.c 0 (by omega)
              have hf0 := hf.out 0 (by omega)
              have h0n : decide ((0 : Int) ≤ (n : Int)) = true := decide_eq_true (by omega)
              have HP0 := Lib.hid (show false = pre isSS partB (parts p) (parts s) (i + 1) 0 from (pre_one0 HA.out HSV.out).symm)
              clear hf0
              have HV := Lib.hid (HP0.out)
              go_wp2_with fail
              have H2 := Lib.hid (HeldB.mk hcF)
              refine held_start (S := fun w' => HeldB w' Fb 0 (f 0)) 25 [false, false, false, false, false, false, false, false, false, false, false, false, false, false, false, false, false, false, false, false, false, false, false, false, false] rfl rfl (by kernel_rfl) H2.out.drew (fun hS => ?_)
              refine held_take 0 68 (v := .slice (some ⟨Nb, 0, none⟩) M M) rfl rfl (by kernel_rfl) (by kernel_rfl) (by kernel_rfl) (fun _ _ _ h => h) (Or.inl ⟨by rfl, fun w h => by go_simp⟩) hS ?_
              dsimp only [List.set]
              refine held_take 1 69 (v := .int .i64 0) rfl rfl (by kernel_rfl) (by kernel_rfl) (by kernel_rfl) (fun _ _ _ h => h) (Or.inl ⟨by rfl, fun w h => by go_simp⟩) hS ?_
              dsimp only [List.set]
              refine held_take 2 70 (v := .int .i64 0) rfl rfl (by kernel_rfl) (by kernel_rfl) (by kernel_rfl) (fun _ _ _ h => h) (Or.inl ⟨by rfl, fun w h => by go_simp⟩) hS ?_
              dsimp only [List.set]
              refine held_take 3 71 (v := .bool false) rfl rfl (by kernel_rfl) (by kernel_rfl) (by kernel_rfl) (fun _ _ _ h => h) (Or.inl ⟨by rfl, fun w h => by go_simp⟩) hS ?_
              dsimp only [List.set]
              refine held_take 4 72 (v := .bool false) rfl rfl (by kernel_rfl) (by kernel_rfl) (by kernel_rfl) (fun _ _ _ h => h) (Or.inl ⟨by rfl, fun w h => by go_simp⟩) hS ?_
              dsimp only [List.set]
              refine held_take 5 73 (v := undef) rfl rfl (by kernel_rfl) (by kernel_rfl) (by kernel_rfl) (fun _ _ _ h => h) (Or.inr ⟨by rfl, rfl⟩) hS ?_
              dsimp only [List.set]
              refine held_take 6 74 (v := undef) rfl rfl (by kernel_rfl) (by kernel_rfl) (by kernel_rfl) (fun _ _ _ h => h) (Or.inr ⟨by rfl, rfl⟩) hS ?_
              dsimp only [List.set]
              refine held_take 7 75 (v := undef) rfl rfl (by kernel_rfl) (by kernel_rfl) (by kernel_rfl) (fun _ _ _ h => h) (Or.inr ⟨by rfl, rfl⟩) hS ?_
              dsimp only [List.set]
              refine held_take 8 76 (v := undef) rfl rfl (by kernel_rfl) (by kernel_rfl) (by kernel_rfl) (fun _ _ _ h => h) (Or.inr ⟨by rfl, rfl⟩) hS ?_
              dsimp only [List.set]
              refine held_take 9 77 (v := undef) rfl rfl (by kernel_rfl) (by kernel_rfl) (by kernel_rfl) (fun _ _ _ h => h) (Or.inr ⟨by rfl, rfl⟩) hS ?_
              dsimp only [List.set]
              refine held_take 10 78 (v := .bool false) rfl rfl (by kernel_rfl) (by kernel_rfl) (by kernel_rfl) (fun _ _ _ h => h) (Or.inl ⟨by rfl, fun w h => by go_simp⟩) hS ?_
              dsimp only [List.set]
              refine held_take 11 79 (v := .bool false) rfl rfl (by kernel_rfl) (by kernel_rfl) (by kernel_rfl) (fun _ _ _ h => h) (Or.inl ⟨by rfl, fun w h => by go_simp⟩) hS ?_
              dsimp only [List.set]
              refine held_take 12 80 (v := undef) rfl rfl (by kernel_rfl) (by kernel_rfl) (by kernel_rfl) (fun _ _ _ h => h) (Or.inr ⟨by rfl, rfl⟩) hS ?_
              dsimp only [List.set]
              refine held_take 13 81 (v := undef) rfl rfl (by kernel_rfl) (by kernel_rfl) (by kernel_rfl) (fun _ _ _ h => h) (Or.inr ⟨by rfl, rfl⟩) hS ?_
              dsimp only [List.set]
              refine held_take 14 82 (v := undef) rfl rfl (by kernel_rfl) (by kernel_rfl) (by kernel_rfl) (fun _ _ _ h => h) (Or.inr ⟨by rfl, rfl⟩) hS ?_
              dsimp only [List.set]
              refine held_take 15 83 (v := undef) rfl rfl (by kernel_rfl) (by kernel_rfl) (by kernel_rfl) (fun _ _ _ h => h) (Or.inr ⟨by rfl, rfl⟩) hS ?_
              dsimp only [List.set]
              refine held_take 16 84 (v := undef) rfl rfl (by kernel_rfl) (by kernel_rfl) (by kernel_rfl) (fun _ _ _ h => h) (Or.inr ⟨by rfl, rfl⟩) hS ?_
              dsimp only [List.set]
              refine held_take 17 85 (v := undef) rfl rfl (by kernel_rfl) (by kernel_rfl) (by kernel_rfl) (fun _ _ _ h => h) (Or.inr ⟨by rfl, rfl⟩) hS ?_
              dsimp only [List.set]
              refine held_take 18 86 (v := undef) rfl rfl (by kernel_rfl) (by kernel_rfl) (by kernel_rfl) (fun _ _ _ h => h) (Or.inr ⟨by rfl, rfl⟩) hS ?_
              dsimp only [List.set]
              refine held_take 19 87 (v := undef) rfl rfl (by kernel_rfl) (by kernel_rfl) (by kernel_rfl) (fun _ _ _ h => h) (Or.inr ⟨by rfl, rfl⟩) hS ?_
              dsimp only [List.set]
              refine held_take 20 88 (v := undef) rfl rfl (by kernel_rfl) (by kernel_rfl) (by kernel_rfl) (fun _ _ _ h => h) (Or.inr ⟨by rfl, rfl⟩) hS ?_
              dsimp only [List.set]
              refine held_take 21 89 (v := undef) rfl rfl (by kernel_rfl) (by kernel_rfl) (by kernel_rfl) (fun _ _ _ h => h) (Or.inr ⟨by rfl, rfl⟩) hS ?_
              dsimp only [List.set]
              refine held_take 22 90 (v := .bool false) rfl rfl (by kernel_rfl) (by kernel_rfl) (by kernel_rfl) (fun _ _ _ h => h) (Or.inl ⟨by rfl, fun w h => by go_simp⟩) hS ?_
              dsimp only [List.set]
              refine held_take 23 91 (v := .pointer (some ⟨Nb, 0, none⟩)) rfl rfl (by kernel_rfl) (by kernel_rfl) (by kernel_rfl) (fun _ _ _ h => h) (Or.inl ⟨by rfl, fun w h => by go_simp⟩) hS ?_
              dsimp only [List.set]
              have RG' := Lib.hid RG.out.drew
              have RFk' := Lib.hid RFk.out.drew
              have BBk' := Lib.hid BBk.out.drew
              have hc0 := RG'.out.c (0) (by omega)
              have hf0 := RG'.out.z (0)
              refine held_ready 24 rfl (by kernel_rfl) (fun K' hK => ?_)
              go_simp
              refine hK.out _ _ (hS.put hne _) (fun hS2 => ?_)
              clear hK hc0 hf0
              refine wpAnyH_done (by kernel_rfl) ?_ _
              clear hz hcN hcF RG RFk BBk hS hS2
              have RG := RG'
              have RFk := RFk'
              have BBk := BBk'
              clear RG' RFk' BBk'
              go_wp2_with fail
              go_roundw
              case rel => exact ⟨1, by omega, by go_num, Lib.hid ⟨_, RG.out.put (by omega) false, row_next hg.out (HV.out)⟩, Lib.hid (RFk.out.other hne _), Lib.hid (BBk.out.setCell hNF _)⟩
              case measure => simp [intOf]; omega
            · obtain ⟨k, rfl⟩ : ∃ k', k = k' + 1 := ⟨k - 1, by omega⟩
              have hz := RG.out.z (k + 1)
              have hcN := RG.out.c (k + 1) (by omega)
              have hkle : decide ((k : Int) + 1 ≤ (n : Int)) = true := decide_eq_true (by omega)
              have hi0 : decide ((0 : Int) < (k : Int) + 1) = true := decide_eq_true (by omega)
              have hkM : (k : Int) + 1 < (M : Int) := by omega
              have hkM2 : (k : Int) < (M : Int) := by omega
              have hkneg : ¬ ((k : Int) + 1 < 0) := by omega
              have hkn2 : (k : Int) < (n : Int) := by omega
              have hkn3 : k < n := by omega
              have hwk : IntKind.i64.wrap (k : Int) = (k : Int) := by have := i64_lin 0 k 0 (by omega); simpa using this
              have hklt : k < (parts s).length := by rw [HN.out]; omega
              have hcF := RFk.out.c k (by omega)
              have hfk := hf.out k (by omega)
              obtain ⟨y, hy⟩ : ∃ y, (parts s)[k]? = some y := ⟨_, List.getElem?_eq_getElem hklt⟩
              have hyz : y.size ≤ 100 := by have := parts_le (List.mem_of_getElem? hy); have := HSZ.out; omega
              have hcL : wr.cell? ⟨L, k, none⟩ = some (.string y) := by
                rw [BBk.out.cell hLl]
                have := TL0.out k y hy
                rwa [Nat.zero_add] at this
              have PS := pre_one (star := isSS) (one := partB) (ps := parts p) (qs := parts s) HA.out HSV.out hy
              cases hfv : f k
              · rw [hfv] at hcF
                have HP0 := Lib.hid (show false = pre isSS partB (parts p) (parts s) (i + 1) (k + 1) from by rw [PS, ← hfk, hfv, Bool.false_and])
                clear hfk PS hy
                have HV := Lib.hid (HP0.out)
                go_wp2_with fail
                have H2 := Lib.hid (HeldB.mk hcF)
                refine held_start (S := fun w' => HeldB w' Fb k false) 25 [false, false, false, false, false, false, false, false, false, false, false, false, false, false, false, false, false, false, false, false, false, false, false, false, false] rfl rfl (by kernel_rfl) H2.out.drew (fun hS => ?_)
                refine held_take 0 68 (v := .slice (some ⟨Nb, 0, none⟩) M M) rfl rfl (by kernel_rfl) (by kernel_rfl) (by kernel_rfl) (fun _ _ _ h => h) (Or.inl ⟨by rfl, fun w h => by go_simp⟩) hS ?_
                dsimp only [List.set]
                refine held_take 1 69 (v := .int .i64 ((k : Int) + 1)) rfl rfl (by kernel_rfl) (by kernel_rfl) (by kernel_rfl) (fun _ _ _ h => h) (Or.inl ⟨by rfl, fun w h => by go_simp⟩) hS ?_
                dsimp only [List.set]
                refine held_take 2 70 (v := .int .i64 ((k : Int) + 1)) rfl rfl (by kernel_rfl) (by kernel_rfl) (by kernel_rfl) (fun _ _ _ h => h) (Or.inl ⟨by rfl, fun w h => by go_simp⟩) hS ?_
                dsimp only [List.set]
                refine held_take 3 71 (v := .bool true) rfl rfl (by kernel_rfl) (by kernel_rfl) (by kernel_rfl) (fun _ _ _ h => h) (Or.inl ⟨by rfl, fun w h => by go_simp⟩) hS ?_
                dsimp only [List.set]
                refine held_take 4 72 (v := .bool true) rfl rfl (by kernel_rfl) (by kernel_rfl) (by kernel_rfl) (fun _ _ _ h => h) (Or.inl ⟨by rfl, fun w h => by go_simp⟩) hS ?_
                dsimp only [List.set]
                refine held_take 5 73 (v := .slice (some ⟨Fb, 0, none⟩) M M) rfl rfl (by kernel_rfl) (by kernel_rfl) (by kernel_rfl) (fun _ _ _ h => h) (Or.inl ⟨by rfl, fun w h => by go_simp⟩) hS ?_
                dsimp only [List.set]
                refine held_take 6 74 (v := .int .i64 ((k : Int) + 1)) rfl rfl (by kernel_rfl) (by kernel_rfl) (by kernel_rfl) (fun _ _ _ h => h) (Or.inl ⟨by rfl, fun w h => by go_simp⟩) hS ?_
                dsimp only [List.set]
                refine held_take 7 75 (v := .int .i64 (k : Int)) rfl rfl (by kernel_rfl) (by kernel_rfl) (by kernel_rfl) (fun _ _ _ h => h) (Or.inl ⟨by rfl, fun w h => by go_simp⟩) hS ?_
                dsimp only [List.set]
                refine held_take 8 76 (v := .pointer (some ⟨Fb, k, none⟩)) rfl rfl (by kernel_rfl) (by kernel_rfl) (by kernel_rfl) (fun _ _ _ h => h) (Or.inl ⟨by rfl, fun w h => by go_simp⟩) hS ?_
                dsimp only [List.set]
                refine held_take 9 77 (v := .bool false) rfl rfl (by kernel_rfl) (by kernel_rfl) (by kernel_rfl) (fun _ _ _ h => h) (Or.inl ⟨by rfl, fun w h => by have hq := h.c; go_simp⟩) hS ?_
                dsimp only [List.set]
                refine held_take 10 78 (v := .bool false) rfl rfl (by kernel_rfl) (by kernel_rfl) (by kernel_rfl) (fun _ _ _ h => h) (Or.inl ⟨by rfl, fun w h => by go_simp⟩) hS ?_
                dsimp only [List.set]
                refine held_take 11 79 (v := .bool false) rfl rfl (by kernel_rfl) (by kernel_rfl) (by kernel_rfl) (fun _ _ _ h => h) (Or.inl ⟨by rfl, fun w h => by go_simp⟩) hS ?_
                dsimp only [List.set]
                refine held_take 12 80 (v := undef) rfl rfl (by kernel_rfl) (by kernel_rfl) (by kernel_rfl) (fun _ _ _ h => h) (Or.inr ⟨by rfl, rfl⟩) hS ?_
                dsimp only [List.set]
                refine held_take 13 81 (v := undef) rfl rfl (by kernel_rfl) (by kernel_rfl) (by kernel_rfl) (fun _ _ _ h => h) (Or.inr ⟨by rfl, rfl⟩) hS ?_
                dsimp only [List.set]
                refine held_take 14 82 (v := undef) rfl rfl (by kernel_rfl) (by kernel_rfl) (by kernel_rfl) (fun _ _ _ h => h) (Or.inr ⟨by rfl, rfl⟩) hS ?_
                dsimp only [List.set]
                refine held_take 15 83 (v := undef) rfl rfl (by kernel_rfl) (by kernel_rfl) (by kernel_rfl) (fun _ _ _ h => h) (Or.inr ⟨by rfl, rfl⟩) hS ?_
                dsimp only [List.set]
                refine held_take 16 84 (v := undef) rfl rfl (by kernel_rfl) (by kernel_rfl) (by kernel_rfl) (fun _ _ _ h => h) (Or.inr ⟨by rfl, rfl⟩) hS ?_
                dsimp only [List.set]
                refine held_take 17 85 (v := undef) rfl rfl (by kernel_rfl) (by kernel_rfl) (by kernel_rfl) (fun _ _ _ h => h) (Or.inr ⟨by rfl, rfl⟩) hS ?_
                dsimp only [List.set]
                refine held_take 18 86 (v := undef) rfl rfl (by kernel_rfl) (by kernel_rfl) (by kernel_rfl) (fun _ _ _ h => h) (Or.inr ⟨by rfl, rfl⟩) hS ?_
                dsimp only [List.set]
                refine held_take 19 87 (v := undef) rfl rfl (by kernel_rfl) (by kernel_rfl) (by kernel_rfl) (fun _ _ _ h => h) (Or.inr ⟨by rfl, rfl⟩) hS ?_
                dsimp only [List.set]
                refine held_take 20 88 (v := undef) rfl rfl (by kernel_rfl) (by kernel_rfl) (by kernel_rfl) (fun _ _ _ h => h) (Or.inr ⟨by rfl, rfl⟩) hS ?_
                dsimp only [List.set]
                refine held_take 21 89 (v := undef) rfl rfl (by kernel_rfl) (by kernel_rfl) (by kernel_rfl) (fun _ _ _ h => h) (Or.inr ⟨by rfl, rfl⟩) hS ?_
                dsimp only [List.set]
                refine held_take 22 90 (v := .bool false) rfl rfl (by kernel_rfl) (by kernel_rfl) (by kernel_rfl) (fun _ _ _ h => h) (Or.inl ⟨by rfl, fun w h => by go_simp⟩) hS ?_
                dsimp only [List.set]
                refine held_take 23 91 (v := .pointer (some ⟨Nb, k + 1, none⟩)) rfl rfl (by kernel_rfl) (by kernel_rfl) (by kernel_rfl) (fun _ _ _ h => h) (Or.inl ⟨by rfl, fun w h => by go_simp⟩) hS ?_
                dsimp only [List.set]
                have RG' := Lib.hid RG.out.drew
                have RFk' := Lib.hid RFk.out.drew
                have BBk' := Lib.hid BBk.out.drew
                have hc0 := RG'.out.c (k + 1) (by omega)
                have hf0 := RG'.out.z (k + 1)
                refine held_ready 24 rfl (by kernel_rfl) (fun K' hK => ?_)
                go_simp
                refine hK.out _ _ (hS.put hne _) (fun hS2 => ?_)
                clear hK hc0 hf0
                refine wpAnyH_done (by kernel_rfl) ?_ _
                clear hz hcN hcF RG RFk BBk hS hS2
                have RG := RG'
                have RFk := RFk'
                have BBk := BBk'
                clear RG' RFk' BBk'
                go_wp2_with fail
                go_roundw
                case rel => exact ⟨k + 1 + 1, by omega, by go_num, Lib.hid ⟨_, RG.out.put (by omega) false, row_next hg.out (HV.out)⟩, Lib.hid (RFk.out.other hne _), Lib.hid (BBk.out.setCell hNF _)⟩
                case measure => simp [intOf]; omega
              · rw [hfv] at hcF
                have HP0 := Lib.hid (show partB x y = pre isSS partB (parts p) (parts s) (i + 1) (k + 1) from by rw [PS, ← hfk, hfv, Bool.true_and])
                clear hfk PS hy
                have HV := Lib.hid (HP0.out)
                go_wp2_with fail
                have H2 := Lib.hid (Held3.mk hcF hcA hcL)
                refine held_start (S := fun w' => Held3 w' Fb k true A i x L k y) 25 [false, false, false, false, false, false, false, false, false, false, false, false, false, false, false, false, false, false, false, false, false, false, false, false, false] rfl rfl (by kernel_rfl) H2.out.drew (fun hS => ?_)
                refine held_take 0 68 (v := .slice (some ⟨Nb, 0, none⟩) M M) rfl rfl (by kernel_rfl) (by kernel_rfl) (by kernel_rfl) (fun _ _ _ h => h) (Or.inl ⟨by rfl, fun w h => by go_simp⟩) hS ?_
                dsimp only [List.set]
                refine held_take 1 69 (v := .int .i64 ((k : Int) + 1)) rfl rfl (by kernel_rfl) (by kernel_rfl) (by kernel_rfl) (fun _ _ _ h => h) (Or.inl ⟨by rfl, fun w h => by go_simp⟩) hS ?_
                dsimp only [List.set]
                refine held_take 2 70 (v := .int .i64 ((k : Int) + 1)) rfl rfl (by kernel_rfl) (by kernel_rfl) (by kernel_rfl) (fun _ _ _ h => h) (Or.inl ⟨by rfl, fun w h => by go_simp⟩) hS ?_
                dsimp only [List.set]
                refine held_take 3 71 (v := .bool true) rfl rfl (by kernel_rfl) (by kernel_rfl) (by kernel_rfl) (fun _ _ _ h => h) (Or.inl ⟨by rfl, fun w h => by go_simp⟩) hS ?_
                dsimp only [List.set]
                refine held_take 4 72 (v := .bool true) rfl rfl (by kernel_rfl) (by kernel_rfl) (by kernel_rfl) (fun _ _ _ h => h) (Or.inl ⟨by rfl, fun w h => by go_simp⟩) hS ?_
                dsimp only [List.set]
                refine held_take 5 73 (v := .slice (some ⟨Fb, 0, none⟩) M M) rfl rfl (by kernel_rfl) (by kernel_rfl) (by kernel_rfl) (fun _ _ _ h => h) (Or.inl ⟨by rfl, fun w h => by go_simp⟩) hS ?_
                dsimp only [List.set]
                refine held_take 6 74 (v := .int .i64 ((k : Int) + 1)) rfl rfl (by kernel_rfl) (by kernel_rfl) (by kernel_rfl) (fun _ _ _ h => h) (Or.inl ⟨by rfl, fun w h => by go_simp⟩) hS ?_
                dsimp only [List.set]
                refine held_take 7 75 (v := .int .i64 (k : Int)) rfl rfl (by kernel_rfl) (by kernel_rfl) (by kernel_rfl) (fun _ _ _ h => h) (Or.inl ⟨by rfl, fun w h => by go_simp⟩) hS ?_
                dsimp only [List.set]
                refine held_take 8 76 (v := .pointer (some ⟨Fb, k, none⟩)) rfl rfl (by kernel_rfl) (by kernel_rfl) (by kernel_rfl) (fun _ _ _ h => h) (Or.inl ⟨by rfl, fun w h => by go_simp⟩) hS ?_
                dsimp only [List.set]
                refine held_take 9 77 (v := .bool true) rfl rfl (by kernel_rfl) (by kernel_rfl) (by kernel_rfl) (fun _ _ _ h => h) (Or.inl ⟨by rfl, fun w h => by have hq := h.c; go_simp⟩) hS ?_
                dsimp only [List.set]
                refine held_take 10 78 (v := .bool true) rfl rfl (by kernel_rfl) (by kernel_rfl) (by kernel_rfl) (fun _ _ _ h => h) (Or.inl ⟨by rfl, fun w h => by go_simp⟩) hS ?_
                dsimp only [List.set]
                refine held_take 11 79 (v := .bool true) rfl rfl (by kernel_rfl) (by kernel_rfl) (by kernel_rfl) (fun _ _ _ h => h) (Or.inl ⟨by rfl, fun w h => by go_simp⟩) hS ?_
                dsimp only [List.set]
                refine held_take 12 80 (v := .slice (some ⟨A, 0, none⟩) P c1) rfl rfl (by kernel_rfl) (by kernel_rfl) (by kernel_rfl) (fun _ _ _ h => h) (Or.inl ⟨by rfl, fun w h => by go_simp⟩) hS ?_
                dsimp only [List.set]
                refine held_take 13 81 (v := .int .i64 (i : Int)) rfl rfl (by kernel_rfl) (by kernel_rfl) (by kernel_rfl) (fun _ _ _ h => h) (Or.inl ⟨by rfl, fun w h => by go_simp⟩) hS ?_
                dsimp only [List.set]
                refine held_take 14 82 (v := .pointer (some ⟨A, i, none⟩)) rfl rfl (by kernel_rfl) (by kernel_rfl) (by kernel_rfl) (fun _ _ _ h => h) (Or.inl ⟨by rfl, fun w h => by go_simp⟩) hS ?_
                dsimp only [List.set]
                refine held_take 15 83 (v := .string x) rfl rfl (by kernel_rfl) (by kernel_rfl) (by kernel_rfl) (fun _ _ _ h => h) (Or.inl ⟨by rfl, fun w h => by have hq := h.cA; go_simp⟩) hS ?_
                dsimp only [List.set]
                refine held_take 16 84 (v := .slice (some ⟨L, 0, none⟩) n c2) rfl rfl (by kernel_rfl) (by kernel_rfl) (by kernel_rfl) (fun _ _ _ h => h) (Or.inl ⟨by rfl, fun w h => by go_simp⟩) hS ?_
                dsimp only [List.set]
                refine held_take 17 85 (v := .int .i64 ((k : Int) + 1)) rfl rfl (by kernel_rfl) (by kernel_rfl) (by kernel_rfl) (fun _ _ _ h => h) (Or.inl ⟨by rfl, fun w h => by go_simp⟩) hS ?_
                dsimp only [List.set]
                refine held_take 18 86 (v := .int .i64 (k : Int)) rfl rfl (by kernel_rfl) (by kernel_rfl) (by kernel_rfl) (fun _ _ _ h => h) (Or.inl ⟨by rfl, fun w h => by go_simp⟩) hS ?_
                dsimp only [List.set]
                refine held_take 19 87 (v := .pointer (some ⟨L, k, none⟩)) rfl rfl (by kernel_rfl) (by kernel_rfl) (by kernel_rfl) (fun _ _ _ h => h) (Or.inl ⟨by rfl, fun w h => by go_simp⟩) hS ?_
                dsimp only [List.set]
                refine held_take 20 88 (v := .string y) rfl rfl (by kernel_rfl) (by kernel_rfl) (by kernel_rfl) (fun _ _ _ h => h) (Or.inl ⟨by rfl, fun w h => by have hq := h.cL; go_simp⟩) hS ?_
                dsimp only [List.set]
                refine held_ready 21 rfl (by kernel_rfl) (fun K' hK => ?_)
                go_simp
                refine (partMatch_any x y _ hxz hyz).mono ?_
                rintro e w2 ⟨rfl, hb⟩
                have RG' := Lib.hid (RG.out.drew.below hb)
                have RFk' := Lib.hid (RFk.out.drew.below hb)
                have BBk' := Lib.hid (BBk.out.drew.trans (hb.mono (Nat.le_trans hFle BBk.out.drew.size)))
                refine hK.out _ _ (hS.below hb) (fun hS' => ?_)
                clear hK hS hb
                have hS := hS'
                clear hS'
                dsimp only [List.set]
                refine held_take 22 90 (v := .bool (partB x y)) rfl rfl (by kernel_rfl) (by kernel_rfl) (by kernel_rfl) (fun _ _ _ h => h) (Or.inl ⟨by rfl, fun w h => by go_simp⟩) hS ?_
                dsimp only [List.set]
                refine held_take 23 91 (v := .pointer (some ⟨Nb, k + 1, none⟩)) rfl rfl (by kernel_rfl) (by kernel_rfl) (by kernel_rfl) (fun _ _ _ h => h) (Or.inl ⟨by rfl, fun w h => by go_simp⟩) hS ?_
                dsimp only [List.set]
                have hc0 := RG'.out.c (k + 1) (by omega)
                have hf0 := RG'.out.z (k + 1)
                refine held_ready 24 rfl (by kernel_rfl) (fun K' hK => ?_)
                go_simp
                refine hK.out _ _ (hS.put hne hneA hneL _) (fun hS2 => ?_)
                clear hK hc0 hf0
                refine wpAnyH_done (by kernel_rfl) ?_ _
                clear hz hcN hcF RG RFk BBk hS hS2
                have RG := RG'
                have RFk := RFk'
                have BBk := BBk'
                clear RG' RFk' BBk'
                go_wp2_with fail
                go_roundw
                case rel => exact ⟨k + 1 + 1, by omega, by go_num, Lib.hid ⟨_, RG.out.put (by omega) (partB x y), row_next hg.out (HV.out)⟩, Lib.hid (RFk.out.other hne _), Lib.hid (BBk.out.setCell hNF _)⟩
                case measure => simp [intOf]; omega
          · obtain rfl : k = M := by omega
            have hkle : decide ((k : Int) ≤ (n : Int)) = false := decide_eq_false (by omega)
            go_wp2_with fail
            go_roundw
            case rel => exact ⟨i + 1, Nb, by omega, by go_num, rfl, hNF, Lib.hid ⟨g, RG.out, fun j hj => hg.out j (by omega)⟩, BBk⟩
            case measure => simp [intOf]; omega
      | true =>
        have HSV := Lib.hid hsv
        have hstar : (x.toList == [42, 42]) = true := hsv
        clear hsv
        go_wp2_with (first | (at_make; refine wpList_make_full _ rfl _ _ 61 rfl 0 4 i0 (.bool false) 1 Tryd.underlying61 I.out Z0.out Z1.out _ _ _ _ M rfl rfl (by first | rfl | omega) (by first | rfl | omega) (by rw [Z2.out]; omega) (by unfold maxLen; omega) (Nat.zero_le _) ?_) | fail)
        intro w2 hown hgrow
        have B2 := grown_below hgrow
        have RN0 := RowB.made hM hown
        have RF2 := Lib.hid (RF.out.below B2)
        have hgt2 := RN0.lt
        have BB2 := Lib.hid (below_made HB.out hgrow (by rw [← HF0.out]; exact HB.out.size))
        obtain ⟨Nb, hNb⟩ : ∃ Nb, wr.heap.size = Nb := ⟨_, rfl⟩
        have hne : Fb ≠ Nb := by have := RF.out.lt; omega
        have hNF : F ≤ Nb := by rw [← hNb, ← HF0.out]; exact HB.out.size
        have hneA : A ≠ Nb := by omega
        have hneL : L ≠ Nb := by omega
        rw [hNb] at RN0 hgt2 ⊢
        have RN := Lib.hid RN0
        clear RN0 hown hgrow B2 hNb
        go_wp2_with fail
        go_loopw [10] (fun x wk => ∃ k : Nat, k ≤ M ∧ x = .int .i64 k ∧ Hid (∃ g, RowB wk Nb n g ∧ ∀ j, j < k → g j = pre isSS partB (parts p) (parts s) (i + 1) j) ∧ Hid (RowB wk Fb n f) ∧ Hid (Below F w0 wk)) (fun x _ => M - (intOf x).toNat)
        case atStart => exact ⟨0, by omega, rfl, Lib.hid ⟨_, RN.out, fun j hj => absurd hj (by omega)⟩, RF2, BB2⟩
        case round =>
          obtain ⟨k, hk, rfl, HG, RFk, BBk⟩ := hrel
          obtain ⟨g, RG0, hg0⟩ := HG.out
          have RG := Lib.hid RG0
          have hg := Lib.hid hg0
          clear HG RG0 hg0
          have hcA : wr.cell? ⟨A, i, none⟩ = some (.string x) := by
            rw [BBk.out.cell hAl0]
            have := TA0.out i x HA.out
            rwa [Nat.zero_add] at this
          have hFle : F ≤ w0.heap.size := by rw [HF0.out]; exact Nat.le_refl _
          by_cases hkn : k ≤ n
          · by_cases hk0 : k = 0
            · subst hk0
              have hz := RG.out.z 0
              have hcN := RG.out.c 0 (by omega)
              have hcF := RFk.out.c 0 (by omega)
              have hf0 := hf.out 0 (by omega)
              have h0n : decide ((0 : Int) ≤ (n : Int)) = true := decide_eq_true (by omega)
              cases hfv : f 0
              · rw [hfv] at hcF
                have HP0 := Lib.hid (show false = pre isSS partB (parts p) (parts s) (i + 1) 0 from by rw [pre_star0 HA.out HSV.out, ← hf0, hfv])
                clear hf0
                have HV := Lib.hid (HP0.out)
                go_wp2_with fail
                go_roundw
                case rel => exact ⟨1, by omega, by go_num, Lib.hid ⟨_, RG.out.put (by omega) false, row_next hg.out (HV.out)⟩, Lib.hid (RFk.out.other hne _), Lib.hid (BBk.out.setCell hNF _)⟩
                case measure => simp [intOf]; omega
              · rw [hfv] at hcF
                have HP0 := Lib.hid (show true = pre isSS partB (parts p) (parts s) (i + 1) 0 from by rw [pre_star0 HA.out HSV.out, ← hf0, hfv])
                clear hf0
                have HV := Lib.hid (HP0.out)
                go_wp2_with fail
                go_roundw
                case rel => exact ⟨1, by omega, by go_num, Lib.hid ⟨_, RG.out.put (by omega) true, row_next hg.out (HV.out)⟩, Lib.hid (RFk.out.other hne _), Lib.hid (BBk.out.setCell hNF _)⟩
                case measure => simp [intOf]; omega
            · obtain ⟨k, rfl⟩ : ∃ k', k = k' + 1 := ⟨k - 1, by omega⟩
              have hz := RG.out.z (k + 1)
              have hcN := RG.out.c (k + 1) (by omega)
              have hkle : decide ((k : Int) + 1 ≤ (n : Int)) = true := decide_eq_true (by omega)
              have hi0 : decide ((0 : Int) < (k : Int) + 1) = true := decide_eq_true (by omega)
              have hkM : (k : Int) + 1 < (M : Int) := by omega
              have hkM2 : (k : Int) < (M : Int) := by omega
              have hkneg : ¬ ((k : Int) + 1 < 0) := by omega
              have hkn2 : (k : Int) < (n : Int) := by omega
              have hkn3 : k < n := by omega
              have hwk : IntKind.i64.wrap (k : Int) = (k : Int) := by have := i64_lin 0 k 0 (by omega); simpa using this
              have hklt : k < (parts s).length := by rw [HN.out]; omega
              have hcF := RFk.out.c (k + 1) (by omega)
              have hfk := hf.out (k + 1) (by omega)
              have hcG := RG.out.c k (by omega)
              have hgk := hg.out k (by omega)
              have PS := pre_star (star := isSS) (one := partB) (ps := parts p) (qs := parts s) HA.out HSV.out hklt
              cases hfv : f (k + 1)
              · rw [hfv] at hcF
                have HP0 := Lib.hid (show g k = pre isSS partB (parts p) (parts s) (i + 1) (k + 1) from by rw [PS, ← hfk, hfv, hgk, Bool.false_or])
                clear hfk hgk PS
                have HV := Lib.hid (HP0.out)
                go_wp2_with fail
                go_roundw
                case rel => exact ⟨k + 1 + 1, by omega, by go_num, Lib.hid ⟨_, RG.out.put (by omega) (g k), row_next hg.out (HV.out)⟩, Lib.hid (RFk.out.other hne _), Lib.hid (BBk.out.setCell hNF _)⟩
                case measure => simp [intOf]; omega
              · rw [hfv] at hcF
                have HP0 := Lib.hid (show true = pre isSS partB (parts p) (parts s) (i + 1) (k + 1) from by rw [PS, ← hfk, hfv, Bool.true_or])
                clear hfk hgk PS
                have HV := Lib.hid (HP0.out)
                go_wp2_with fail
                go_roundw
                case rel => exact ⟨k + 1 + 1, by omega, by go_num, Lib.hid ⟨_, RG.out.put (by omega) true, row_next hg.out (HV.out)⟩, Lib.hid (RFk.out.other hne _), Lib.hid (BBk.out.setCell hNF _)⟩
                case measure => simp [intOf]; omega
          · obtain rfl : k = M := by omega
            have hkle : decide ((k : Int) ≤ (n : Int)) = false := decide_eq_false (by omega)
            go_wp2_with fail
            go_roundw
            case rel => exact ⟨i + 1, Nb, by omega, by go_num, rfl, hNF, Lib.hid ⟨g, RG.out, fun j hj => hg.out j (by omega)⟩, BBk⟩
            case measure => simp [intOf]; omega
    · obtain rfl : i = P := by omega
      have hcn := RF.out.c n (Nat.le_refl _)
      rw [hf.out n (Nat.le_refl _)] at hcn
      have hpa : pre isSS partB (parts p) (parts s) i n = matchB p s := by
        have := pre_all (star := isSS) (one := partB) (ps := parts p) (qs := parts s)
        rw [HP.out, HN.out] at this
        exact this.trans HALL.out
      rw [hpa] at hcn
      have hnM : (n : Int) < (M : Int) := by omega
      have HB' := Lib.hid (show Below w0.heap.size w0 wr by rw [HF0.out]; exact HB.out)
      clear hpa
      go_wp2_with fail
      go_ret
      exact ⟨rfl, Bd.out.trans (HB'.out.mono Bd.out.size)⟩
theorem refMatch_any (p s : ByteArray) (w : World) : Calls Tryd.prog 18 #[.string p, .string s] w fun e w' => e = .returned (.bool (matchB p s)) ∧ Below w.heap.size w w' := by
  cases h1 : patB p with
  | false => exact refMatch_no1 p s w h1
  | true =>
    cases h2 : validB s with
    | false => exact refMatch_no2 p s w h1 h2
    | true => exact refMatch_main p s w h1 h2
end Go.Proofs.YtkoaeldlflncpaaDoor
