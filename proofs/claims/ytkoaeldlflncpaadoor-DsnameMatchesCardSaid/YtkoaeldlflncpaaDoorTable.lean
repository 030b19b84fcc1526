/-
  The contract of table.
-/
import Derived.Test.YtkoaeldlflncpaaDoorGrid
import Derived.Test.YtkoaeldlflncpaaDoorSplit
import Derived.Test.YtkoaeldlflncpaaDoorHeld
namespace Go.Proofs.YtkoaeldlflncpaaDoor
open Go.RowKit

/-- Two cells of a block. -/
structure Two (w : World) (B o1 o2 : Nat) (b1 b2 : Bool) : Prop where
  c1 : w.cell? ⟨B, o1, none⟩ = some (.bool b1)
  c2 : w.cell? ⟨B, o2, none⟩ = some (.bool b2)
theorem Two.drew {w : World} {B o1 o2 : Nat} {b1 b2 : Bool} (h : Two w B o1 o2 b1 b2) : Two w.drew B o1 o2 b1 b2 := ⟨h.c1, h.c2⟩
theorem Two.below {w w' : World} {B o1 o2 : Nat} {b1 b2 : Bool} (h : Two w B o1 o2 b1 b2) (hb : Below w.heap.size w w') : Two w' B o1 o2 b1 b2 :=
  ⟨by rw [hb.cell (World.block_lt_of_cell? _ _ h.c1)]; exact h.c1, by rw [hb.cell (World.block_lt_of_cell? _ _ h.c2)]; exact h.c2⟩
theorem Two.put {w : World} {B o1 o2 o : Nat} {b1 b2 : Bool} (h : Two w B o1 o2 b1 b2) (h1 : o ≠ o1) (h2 : o ≠ o2) (v : Value) : Two (w.setCell ⟨B, o, none⟩ v) B o1 o2 b1 b2 :=
  ⟨by rw [World.cell?_setCell_other _ _ _ _ (by intro e; have := congrArg Addr.off e; simp only at this; omega)]; exact h.c1,
   by rw [World.cell?_setCell_other _ _ _ _ (by intro e; have := congrArg Addr.off e; simp only at this; omega)]; exact h.c2⟩
theorem Grid.two {w : World} {B : Nat} {F : Nat → Nat → Bool} (h : Grid w B F) {i k i2 k2 : Nat} (h1 : i < 40) (h2 : k < 40) (h3 : i2 < 40) (h4 : k2 < 40) : Two w B (i * 40 + k) (i2 * 40 + k2) (F i k) (F i2 k2) :=
  ⟨h.c i k h1 h2, h.c i2 k2 h3 h4⟩

set_option maxRecDepth 20000 in
set_option maxHeartbeats 4000000 in
theorem table_any {α β : Type} (star : α → Bool) (one : α → β → Bool) (ps : List α) (qs : List β) (ks ko : Nat) (ls lo : Array Value) (P N : Nat) (hP : ps.length = P) (hN : qs.length = N) (hP' : P ≤ 38) (hN' : N ≤ 38) (w : World)
    (es : ∀ args w, (callFunc ks args).run Tryd.prog w = .ok (.enter ks args) w) (eo : ∀ args w, (callFunc ko args).run Tryd.prog w = .ok (.enter ko args) w)
    (cs : ∀ (i : Nat) a w', ps[i]? = some a → Below w.heap.size w w' → Calls Tryd.prog ks (#[.int .i64 i] ++ ls) w' fun e w2 => e = .returned (.bool (star a)) ∧ w' = w2)
    (co : ∀ (i k : Nat) a b w', ps[i]? = some a → qs[k]? = some b → Below w.heap.size w w' → Calls Tryd.prog ko (#[.int .i64 i, .int .i64 k] ++ lo) w' fun e w2 => e = .returned (.bool (one a b)) ∧ Below w'.heap.size w' w2) :
    Calls Tryd.prog 42 #[.int .i64 P, .int .i64 N, .func (.func ks) #[] ls, .func (.func ko) #[] lo] w fun e w' => e = .returned (.bool (matchL star one ps qs)) ∧ Below w.heap.size w w' := by
  have CS := Lib.hid cs
  have CO := Lib.hid co
  have HP := Lib.hid hP
  have HN := Lib.hid hN
  clear cs co hP hN
  have hz := zero_at (P * 40 + N) (by omega)
  have N0 := (Below.refl w.heap.size w).alloc (Nat.le_refl _) (.cells Tryd.zeroCells73 73)
  have N1 := N0.setCell (p := ⟨w.heap.size, P * 40 + N, none⟩) (Nat.le_refl _) (.bool true)
  have G1 := (Grid.new w).put (i0 := P) (k0 := N) (by omega) (by omega) true
  have D1 := rows_start (star := star) (one := one) (ps := ps) (qs := qs)
  rw [HP.out, HN.out] at D1
  have es' : (w.alloc (.cells Tryd.zeroCells73 73)).setCell ⟨w.heap.size, P * 40 + N, none⟩ (.bool true) = w.alloc (.cells (Tryd.zeroCells73.setIfInBounds (P * 40 + N) (.bool true)) 73) := by simp [go_sem]
  rw [es'] at G1 N1
  clear es'
  have G1 := Lib.hid G1
  have D1 := Lib.hid D1
  have N1 := Lib.hid N1
  clear N0
  go_enter Tryd.func42, Tryd.ntmps42
  go_wp2_with fail
  clear hz
  go_loopw [10, 11] (fun i _ wr => ∃ (i' : Nat) (x : Int) (F : Nat → Nat → Bool), i' ≤ P ∧ i = .int .i64 x ∧ x + 1 = i' ∧ Grid wr w.heap.size F ∧ RowsDone star one ps qs F i' ∧ Below w.heap.size w wr) (fun i _ _ => (intOf i + 1).toNat)
  case atStart => exact ⟨P, _, _, Nat.le_refl _, rfl, by omega, G1.out, D1.out, N1.out⟩
  case round =>
    obtain ⟨i', x, F, hi', rfl, hx, hg, hd, hb⟩ := hrel
    have HG := Lib.hid hg
    have HD := Lib.hid hd
    have HB := Lib.hid hb
    clear hg hd hb
    by_cases h0 : i' = 0
    · subst h0
      obtain rfl : x = -1 := by omega
      have hc := HG.out.c 0 0 (by omega) (by omega)
      have hv := HD.out 0 0 (by omega) (by omega) (by omega)
      have hm : matchL star one ps qs = F 0 0 := by rw [hv]; rfl
      have HM := Lib.hid hm
      clear hm hv
      simp only [Nat.zero_mul, Nat.zero_add] at hc
      go_wp2_with fail
      go_ret
      exact ⟨by rw [HM.out]; rfl, HB.out⟩
    · obtain ⟨i, rfl⟩ : ∃ i, i' = i + 1 := ⟨i' - 1, by omega⟩
      obtain rfl : x = (i : Int) := by omega
      obtain ⟨a, ha⟩ : ∃ a, ps[i]? = some a := ⟨_, List.getElem?_eq_getElem (by rw [HP.out]; omega)⟩
      have HA := Lib.hid ha
      clear ha h0 hx
      go_wp2_with fail
      go_loopw [11] (fun k wk => ∃ (k' : Nat) (y : Int) (F : Nat → Nat → Bool), k' ≤ N + 1 ∧ k = .int .i64 y ∧ y + 1 = k' ∧ Grid wk w.heap.size F ∧ RowsDone star one ps qs F (i + 1) ∧ RowDone star one ps qs F i k' ∧ Below w.heap.size w wk) (fun k _ => (intOf k + 1).toNat)
      case atStart => exact ⟨N + 1, _, F, Nat.le_refl _, rfl, by omega, HG.out, HD.out, fun b h1 h2 => absurd h2 (by rw [HN.out]; omega), HB.out⟩
      case round =>
        obtain ⟨k', y, F, hk', rfl, hy, hg, hd, hr, hb⟩ := hrel
        have HG := Lib.hid hg
        have HD := Lib.hid hd
        have HR := Lib.hid hr
        have HB := Lib.hid hb
        clear hg hd hr hb
        by_cases h0 : k' = 0
        · subst h0
          obtain rfl : y = -1 := by omega
          go_wp2_with fail
          go_roundw
          case rel => exact ⟨i, _, F, by omega, rfl, by omega, HG.out, row_end HD.out HR.out, HB.out⟩
          case measure => simp [intOf]
        · obtain ⟨k, rfl⟩ : ∃ k, k' = k + 1 := ⟨k' - 1, by omega⟩
          obtain rfl : y = (k : Int) := by omega
          clear h0 hy
          have wi : IntKind.i64.wrap ((i : Int) + 1) = (i : Int) + 1 := IntWalk.i64_in _ ⟨by omega, by omega⟩
          have wk' : IntKind.i64.wrap ((k : Int) + 1) = (k : Int) + 1 := IntWalk.i64_in _ ⟨by omega, by omega⟩
          have bi : ¬ (40 : Int) ≤ (i : Int) := by omega
          have bk : ¬ (40 : Int) ≤ (k : Int) := by omega
          have bi1 : ¬ (40 : Int) ≤ (i : Int) + 1 := by omega
          have bk1 : ¬ (40 : Int) ≤ (k : Int) + 1 := by omega
          have ni1 : ¬ (i : Int) + 1 < 0 := by omega
          have nk1 : ¬ (k : Int) + 1 < 0 := by omega
          cases hs : star a with
          | true =>
            go_wp2_with (go_at_fn ks; refine (CS.out i a _ HA.out HB.out).mono ?_; rw [hs]; rintro e w' ⟨rfl, rfl⟩)
            have E1 := Lib.hid (HD.out (i + 1) k (by omega) (by rw [HP.out]; omega) (by rw [HN.out]; omega))
            have ST := Lib.hid (fit_star star one ps qs HA.out hs (k := k) (by rw [HN.out]; omega))
            rw [← E1.out, HN.out] at ST
            cases h1 : F (i + 1) k with
            | true =>
              have V := Lib.hid (show true = fit star one ps qs i k from by rw [ST.out, h1]; rfl)
              have H2 := HG.out.two (i := i + 1) (k := k) (i2 := i + 1) (k2 := k) (by omega) (by omega) (by omega) (by omega)
              rw [h1] at H2
              have H2 := Lib.hid H2
              clear h1
              have HW := Lib.hid HG.out.drew
              refine held_start (S := fun w' => Two w' w.heap.size ((i + 1) * 40 + k) ((i + 1) * 40 + k) true true) 24 [false, false, false, false, false, false, false, false, false, false, false, false, false, false, false, false, false, false, false, false, false, false, false, false] rfl rfl (by kernel_rfl) H2.out.drew (fun hS => ?_)
              refine held_take 0 30 (v := .int .i64 (i : Int)) rfl rfl (by kernel_rfl) (by kernel_rfl) (by kernel_rfl) (fun _ _ _ h => h) (Or.inl ⟨by rfl, fun w h => by go_simp⟩) hS ?_
              dsimp only [List.set]
              refine held_take 1 31 (v := .int .i64 (k : Int)) rfl rfl (by kernel_rfl) (by kernel_rfl) (by kernel_rfl) (fun _ _ _ h => h) (Or.inl ⟨by rfl, fun w h => by go_simp⟩) hS ?_
              dsimp only [List.set]
              refine held_take 2 32 (v := .int .i64 (i : Int)) rfl rfl (by kernel_rfl) (by kernel_rfl) (by kernel_rfl) (fun _ _ _ h => h) (Or.inl ⟨by rfl, fun w h => by go_simp⟩) hS ?_
              dsimp only [List.set]
              refine held_take 3 33 (v := .int .i64 ((i : Int) + 1)) rfl rfl (by kernel_rfl) (by kernel_rfl) (by kernel_rfl) (fun _ _ _ h => h) (Or.inl ⟨by rfl, fun w h => by go_simp⟩) hS ?_
              dsimp only [List.set]
              refine held_take 4 34 (v := .int .i64 (k : Int)) rfl rfl (by kernel_rfl) (by kernel_rfl) (by kernel_rfl) (fun _ _ _ h => h) (Or.inl ⟨by rfl, fun w h => by go_simp⟩) hS ?_
              dsimp only [List.set]
              refine held_take 5 35 (v := .pointer (some ⟨w.heap.size, (i + 1) * 40, none⟩)) rfl rfl (by kernel_rfl) (by kernel_rfl) (by kernel_rfl) (fun _ _ _ h => h) (Or.inl ⟨by rfl, fun w h => by go_simp⟩) hS ?_
              dsimp only [List.set]
              refine held_take 6 36 (v := .pointer (some ⟨w.heap.size, (i + 1) * 40 + k, none⟩)) rfl rfl (by kernel_rfl) (by kernel_rfl) (by kernel_rfl) (fun _ _ _ h => h) (Or.inl ⟨by rfl, fun w h => by go_simp⟩) hS ?_
              dsimp only [List.set]
              refine held_take 7 37 (v := .bool true) rfl rfl (by kernel_rfl) (by kernel_rfl) (by kernel_rfl) (fun _ _ _ h => h) (Or.inl ⟨by rfl, fun w h => by have hq := h.c1; go_simp⟩) hS ?_
              dsimp only [List.set]
              refine held_take 8 38 (v := .bool true) rfl rfl (by kernel_rfl) (by kernel_rfl) (by kernel_rfl) (fun _ _ _ h => h) (Or.inl ⟨by rfl, fun w h => by go_simp⟩) hS ?_
              dsimp only [List.set]
              refine held_take 9 39 (v := undef) rfl rfl (by kernel_rfl) (by kernel_rfl) (by kernel_rfl) (fun _ _ _ h => h) (Or.inr ⟨by rfl, rfl⟩) hS ?_
              dsimp only [List.set]
              refine held_take 10 40 (v := undef) rfl rfl (by kernel_rfl) (by kernel_rfl) (by kernel_rfl) (fun _ _ _ h => h) (Or.inr ⟨by rfl, rfl⟩) hS ?_
              dsimp only [List.set]
              refine held_take 11 41 (v := undef) rfl rfl (by kernel_rfl) (by kernel_rfl) (by kernel_rfl) (fun _ _ _ h => h) (Or.inr ⟨by rfl, rfl⟩) hS ?_
              dsimp only [List.set]
              refine held_take 12 42 (v := undef) rfl rfl (by kernel_rfl) (by kernel_rfl) (by kernel_rfl) (fun _ _ _ h => h) (Or.inr ⟨by rfl, rfl⟩) hS ?_
              dsimp only [List.set]
              refine held_take 13 43 (v := undef) rfl rfl (by kernel_rfl) (by kernel_rfl) (by kernel_rfl) (fun _ _ _ h => h) (Or.inr ⟨by rfl, rfl⟩) hS ?_
              dsimp only [List.set]
              refine held_take 14 44 (v := undef) rfl rfl (by kernel_rfl) (by kernel_rfl) (by kernel_rfl) (fun _ _ _ h => h) (Or.inr ⟨by rfl, rfl⟩) hS ?_
              dsimp only [List.set]
              refine held_take 15 45 (v := undef) rfl rfl (by kernel_rfl) (by kernel_rfl) (by kernel_rfl) (fun _ _ _ h => h) (Or.inr ⟨by rfl, rfl⟩) hS ?_
              dsimp only [List.set]
              refine held_take 16 46 (v := undef) rfl rfl (by kernel_rfl) (by kernel_rfl) (by kernel_rfl) (fun _ _ _ h => h) (Or.inr ⟨by rfl, rfl⟩) hS ?_
              dsimp only [List.set]
              refine held_take 17 47 (v := undef) rfl rfl (by kernel_rfl) (by kernel_rfl) (by kernel_rfl) (fun _ _ _ h => h) (Or.inr ⟨by rfl, rfl⟩) hS ?_
              dsimp only [List.set]
              refine held_take 18 48 (v := undef) rfl rfl (by kernel_rfl) (by kernel_rfl) (by kernel_rfl) (fun _ _ _ h => h) (Or.inr ⟨by rfl, rfl⟩) hS ?_
              dsimp only [List.set]
              refine held_take 19 49 (v := undef) rfl rfl (by kernel_rfl) (by kernel_rfl) (by kernel_rfl) (fun _ _ _ h => h) (Or.inr ⟨by rfl, rfl⟩) hS ?_
              dsimp only [List.set]
              refine held_take 20 50 (v := .bool true) rfl rfl (by kernel_rfl) (by kernel_rfl) (by kernel_rfl) (fun _ _ _ h => h) (Or.inl ⟨by rfl, fun w h => by go_simp⟩) hS ?_
              dsimp only [List.set]
              refine held_take 21 51 (v := .pointer (some ⟨w.heap.size, i * 40, none⟩)) rfl rfl (by kernel_rfl) (by kernel_rfl) (by kernel_rfl) (fun _ _ _ h => h) (Or.inl ⟨by rfl, fun w h => by go_simp⟩) hS ?_
              dsimp only [List.set]
              refine held_take 22 52 (v := .pointer (some ⟨w.heap.size, i * 40 + k, none⟩)) rfl rfl (by kernel_rfl) (by kernel_rfl) (by kernel_rfl) (fun _ _ _ h => h) (Or.inl ⟨by rfl, fun w h => by go_simp⟩) hS ?_
              dsimp only [List.set]
              have hc0 := HW.out.c i k (by omega) (by omega)
              have hf0 := HW.out.f i k (by omega) (by omega)
              refine held_ready 23 rfl (by kernel_rfl) (fun K' hK => ?_)
              go_simp
              refine hK.out _ _ (hS.put (by omega) (by omega) _) (fun hS2 => ?_)
              clear hK hc0 hf0
              refine wpAnyH_done (by kernel_rfl) ?_ _
              have HE := Lib.hid (HW.out.put (i0 := i) (k0 := k) (by omega) (by omega) true)
              have BE := Lib.hid (HB.out.drew.setCell (p := ⟨w.heap.size, i * 40 + k, none⟩) (Nat.le_refl _) (.bool true))
              have SE := Lib.hid (row_step HD.out HR.out V.out)
              clear hS hS2
              go_wp2_with fail
              go_roundw
              case rel => exact ⟨k, _, _, by omega, rfl, by omega, HE.out, SE.out.1, SE.out.2, BE.out⟩
              case measure => simp [intOf]
            | false =>
              by_cases hlt : k < N
              · have hltI : decide ((k : Int) < N) = true := by simpa using hlt
                have E2 := Lib.hid (HR.out (k + 1) (by omega) (by rw [HN.out]; omega))
                cases h2 : F i (k + 1) with
                | true =>
                  have V := Lib.hid (show true = fit star one ps qs i k from by rw [ST.out, h1, ← E2.out, h2]; simp [hlt])
                  have H2 := HG.out.two (i := i + 1) (k := k) (i2 := i) (k2 := k + 1) (by omega) (by omega) (by omega) (by omega)
                  rw [h1, h2] at H2
                  have H2 := Lib.hid H2
                  clear h1 h2
                  have HW := Lib.hid HG.out.drew
                  refine held_start (S := fun w' => Two w' w.heap.size ((i + 1) * 40 + k) (i * 40 + (k + 1)) false true) 24 [false, false, false, false, false, false, false, false, false, false, false, false, false, false, false, false, false, false, false, false, false, false, false, false] rfl rfl (by kernel_rfl) H2.out.drew (fun hS => ?_)
                  refine held_take 0 30 (v := .int .i64 (i : Int)) rfl rfl (by kernel_rfl) (by kernel_rfl) (by kernel_rfl) (fun _ _ _ h => h) (Or.inl ⟨by rfl, fun w h => by go_simp⟩) hS ?_
                  dsimp only [List.set]
                  refine held_take 1 31 (v := .int .i64 (k : Int)) rfl rfl (by kernel_rfl) (by kernel_rfl) (by kernel_rfl) (fun _ _ _ h => h) (Or.inl ⟨by rfl, fun w h => by go_simp⟩) hS ?_
                  dsimp only [List.set]
                  refine held_take 2 32 (v := .int .i64 (i : Int)) rfl rfl (by kernel_rfl) (by kernel_rfl) (by kernel_rfl) (fun _ _ _ h => h) (Or.inl ⟨by rfl, fun w h => by go_simp⟩) hS ?_
                  dsimp only [List.set]
                  refine held_take 3 33 (v := .int .i64 ((i : Int) + 1)) rfl rfl (by kernel_rfl) (by kernel_rfl) (by kernel_rfl) (fun _ _ _ h => h) (Or.inl ⟨by rfl, fun w h => by go_simp⟩) hS ?_
                  dsimp only [List.set]
                  refine held_take 4 34 (v := .int .i64 (k : Int)) rfl rfl (by kernel_rfl) (by kernel_rfl) (by kernel_rfl) (fun _ _ _ h => h) (Or.inl ⟨by rfl, fun w h => by go_simp⟩) hS ?_
                  dsimp only [List.set]
                  refine held_take 5 35 (v := .pointer (some ⟨w.heap.size, (i + 1) * 40, none⟩)) rfl rfl (by kernel_rfl) (by kernel_rfl) (by kernel_rfl) (fun _ _ _ h => h) (Or.inl ⟨by rfl, fun w h => by go_simp⟩) hS ?_
                  dsimp only [List.set]
                  refine held_take 6 36 (v := .pointer (some ⟨w.heap.size, (i + 1) * 40 + k, none⟩)) rfl rfl (by kernel_rfl) (by kernel_rfl) (by kernel_rfl) (fun _ _ _ h => h) (Or.inl ⟨by rfl, fun w h => by go_simp⟩) hS ?_
                  dsimp only [List.set]
                  refine held_take 7 37 (v := .bool false) rfl rfl (by kernel_rfl) (by kernel_rfl) (by kernel_rfl) (fun _ _ _ h => h) (Or.inl ⟨by rfl, fun w h => by have hq := h.c1; go_simp⟩) hS ?_
                  dsimp only [List.set]
                  refine held_take 8 38 (v := .bool false) rfl rfl (by kernel_rfl) (by kernel_rfl) (by kernel_rfl) (fun _ _ _ h => h) (Or.inl ⟨by rfl, fun w h => by go_simp⟩) hS ?_
                  dsimp only [List.set]
                  refine held_take 9 39 (v := .int .i64 (k : Int)) rfl rfl (by kernel_rfl) (by kernel_rfl) (by kernel_rfl) (fun _ _ _ h => h) (Or.inl ⟨by rfl, fun w h => by go_simp⟩) hS ?_
                  dsimp only [List.set]
                  refine held_take 10 40 (v := .int .i64 (N : Int)) rfl rfl (by kernel_rfl) (by kernel_rfl) (by kernel_rfl) (fun _ _ _ h => h) (Or.inl ⟨by rfl, fun w h => by go_simp⟩) hS ?_
                  dsimp only [List.set]
                  refine held_take 11 41 (v := .bool true) rfl rfl (by kernel_rfl) (by kernel_rfl) (by kernel_rfl) (fun _ _ _ h => h) (Or.inl ⟨by rfl, fun w h => by go_simp⟩) hS ?_
                  dsimp only [List.set]
                  refine held_take 12 42 (v := .bool true) rfl rfl (by kernel_rfl) (by kernel_rfl) (by kernel_rfl) (fun _ _ _ h => h) (Or.inl ⟨by rfl, fun w h => by go_simp⟩) hS ?_
                  dsimp only [List.set]
                  refine held_take 13 43 (v := .int .i64 (i : Int)) rfl rfl (by kernel_rfl) (by kernel_rfl) (by kernel_rfl) (fun _ _ _ h => h) (Or.inl ⟨by rfl, fun w h => by go_simp⟩) hS ?_
                  dsimp only [List.set]
                  refine held_take 14 44 (v := .int .i64 (k : Int)) rfl rfl (by kernel_rfl) (by kernel_rfl) (by kernel_rfl) (fun _ _ _ h => h) (Or.inl ⟨by rfl, fun w h => by go_simp⟩) hS ?_
                  dsimp only [List.set]
                  refine held_take 15 45 (v := .int .i64 ((k : Int) + 1)) rfl rfl (by kernel_rfl) (by kernel_rfl) (by kernel_rfl) (fun _ _ _ h => h) (Or.inl ⟨by rfl, fun w h => by go_simp⟩) hS ?_
                  dsimp only [List.set]
                  refine held_take 16 46 (v := .pointer (some ⟨w.heap.size, i * 40, none⟩)) rfl rfl (by kernel_rfl) (by kernel_rfl) (by kernel_rfl) (fun _ _ _ h => h) (Or.inl ⟨by rfl, fun w h => by go_simp⟩) hS ?_
                  dsimp only [List.set]
                  refine held_take 17 47 (v := .pointer (some ⟨w.heap.size, i * 40 + (k + 1), none⟩)) rfl rfl (by kernel_rfl) (by kernel_rfl) (by kernel_rfl) (fun _ _ _ h => h) (Or.inl ⟨by rfl, fun w h => by go_simp⟩) hS ?_
                  dsimp only [List.set]
                  refine held_take 18 48 (v := .bool true) rfl rfl (by kernel_rfl) (by kernel_rfl) (by kernel_rfl) (fun _ _ _ h => h) (Or.inl ⟨by rfl, fun w h => by have hq := h.c2; go_simp⟩) hS ?_
                  dsimp only [List.set]
                  refine held_take 19 49 (v := .bool true) rfl rfl (by kernel_rfl) (by kernel_rfl) (by kernel_rfl) (fun _ _ _ h => h) (Or.inl ⟨by rfl, fun w h => by go_simp⟩) hS ?_
                  dsimp only [List.set]
                  refine held_take 20 50 (v := .bool true) rfl rfl (by kernel_rfl) (by kernel_rfl) (by kernel_rfl) (fun _ _ _ h => h) (Or.inl ⟨by rfl, fun w h => by go_simp⟩) hS ?_
                  dsimp only [List.set]
                  refine held_take 21 51 (v := .pointer (some ⟨w.heap.size, i * 40, none⟩)) rfl rfl (by kernel_rfl) (by kernel_rfl) (by kernel_rfl) (fun _ _ _ h => h) (Or.inl ⟨by rfl, fun w h => by go_simp⟩) hS ?_
                  dsimp only [List.set]
                  refine held_take 22 52 (v := .pointer (some ⟨w.heap.size, i * 40 + k, none⟩)) rfl rfl (by kernel_rfl) (by kernel_rfl) (by kernel_rfl) (fun _ _ _ h => h) (Or.inl ⟨by rfl, fun w h => by go_simp⟩) hS ?_
                  dsimp only [List.set]
                  have hc0 := HW.out.c i k (by omega) (by omega)
                  have hf0 := HW.out.f i k (by omega) (by omega)
                  refine held_ready 23 rfl (by kernel_rfl) (fun K' hK => ?_)
                  go_simp
                  refine hK.out _ _ (hS.put (by omega) (by omega) _) (fun hS2 => ?_)
                  clear hK hc0 hf0
                  refine wpAnyH_done (by kernel_rfl) ?_ _
                  have HE := Lib.hid (HW.out.put (i0 := i) (k0 := k) (by omega) (by omega) true)
                  have BE := Lib.hid (HB.out.drew.setCell (p := ⟨w.heap.size, i * 40 + k, none⟩) (Nat.le_refl _) (.bool true))
                  have SE := Lib.hid (row_step HD.out HR.out V.out)
                  clear hS hS2
                  go_wp2_with fail
                  go_roundw
                  case rel => exact ⟨k, _, _, by omega, rfl, by omega, HE.out, SE.out.1, SE.out.2, BE.out⟩
                  case measure => simp [intOf]
                | false =>
                  have V := Lib.hid (show false = fit star one ps qs i k from by rw [ST.out, h1, ← E2.out, h2]; simp)
                  have H2 := HG.out.two (i := i + 1) (k := k) (i2 := i) (k2 := k + 1) (by omega) (by omega) (by omega) (by omega)
                  rw [h1, h2] at H2
                  have H2 := Lib.hid H2
                  clear h1 h2
                  have HW := Lib.hid HG.out.drew
                  refine held_start (S := fun w' => Two w' w.heap.size ((i + 1) * 40 + k) (i * 40 + (k + 1)) false false) 24 [false, false, false, false, false, false, false, false, false, false, false, false, false, false, false, false, false, false, false, false, false, false, false, false] rfl rfl (by kernel_rfl) H2.out.drew (fun hS => ?_)
                  refine held_take 0 30 (v := .int .i64 (i : Int)) rfl rfl (by kernel_rfl) (by kernel_rfl) (by kernel_rfl) (fun _ _ _ h => h) (Or.inl ⟨by rfl, fun w h => by go_simp⟩) hS ?_
                  dsimp only [List.set]
                  refine held_take 1 31 (v := .int .i64 (k : Int)) rfl rfl (by kernel_rfl) (by kernel_rfl) (by kernel_rfl) (fun _ _ _ h => h) (Or.inl ⟨by rfl, fun w h => by go_simp⟩) hS ?_
                  dsimp only [List.set]
                  refine held_take 2 32 (v := .int .i64 (i : Int)) rfl rfl (by kernel_rfl) (by kernel_rfl) (by kernel_rfl) (fun _ _ _ h => h) (Or.inl ⟨by rfl, fun w h => by go_simp⟩) hS ?_
                  dsimp only [List.set]
                  refine held_take 3 33 (v := .int .i64 ((i : Int) + 1)) rfl rfl (by kernel_rfl) (by kernel_rfl) (by kernel_rfl) (fun _ _ _ h => h) (Or.inl ⟨by rfl, fun w h => by go_simp⟩) hS ?_
                  dsimp only [List.set]
                  refine held_take 4 34 (v := .int .i64 (k : Int)) rfl rfl (by kernel_rfl) (by kernel_rfl) (by kernel_rfl) (fun _ _ _ h => h) (Or.inl ⟨by rfl, fun w h => by go_simp⟩) hS ?_
                  dsimp only [List.set]
                  refine held_take 5 35 (v := .pointer (some ⟨w.heap.size, (i + 1) * 40, none⟩)) rfl rfl (by kernel_rfl) (by kernel_rfl) (by kernel_rfl) (fun _ _ _ h => h) (Or.inl ⟨by rfl, fun w h => by go_simp⟩) hS ?_
                  dsimp only [List.set]
                  refine held_take 6 36 (v := .pointer (some ⟨w.heap.size, (i + 1) * 40 + k, none⟩)) rfl rfl (by kernel_rfl) (by kernel_rfl) (by kernel_rfl) (fun _ _ _ h => h) (Or.inl ⟨by rfl, fun w h => by go_simp⟩) hS ?_
                  dsimp only [List.set]
                  refine held_take 7 37 (v := .bool false) rfl rfl (by kernel_rfl) (by kernel_rfl) (by kernel_rfl) (fun _ _ _ h => h) (Or.inl ⟨by rfl, fun w h => by have hq := h.c1; go_simp⟩) hS ?_
                  dsimp only [List.set]
                  refine held_take 8 38 (v := .bool false) rfl rfl (by kernel_rfl) (by kernel_rfl) (by kernel_rfl) (fun _ _ _ h => h) (Or.inl ⟨by rfl, fun w h => by go_simp⟩) hS ?_
                  dsimp only [List.set]
                  refine held_take 9 39 (v := .int .i64 (k : Int)) rfl rfl (by kernel_rfl) (by kernel_rfl) (by kernel_rfl) (fun _ _ _ h => h) (Or.inl ⟨by rfl, fun w h => by go_simp⟩) hS ?_
                  dsimp only [List.set]
                  refine held_take 10 40 (v := .int .i64 (N : Int)) rfl rfl (by kernel_rfl) (by kernel_rfl) (by kernel_rfl) (fun _ _ _ h => h) (Or.inl ⟨by rfl, fun w h => by go_simp⟩) hS ?_
                  dsimp only [List.set]
                  refine held_take 11 41 (v := .bool true) rfl rfl (by kernel_rfl) (by kernel_rfl) (by kernel_rfl) (fun _ _ _ h => h) (Or.inl ⟨by rfl, fun w h => by go_simp⟩) hS ?_
                  dsimp only [List.set]
                  refine held_take 12 42 (v := .bool true) rfl rfl (by kernel_rfl) (by kernel_rfl) (by kernel_rfl) (fun _ _ _ h => h) (Or.inl ⟨by rfl, fun w h => by go_simp⟩) hS ?_
                  dsimp only [List.set]
                  refine held_take 13 43 (v := .int .i64 (i : Int)) rfl rfl (by kernel_rfl) (by kernel_rfl) (by kernel_rfl) (fun _ _ _ h => h) (Or.inl ⟨by rfl, fun w h => by go_simp⟩) hS ?_
                  dsimp only [List.set]
                  refine held_take 14 44 (v := .int .i64 (k : Int)) rfl rfl (by kernel_rfl) (by kernel_rfl) (by kernel_rfl) (fun _ _ _ h => h) (Or.inl ⟨by rfl, fun w h => by go_simp⟩) hS ?_
                  dsimp only [List.set]
                  refine held_take 15 45 (v := .int .i64 ((k : Int) + 1)) rfl rfl (by kernel_rfl) (by kernel_rfl) (by kernel_rfl) (fun _ _ _ h => h) (Or.inl ⟨by rfl, fun w h => by go_simp⟩) hS ?_
                  dsimp only [List.set]
                  refine held_take 16 46 (v := .pointer (some ⟨w.heap.size, i * 40, none⟩)) rfl rfl (by kernel_rfl) (by kernel_rfl) (by kernel_rfl) (fun _ _ _ h => h) (Or.inl ⟨by rfl, fun w h => by go_simp⟩) hS ?_
                  dsimp only [List.set]
                  refine held_take 17 47 (v := .pointer (some ⟨w.heap.size, i * 40 + (k + 1), none⟩)) rfl rfl (by kernel_rfl) (by kernel_rfl) (by kernel_rfl) (fun _ _ _ h => h) (Or.inl ⟨by rfl, fun w h => by go_simp⟩) hS ?_
                  dsimp only [List.set]
                  refine held_take 18 48 (v := .bool false) rfl rfl (by kernel_rfl) (by kernel_rfl) (by kernel_rfl) (fun _ _ _ h => h) (Or.inl ⟨by rfl, fun w h => by have hq := h.c2; go_simp⟩) hS ?_
                  dsimp only [List.set]
                  refine held_take 19 49 (v := .bool false) rfl rfl (by kernel_rfl) (by kernel_rfl) (by kernel_rfl) (fun _ _ _ h => h) (Or.inl ⟨by rfl, fun w h => by go_simp⟩) hS ?_
                  dsimp only [List.set]
                  refine held_take 20 50 (v := .bool false) rfl rfl (by kernel_rfl) (by kernel_rfl) (by kernel_rfl) (fun _ _ _ h => h) (Or.inl ⟨by rfl, fun w h => by go_simp⟩) hS ?_
                  dsimp only [List.set]
                  refine held_take 21 51 (v := .pointer (some ⟨w.heap.size, i * 40, none⟩)) rfl rfl (by kernel_rfl) (by kernel_rfl) (by kernel_rfl) (fun _ _ _ h => h) (Or.inl ⟨by rfl, fun w h => by go_simp⟩) hS ?_
                  dsimp only [List.set]
                  refine held_take 22 52 (v := .pointer (some ⟨w.heap.size, i * 40 + k, none⟩)) rfl rfl (by kernel_rfl) (by kernel_rfl) (by kernel_rfl) (fun _ _ _ h => h) (Or.inl ⟨by rfl, fun w h => by go_simp⟩) hS ?_
                  dsimp only [List.set]
                  have hc0 := HW.out.c i k (by omega) (by omega)
                  have hf0 := HW.out.f i k (by omega) (by omega)
                  refine held_ready 23 rfl (by kernel_rfl) (fun K' hK => ?_)
                  go_simp
                  refine hK.out _ _ (hS.put (by omega) (by omega) _) (fun hS2 => ?_)
                  clear hK hc0 hf0
                  refine wpAnyH_done (by kernel_rfl) ?_ _
                  have HE := Lib.hid (HW.out.put (i0 := i) (k0 := k) (by omega) (by omega) false)
                  have BE := Lib.hid (HB.out.drew.setCell (p := ⟨w.heap.size, i * 40 + k, none⟩) (Nat.le_refl _) (.bool false))
                  have SE := Lib.hid (row_step HD.out HR.out V.out)
                  clear hS hS2
                  go_wp2_with fail
                  go_roundw
                  case rel => exact ⟨k, _, _, by omega, rfl, by omega, HE.out, SE.out.1, SE.out.2, BE.out⟩
                  case measure => simp [intOf]
              · have hltI : decide ((k : Int) < N) = false := by simpa using hlt
                have V := Lib.hid (show false = fit star one ps qs i k from by rw [ST.out, h1]; simp [hlt])
                have H2 := HG.out.two (i := i + 1) (k := k) (i2 := i + 1) (k2 := k) (by omega) (by omega) (by omega) (by omega)
                rw [h1] at H2
                have H2 := Lib.hid H2
                clear h1
                have HW := Lib.hid HG.out.drew
                refine held_start (S := fun w' => Two w' w.heap.size ((i + 1) * 40 + k) ((i + 1) * 40 + k) false false) 24 [false, false, false, false, false, false, false, false, false, false, false, false, false, false, false, false, false, false, false, false, false, false, false, false] rfl rfl (by kernel_rfl) H2.out.drew (fun hS => ?_)
                refine held_take 0 30 (v := .int .i64 (i : Int)) rfl rfl (by kernel_rfl) (by kernel_rfl) (by kernel_rfl) (fun _ _ _ h => h) (Or.inl ⟨by rfl, fun w h => by go_simp⟩) hS ?_
                dsimp only [List.set]
                refine held_take 1 31 (v := .int .i64 (k : Int)) rfl rfl (by kernel_rfl) (by kernel_rfl) (by kernel_rfl) (fun _ _ _ h => h) (Or.inl ⟨by rfl, fun w h => by go_simp⟩) hS ?_
                dsimp only [List.set]
                refine held_take 2 32 (v := .int .i64 (i : Int)) rfl rfl (by kernel_rfl) (by kernel_rfl) (by kernel_rfl) (fun _ _ _ h => h) (Or.inl ⟨by rfl, fun w h => by go_simp⟩) hS ?_
                dsimp only [List.set]
                refine held_take 3 33 (v := .int .i64 ((i : Int) + 1)) rfl rfl (by kernel_rfl) (by kernel_rfl) (by kernel_rfl) (fun _ _ _ h => h) (Or.inl ⟨by rfl, fun w h => by go_simp⟩) hS ?_
                dsimp only [List.set]
                refine held_take 4 34 (v := .int .i64 (k : Int)) rfl rfl (by kernel_rfl) (by kernel_rfl) (by kernel_rfl) (fun _ _ _ h => h) (Or.inl ⟨by rfl, fun w h => by go_simp⟩) hS ?_
                dsimp only [List.set]
                refine held_take 5 35 (v := .pointer (some ⟨w.heap.size, (i + 1) * 40, none⟩)) rfl rfl (by kernel_rfl) (by kernel_rfl) (by kernel_rfl) (fun _ _ _ h => h) (Or.inl ⟨by rfl, fun w h => by go_simp⟩) hS ?_
                dsimp only [List.set]
                refine held_take 6 36 (v := .pointer (some ⟨w.heap.size, (i + 1) * 40 + k, none⟩)) rfl rfl (by kernel_rfl) (by kernel_rfl) (by kernel_rfl) (fun _ _ _ h => h) (Or.inl ⟨by rfl, fun w h => by go_simp⟩) hS ?_
                dsimp only [List.set]
                refine held_take 7 37 (v := .bool false) rfl rfl (by kernel_rfl) (by kernel_rfl) (by kernel_rfl) (fun _ _ _ h => h) (Or.inl ⟨by rfl, fun w h => by have hq := h.c1; go_simp⟩) hS ?_
                dsimp only [List.set]
                refine held_take 8 38 (v := .bool false) rfl rfl (by kernel_rfl) (by kernel_rfl) (by kernel_rfl) (fun _ _ _ h => h) (Or.inl ⟨by rfl, fun w h => by go_simp⟩) hS ?_
                dsimp only [List.set]
                refine held_take 9 39 (v := .int .i64 (k : Int)) rfl rfl (by kernel_rfl) (by kernel_rfl) (by kernel_rfl) (fun _ _ _ h => h) (Or.inl ⟨by rfl, fun w h => by go_simp⟩) hS ?_
                dsimp only [List.set]
                refine held_take 10 40 (v := .int .i64 (N : Int)) rfl rfl (by kernel_rfl) (by kernel_rfl) (by kernel_rfl) (fun _ _ _ h => h) (Or.inl ⟨by rfl, fun w h => by go_simp⟩) hS ?_
                dsimp only [List.set]
                refine held_take 11 41 (v := .bool false) rfl rfl (by kernel_rfl) (by kernel_rfl) (by kernel_rfl) (fun _ _ _ h => h) (Or.inl ⟨by rfl, fun w h => by go_simp⟩) hS ?_
                dsimp only [List.set]
                refine held_take 12 42 (v := .bool false) rfl rfl (by kernel_rfl) (by kernel_rfl) (by kernel_rfl) (fun _ _ _ h => h) (Or.inl ⟨by rfl, fun w h => by go_simp⟩) hS ?_
                dsimp only [List.set]
                refine held_take 13 43 (v := undef) rfl rfl (by kernel_rfl) (by kernel_rfl) (by kernel_rfl) (fun _ _ _ h => h) (Or.inr ⟨by rfl, rfl⟩) hS ?_
                dsimp only [List.set]
                refine held_take 14 44 (v := undef) rfl rfl (by kernel_rfl) (by kernel_rfl) (by kernel_rfl) (fun _ _ _ h => h) (Or.inr ⟨by rfl, rfl⟩) hS ?_
                dsimp only [List.set]
                refine held_take 15 45 (v := undef) rfl rfl (by kernel_rfl) (by kernel_rfl) (by kernel_rfl) (fun _ _ _ h => h) (Or.inr ⟨by rfl, rfl⟩) hS ?_
                dsimp only [List.set]
                refine held_take 16 46 (v := undef) rfl rfl (by kernel_rfl) (by kernel_rfl) (by kernel_rfl) (fun _ _ _ h => h) (Or.inr ⟨by rfl, rfl⟩) hS ?_
                dsimp only [List.set]
                refine held_take 17 47 (v := undef) rfl rfl (by kernel_rfl) (by kernel_rfl) (by kernel_rfl) (fun _ _ _ h => h) (Or.inr ⟨by rfl, rfl⟩) hS ?_
                dsimp only [List.set]
                refine held_take 18 48 (v := undef) rfl rfl (by kernel_rfl) (by kernel_rfl) (by kernel_rfl) (fun _ _ _ h => h) (Or.inr ⟨by rfl, rfl⟩) hS ?_
                dsimp only [List.set]
                refine held_take 19 49 (v := .bool false) rfl rfl (by kernel_rfl) (by kernel_rfl) (by kernel_rfl) (fun _ _ _ h => h) (Or.inl ⟨by rfl, fun w h => by go_simp⟩) hS ?_
                dsimp only [List.set]
                refine held_take 20 50 (v := .bool false) rfl rfl (by kernel_rfl) (by kernel_rfl) (by kernel_rfl) (fun _ _ _ h => h) (Or.inl ⟨by rfl, fun w h => by go_simp⟩) hS ?_
                dsimp only [List.set]
                refine held_take 21 51 (v := .pointer (some ⟨w.heap.size, i * 40, none⟩)) rfl rfl (by kernel_rfl) (by kernel_rfl) (by kernel_rfl) (fun _ _ _ h => h) (Or.inl ⟨by rfl, fun w h => by go_simp⟩) hS ?_
                dsimp only [List.set]
                refine held_take 22 52 (v := .pointer (some ⟨w.heap.size, i * 40 + k, none⟩)) rfl rfl (by kernel_rfl) (by kernel_rfl) (by kernel_rfl) (fun _ _ _ h => h) (Or.inl ⟨by rfl, fun w h => by go_simp⟩) hS ?_
                dsimp only [List.set]
                have hc0 := HW.out.c i k (by omega) (by omega)
                have hf0 := HW.out.f i k (by omega) (by omega)
                refine held_ready 23 rfl (by kernel_rfl) (fun K' hK => ?_)
                go_simp
                refine hK.out _ _ (hS.put (by omega) (by omega) _) (fun hS2 => ?_)
                clear hK hc0 hf0
                refine wpAnyH_done (by kernel_rfl) ?_ _
                have HE := Lib.hid (HW.out.put (i0 := i) (k0 := k) (by omega) (by omega) false)
                have BE := Lib.hid (HB.out.drew.setCell (p := ⟨w.heap.size, i * 40 + k, none⟩) (Nat.le_refl _) (.bool false))
                have SE := Lib.hid (row_step HD.out HR.out V.out)
                clear hS hS2
                go_wp2_with fail
                go_roundw
                case rel => exact ⟨k, _, _, by omega, rfl, by omega, HE.out, SE.out.1, SE.out.2, BE.out⟩
                case measure => simp [intOf]
          | false =>
            go_wp2_with (go_at_fn ks; refine (CS.out i a _ HA.out HB.out).mono ?_; rw [hs]; rintro e w' ⟨rfl, rfl⟩)
            by_cases hlt : k < N
            · have hltI : decide ((k : Int) < N) = true := by simpa using hlt
              obtain ⟨b, hqb⟩ : ∃ b, qs[k]? = some b := ⟨_, List.getElem?_eq_getElem (by rw [HN.out]; omega)⟩
              have HQ := Lib.hid hqb
              clear hqb
              have E1 := Lib.hid (HD.out (i + 1) (k + 1) (by omega) (by rw [HP.out]; omega) (by rw [HN.out]; omega))
              have ST := Lib.hid (fit_one star one ps qs HA.out hs HQ.out)
              rw [← E1.out] at ST
              cases h1 : F (i + 1) (k + 1) with
              | true =>
                have V := Lib.hid (show one a b = fit star one ps qs i k from by rw [ST.out, h1]; rfl)
                have H2 := HG.out.two (i := i + 1) (k := k + 1) (i2 := i + 1) (k2 := k + 1) (by omega) (by omega) (by omega) (by omega)
                rw [h1] at H2
                have H2 := Lib.hid H2
                clear h1
                have HW := Lib.hid HG.out.drew
                refine held_start (S := fun w' => Two w' w.heap.size ((i + 1) * 40 + (k + 1)) ((i + 1) * 40 + (k + 1)) true true) 23 [false, false, false, false, false, false, false, false, false, false, false, false, false, false, false, false, false, false, false, false, false, false, false] rfl rfl (by kernel_rfl) H2.out.drew (fun hS => ?_)
                refine held_take 0 53 (v := .int .i64 (i : Int)) rfl rfl (by kernel_rfl) (by kernel_rfl) (by kernel_rfl) (fun _ _ _ h => h) (Or.inl ⟨by rfl, fun w h => by go_simp⟩) hS ?_
                dsimp only [List.set]
                refine held_take 1 54 (v := .int .i64 (k : Int)) rfl rfl (by kernel_rfl) (by kernel_rfl) (by kernel_rfl) (fun _ _ _ h => h) (Or.inl ⟨by rfl, fun w h => by go_simp⟩) hS ?_
                dsimp only [List.set]
                refine held_take 2 55 (v := .int .i64 (k : Int)) rfl rfl (by kernel_rfl) (by kernel_rfl) (by kernel_rfl) (fun _ _ _ h => h) (Or.inl ⟨by rfl, fun w h => by go_simp⟩) hS ?_
                dsimp only [List.set]
                refine held_take 3 56 (v := .int .i64 (N : Int)) rfl rfl (by kernel_rfl) (by kernel_rfl) (by kernel_rfl) (fun _ _ _ h => h) (Or.inl ⟨by rfl, fun w h => by go_simp⟩) hS ?_
                dsimp only [List.set]
                refine held_take 4 57 (v := .bool true) rfl rfl (by kernel_rfl) (by kernel_rfl) (by kernel_rfl) (fun _ _ _ h => h) (Or.inl ⟨by rfl, fun w h => by go_simp⟩) hS ?_
                dsimp only [List.set]
                refine held_take 5 58 (v := .bool true) rfl rfl (by kernel_rfl) (by kernel_rfl) (by kernel_rfl) (fun _ _ _ h => h) (Or.inl ⟨by rfl, fun w h => by go_simp⟩) hS ?_
                dsimp only [List.set]
                refine held_take 6 59 (v := .int .i64 (i : Int)) rfl rfl (by kernel_rfl) (by kernel_rfl) (by kernel_rfl) (fun _ _ _ h => h) (Or.inl ⟨by rfl, fun w h => by go_simp⟩) hS ?_
                dsimp only [List.set]
                refine held_take 7 60 (v := .int .i64 ((i : Int) + 1)) rfl rfl (by kernel_rfl) (by kernel_rfl) (by kernel_rfl) (fun _ _ _ h => h) (Or.inl ⟨by rfl, fun w h => by go_simp⟩) hS ?_
                dsimp only [List.set]
                refine held_take 8 61 (v := .int .i64 (k : Int)) rfl rfl (by kernel_rfl) (by kernel_rfl) (by kernel_rfl) (fun _ _ _ h => h) (Or.inl ⟨by rfl, fun w h => by go_simp⟩) hS ?_
                dsimp only [List.set]
                refine held_take 9 62 (v := .int .i64 ((k : Int) + 1)) rfl rfl (by kernel_rfl) (by kernel_rfl) (by kernel_rfl) (fun _ _ _ h => h) (Or.inl ⟨by rfl, fun w h => by go_simp⟩) hS ?_
                dsimp only [List.set]
                refine held_take 10 63 (v := .pointer (some ⟨w.heap.size, (i + 1) * 40, none⟩)) rfl rfl (by kernel_rfl) (by kernel_rfl) (by kernel_rfl) (fun _ _ _ h => h) (Or.inl ⟨by rfl, fun w h => by go_simp⟩) hS ?_
                dsimp only [List.set]
                refine held_take 11 64 (v := .pointer (some ⟨w.heap.size, (i + 1) * 40 + (k + 1), none⟩)) rfl rfl (by kernel_rfl) (by kernel_rfl) (by kernel_rfl) (fun _ _ _ h => h) (Or.inl ⟨by rfl, fun w h => by go_simp⟩) hS ?_
                dsimp only [List.set]
                refine held_take 12 65 (v := .bool true) rfl rfl (by kernel_rfl) (by kernel_rfl) (by kernel_rfl) (fun _ _ _ h => h) (Or.inl ⟨by rfl, fun w h => by have hq := h.c1; go_simp⟩) hS ?_
                dsimp only [List.set]
                refine held_take 13 66 (v := .bool true) rfl rfl (by kernel_rfl) (by kernel_rfl) (by kernel_rfl) (fun _ _ _ h => h) (Or.inl ⟨by rfl, fun w h => by go_simp⟩) hS ?_
                dsimp only [List.set]
                refine held_take 14 67 (v := .bool true) rfl rfl (by kernel_rfl) (by kernel_rfl) (by kernel_rfl) (fun _ _ _ h => h) (Or.inl ⟨by rfl, fun w h => by go_simp⟩) hS ?_
                dsimp only [List.set]
                refine held_take 15 68 (v := .func (.func ko) #[] lo) rfl rfl (by kernel_rfl) (by kernel_rfl) (by kernel_rfl) (fun _ _ _ h => h) (Or.inl ⟨by rfl, fun w h => by go_simp⟩) hS ?_
                dsimp only [List.set]
                refine held_take 16 69 (v := .int .i64 (i : Int)) rfl rfl (by kernel_rfl) (by kernel_rfl) (by kernel_rfl) (fun _ _ _ h => h) (Or.inl ⟨by rfl, fun w h => by go_simp⟩) hS ?_
                dsimp only [List.set]
                refine held_take 17 70 (v := .int .i64 (k : Int)) rfl rfl (by kernel_rfl) (by kernel_rfl) (by kernel_rfl) (fun _ _ _ h => h) (Or.inl ⟨by rfl, fun w h => by go_simp⟩) hS ?_
                dsimp only [List.set]
                refine held_take 20 73 (v := .pointer (some ⟨w.heap.size, i * 40, none⟩)) rfl rfl (by kernel_rfl) (by kernel_rfl) (by kernel_rfl) (fun _ _ _ h => h) (Or.inl ⟨by rfl, fun w h => by go_simp⟩) hS ?_
                dsimp only [List.set]
                refine held_ready 18 rfl (by kernel_rfl) (fun K' hK => ?_)
                go_simp
                refine (CO.out i k a b _ HA.out HQ.out HB.out.drew).mono ?_
                rintro e w2 ⟨rfl, hb⟩
                have HW' := Lib.hid (HW.out.below hb)
                have HB2 := Lib.hid (HB.out.drew.trans (hb.mono HB.out.drew.size))
                refine hK.out _ _ (hS.below hb) (fun hS' => ?_)
                clear hK hS hb HW
                have HW := HW'
                have hS := hS'
                clear HW' hS'
                dsimp only [List.set]
                refine held_take 19 72 (v := .bool (one a b)) rfl rfl (by kernel_rfl) (by kernel_rfl) (by kernel_rfl) (fun _ _ _ h => h) (Or.inl ⟨by rfl, fun w h => by go_simp⟩) hS ?_
                dsimp only [List.set]
                refine held_take 21 74 (v := .pointer (some ⟨w.heap.size, i * 40 + k, none⟩)) rfl rfl (by kernel_rfl) (by kernel_rfl) (by kernel_rfl) (fun _ _ _ h => h) (Or.inl ⟨by rfl, fun w h => by go_simp⟩) hS ?_
                dsimp only [List.set]
                have hc0 := HW.out.c i k (by omega) (by omega)
                have hf0 := HW.out.f i k (by omega) (by omega)
                refine held_ready 22 rfl (by kernel_rfl) (fun K' hK => ?_)
                go_simp
                refine hK.out _ _ (hS.put (by omega) (by omega) _) (fun hS2 => ?_)
                clear hK hc0 hf0
                refine wpAnyH_done (by kernel_rfl) ?_ _
                have HE := Lib.hid (HW.out.put (i0 := i) (k0 := k) (by omega) (by omega) (one a b))
                have BE := Lib.hid (HB2.out.setCell (p := ⟨w.heap.size, i * 40 + k, none⟩) (Nat.le_refl _) (.bool (one a b)))
                have SE := Lib.hid (row_step HD.out HR.out V.out)
                clear hS hS2
                go_wp2_with fail
                go_roundw
                case rel => exact ⟨k, _, _, by omega, rfl, by omega, HE.out, SE.out.1, SE.out.2, BE.out⟩
                case measure => simp [intOf]
              | false =>
                have V := Lib.hid (show false = fit star one ps qs i k from by rw [ST.out, h1]; rfl)
                have H2 := HG.out.two (i := i + 1) (k := k + 1) (i2 := i + 1) (k2 := k + 1) (by omega) (by omega) (by omega) (by omega)
                rw [h1] at H2
                have H2 := Lib.hid H2
                clear h1
                have HW := Lib.hid HG.out.drew
                refine held_start (S := fun w' => Two w' w.heap.size ((i + 1) * 40 + (k + 1)) ((i + 1) * 40 + (k + 1)) false false) 23 [false, false, false, false, false, false, false, false, false, false, false, false, false, false, false, false, false, false, false, false, false, false, false] rfl rfl (by kernel_rfl) H2.out.drew (fun hS => ?_)
                refine held_take 0 53 (v := .int .i64 (i : Int)) rfl rfl (by kernel_rfl) (by kernel_rfl) (by kernel_rfl) (fun _ _ _ h => h) (Or.inl ⟨by rfl, fun w h => by go_simp⟩) hS ?_
                dsimp only [List.set]
                refine held_take 1 54 (v := .int .i64 (k : Int)) rfl rfl (by kernel_rfl) (by kernel_rfl) (by kernel_rfl) (fun _ _ _ h => h) (Or.inl ⟨by rfl, fun w h => by go_simp⟩) hS ?_
                dsimp only [List.set]
                refine held_take 2 55 (v := .int .i64 (k : Int)) rfl rfl (by kernel_rfl) (by kernel_rfl) (by kernel_rfl) (fun _ _ _ h => h) (Or.inl ⟨by rfl, fun w h => by go_simp⟩) hS ?_
                dsimp only [List.set]
                refine held_take 3 56 (v := .int .i64 (N : Int)) rfl rfl (by kernel_rfl) (by kernel_rfl) (by kernel_rfl) (fun _ _ _ h => h) (Or.inl ⟨by rfl, fun w h => by go_simp⟩) hS ?_
                dsimp only [List.set]
                refine held_take 4 57 (v := .bool true) rfl rfl (by kernel_rfl) (by kernel_rfl) (by kernel_rfl) (fun _ _ _ h => h) (Or.inl ⟨by rfl, fun w h => by go_simp⟩) hS ?_
                dsimp only [List.set]
                refine held_take 5 58 (v := .bool true) rfl rfl (by kernel_rfl) (by kernel_rfl) (by kernel_rfl) (fun _ _ _ h => h) (Or.inl ⟨by rfl, fun w h => by go_simp⟩) hS ?_
                dsimp only [List.set]
                refine held_take 6 59 (v := .int .i64 (i : Int)) rfl rfl (by kernel_rfl) (by kernel_rfl) (by kernel_rfl) (fun _ _ _ h => h) (Or.inl ⟨by rfl, fun w h => by go_simp⟩) hS ?_
                dsimp only [List.set]
                refine held_take 7 60 (v := .int .i64 ((i : Int) + 1)) rfl rfl (by kernel_rfl) (by kernel_rfl) (by kernel_rfl) (fun _ _ _ h => h) (Or.inl ⟨by rfl, fun w h => by go_simp⟩) hS ?_
                dsimp only [List.set]
                refine held_take 8 61 (v := .int .i64 (k : Int)) rfl rfl (by kernel_rfl) (by kernel_rfl) (by kernel_rfl) (fun _ _ _ h => h) (Or.inl ⟨by rfl, fun w h => by go_simp⟩) hS ?_
                dsimp only [List.set]
                refine held_take 9 62 (v := .int .i64 ((k : Int) + 1)) rfl rfl (by kernel_rfl) (by kernel_rfl) (by kernel_rfl) (fun _ _ _ h => h) (Or.inl ⟨by rfl, fun w h => by go_simp⟩) hS ?_
                dsimp only [List.set]
                refine held_take 10 63 (v := .pointer (some ⟨w.heap.size, (i + 1) * 40, none⟩)) rfl rfl (by kernel_rfl) (by kernel_rfl) (by kernel_rfl) (fun _ _ _ h => h) (Or.inl ⟨by rfl, fun w h => by go_simp⟩) hS ?_
                dsimp only [List.set]
                refine held_take 11 64 (v := .pointer (some ⟨w.heap.size, (i + 1) * 40 + (k + 1), none⟩)) rfl rfl (by kernel_rfl) (by kernel_rfl) (by kernel_rfl) (fun _ _ _ h => h) (Or.inl ⟨by rfl, fun w h => by go_simp⟩) hS ?_
                dsimp only [List.set]
                refine held_take 12 65 (v := .bool false) rfl rfl (by kernel_rfl) (by kernel_rfl) (by kernel_rfl) (fun _ _ _ h => h) (Or.inl ⟨by rfl, fun w h => by have hq := h.c1; go_simp⟩) hS ?_
                dsimp only [List.set]
                refine held_take 13 66 (v := .bool false) rfl rfl (by kernel_rfl) (by kernel_rfl) (by kernel_rfl) (fun _ _ _ h => h) (Or.inl ⟨by rfl, fun w h => by go_simp⟩) hS ?_
                dsimp only [List.set]
                refine held_take 14 67 (v := .bool false) rfl rfl (by kernel_rfl) (by kernel_rfl) (by kernel_rfl) (fun _ _ _ h => h) (Or.inl ⟨by rfl, fun w h => by go_simp⟩) hS ?_
                dsimp only [List.set]
                refine held_take 15 68 (v := undef) rfl rfl (by kernel_rfl) (by kernel_rfl) (by kernel_rfl) (fun _ _ _ h => h) (Or.inr ⟨by rfl, rfl⟩) hS ?_
                dsimp only [List.set]
                refine held_take 16 69 (v := undef) rfl rfl (by kernel_rfl) (by kernel_rfl) (by kernel_rfl) (fun _ _ _ h => h) (Or.inr ⟨by rfl, rfl⟩) hS ?_
                dsimp only [List.set]
                refine held_take 17 70 (v := undef) rfl rfl (by kernel_rfl) (by kernel_rfl) (by kernel_rfl) (fun _ _ _ h => h) (Or.inr ⟨by rfl, rfl⟩) hS ?_
                dsimp only [List.set]
                refine held_take 18 71 (v := undef) rfl rfl (by kernel_rfl) (by kernel_rfl) (by kernel_rfl) (fun _ _ _ h => h) (Or.inr ⟨by rfl, rfl⟩) hS ?_
                dsimp only [List.set]
                refine held_take 19 72 (v := .bool false) rfl rfl (by kernel_rfl) (by kernel_rfl) (by kernel_rfl) (fun _ _ _ h => h) (Or.inl ⟨by rfl, fun w h => by go_simp⟩) hS ?_
                dsimp only [List.set]
                refine held_take 20 73 (v := .pointer (some ⟨w.heap.size, i * 40, none⟩)) rfl rfl (by kernel_rfl) (by kernel_rfl) (by kernel_rfl) (fun _ _ _ h => h) (Or.inl ⟨by rfl, fun w h => by go_simp⟩) hS ?_
                dsimp only [List.set]
                refine held_take 21 74 (v := .pointer (some ⟨w.heap.size, i * 40 + k, none⟩)) rfl rfl (by kernel_rfl) (by kernel_rfl) (by kernel_rfl) (fun _ _ _ h => h) (Or.inl ⟨by rfl, fun w h => by go_simp⟩) hS ?_
                dsimp only [List.set]
                have hc0 := HW.out.c i k (by omega) (by omega)
                have hf0 := HW.out.f i k (by omega) (by omega)
                refine held_ready 22 rfl (by kernel_rfl) (fun K' hK => ?_)
                go_simp
                refine hK.out _ _ (hS.put (by omega) (by omega) _) (fun hS2 => ?_)
                clear hK hc0 hf0
                refine wpAnyH_done (by kernel_rfl) ?_ _
                have HE := Lib.hid (HW.out.put (i0 := i) (k0 := k) (by omega) (by omega) false)
                have BE := Lib.hid (HB.out.drew.setCell (p := ⟨w.heap.size, i * 40 + k, none⟩) (Nat.le_refl _) (.bool false))
                have SE := Lib.hid (row_step HD.out HR.out V.out)
                clear hS hS2
                go_wp2_with fail
                go_roundw
                case rel => exact ⟨k, _, _, by omega, rfl, by omega, HE.out, SE.out.1, SE.out.2, BE.out⟩
                case measure => simp [intOf]
            · have hltI : decide ((k : Int) < N) = false := by simpa using hlt
              obtain rfl : k = N := by omega
              have V := Lib.hid (show false = fit star one ps qs i k from by have := fit_none star one ps qs HA.out hs; rw [HN.out] at this; exact this.symm)
              obtain ⟨b0, hb0⟩ : ∃ b0, F i (k + 1) = b0 := ⟨_, rfl⟩
              have H2 := HG.out.two (i := i) (k := k + 1) (i2 := i) (k2 := k + 1) (by omega) (by omega) (by omega) (by omega)
              rw [hb0] at H2
              have H2 := Lib.hid H2
              clear hb0
              have HW := Lib.hid HG.out.drew
              refine held_start (S := fun w' => Two w' w.heap.size (i * 40 + k + 1) (i * 40 + k + 1) b0 b0) 23 [false, false, false, false, false, false, false, false, false, false, false, false, false, false, false, false, false, false, false, false, false, false, false] rfl rfl (by kernel_rfl) H2.out.drew (fun hS => ?_)
              refine held_take 0 53 (v := .int .i64 (i : Int)) rfl rfl (by kernel_rfl) (by kernel_rfl) (by kernel_rfl) (fun _ _ _ h => h) (Or.inl ⟨by rfl, fun w h => by go_simp⟩) hS ?_
              dsimp only [List.set]
              refine held_take 1 54 (v := .int .i64 (k : Int)) rfl rfl (by kernel_rfl) (by kernel_rfl) (by kernel_rfl) (fun _ _ _ h => h) (Or.inl ⟨by rfl, fun w h => by go_simp⟩) hS ?_
              dsimp only [List.set]
              refine held_take 2 55 (v := .int .i64 (k : Int)) rfl rfl (by kernel_rfl) (by kernel_rfl) (by kernel_rfl) (fun _ _ _ h => h) (Or.inl ⟨by rfl, fun w h => by go_simp⟩) hS ?_
              dsimp only [List.set]
              refine held_take 3 56 (v := .int .i64 (k : Int)) rfl rfl (by kernel_rfl) (by kernel_rfl) (by kernel_rfl) (fun _ _ _ h => h) (Or.inl ⟨by rfl, fun w h => by go_simp⟩) hS ?_
              dsimp only [List.set]
              refine held_take 4 57 (v := .bool false) rfl rfl (by kernel_rfl) (by kernel_rfl) (by kernel_rfl) (fun _ _ _ h => h) (Or.inl ⟨by rfl, fun w h => by go_simp⟩) hS ?_
              dsimp only [List.set]
              refine held_take 5 58 (v := .bool false) rfl rfl (by kernel_rfl) (by kernel_rfl) (by kernel_rfl) (fun _ _ _ h => h) (Or.inl ⟨by rfl, fun w h => by go_simp⟩) hS ?_
              dsimp only [List.set]
              refine held_take 6 59 (v := undef) rfl rfl (by kernel_rfl) (by kernel_rfl) (by kernel_rfl) (fun _ _ _ h => h) (Or.inr ⟨by rfl, rfl⟩) hS ?_
              dsimp only [List.set]
              refine held_take 7 60 (v := undef) rfl rfl (by kernel_rfl) (by kernel_rfl) (by kernel_rfl) (fun _ _ _ h => h) (Or.inr ⟨by rfl, rfl⟩) hS ?_
              dsimp only [List.set]
              refine held_take 8 61 (v := undef) rfl rfl (by kernel_rfl) (by kernel_rfl) (by kernel_rfl) (fun _ _ _ h => h) (Or.inr ⟨by rfl, rfl⟩) hS ?_
              dsimp only [List.set]
              refine held_take 9 62 (v := undef) rfl rfl (by kernel_rfl) (by kernel_rfl) (by kernel_rfl) (fun _ _ _ h => h) (Or.inr ⟨by rfl, rfl⟩) hS ?_
              dsimp only [List.set]
              refine held_take 10 63 (v := undef) rfl rfl (by kernel_rfl) (by kernel_rfl) (by kernel_rfl) (fun _ _ _ h => h) (Or.inr ⟨by rfl, rfl⟩) hS ?_
              dsimp only [List.set]
              refine held_take 11 64 (v := undef) rfl rfl (by kernel_rfl) (by kernel_rfl) (by kernel_rfl) (fun _ _ _ h => h) (Or.inr ⟨by rfl, rfl⟩) hS ?_
              dsimp only [List.set]
              refine held_take 12 65 (v := undef) rfl rfl (by kernel_rfl) (by kernel_rfl) (by kernel_rfl) (fun _ _ _ h => h) (Or.inr ⟨by rfl, rfl⟩) hS ?_
              dsimp only [List.set]
              refine held_take 13 66 (v := .bool false) rfl rfl (by kernel_rfl) (by kernel_rfl) (by kernel_rfl) (fun _ _ _ h => h) (Or.inl ⟨by rfl, fun w h => by go_simp⟩) hS ?_
              dsimp only [List.set]
              refine held_take 14 67 (v := .bool false) rfl rfl (by kernel_rfl) (by kernel_rfl) (by kernel_rfl) (fun _ _ _ h => h) (Or.inl ⟨by rfl, fun w h => by go_simp⟩) hS ?_
              dsimp only [List.set]
              refine held_take 15 68 (v := undef) rfl rfl (by kernel_rfl) (by kernel_rfl) (by kernel_rfl) (fun _ _ _ h => h) (Or.inr ⟨by rfl, rfl⟩) hS ?_
              dsimp only [List.set]
              refine held_take 16 69 (v := undef) rfl rfl (by kernel_rfl) (by kernel_rfl) (by kernel_rfl) (fun _ _ _ h => h) (Or.inr ⟨by rfl, rfl⟩) hS ?_
              dsimp only [List.set]
              refine held_take 17 70 (v := undef) rfl rfl (by kernel_rfl) (by kernel_rfl) (by kernel_rfl) (fun _ _ _ h => h) (Or.inr ⟨by rfl, rfl⟩) hS ?_
              dsimp only [List.set]
              refine held_take 18 71 (v := undef) rfl rfl (by kernel_rfl) (by kernel_rfl) (by kernel_rfl) (fun _ _ _ h => h) (Or.inr ⟨by rfl, rfl⟩) hS ?_
              dsimp only [List.set]
              refine held_take 19 72 (v := .bool false) rfl rfl (by kernel_rfl) (by kernel_rfl) (by kernel_rfl) (fun _ _ _ h => h) (Or.inl ⟨by rfl, fun w h => by go_simp⟩) hS ?_
              dsimp only [List.set]
              refine held_take 20 73 (v := .pointer (some ⟨w.heap.size, i * 40, none⟩)) rfl rfl (by kernel_rfl) (by kernel_rfl) (by kernel_rfl) (fun _ _ _ h => h) (Or.inl ⟨by rfl, fun w h => by go_simp⟩) hS ?_
              dsimp only [List.set]
              refine held_take 21 74 (v := .pointer (some ⟨w.heap.size, i * 40 + k, none⟩)) rfl rfl (by kernel_rfl) (by kernel_rfl) (by kernel_rfl) (fun _ _ _ h => h) (Or.inl ⟨by rfl, fun w h => by go_simp⟩) hS ?_
              dsimp only [List.set]
              have hc0 := HW.out.c i k (by omega) (by omega)
              have hf0 := HW.out.f i k (by omega) (by omega)
              refine held_ready 22 rfl (by kernel_rfl) (fun K' hK => ?_)
              go_simp
              refine hK.out _ _ (hS.put (by omega) (by omega) _) (fun hS2 => ?_)
              clear hK hc0 hf0
              refine wpAnyH_done (by kernel_rfl) ?_ _
              have HE := Lib.hid (HW.out.put (i0 := i) (k0 := k) (by omega) (by omega) false)
              have BE := Lib.hid (HB.out.drew.setCell (p := ⟨w.heap.size, i * 40 + k, none⟩) (Nat.le_refl _) (.bool false))
              have SE := Lib.hid (row_step HD.out HR.out V.out)
              clear hS hS2
              go_wp2_with fail
              go_roundw
              case rel => exact ⟨k, _, _, by omega, rfl, by omega, HE.out, SE.out.1, SE.out.2, BE.out⟩
              case measure => simp [intOf]
end Go.Proofs.YtkoaeldlflncpaaDoor
