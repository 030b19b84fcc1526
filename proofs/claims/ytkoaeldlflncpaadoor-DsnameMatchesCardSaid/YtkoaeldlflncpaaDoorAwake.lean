/-
  The contract of awake: the example of the chapter stands.
-/
import Derived.Test.YtkoaeldlflncpaaDoorPlain
namespace Go.Proofs.YtkoaeldlflncpaaDoor
open Go.RowKit Go.PlainAid

def pm : ByteArray := ⟨#[80, 65, 89, 46, 77, 65, 83, 84, 69, 82]⟩
def pmg : ByteArray := ⟨#[80, 65, 89, 46, 77, 65, 83, 84, 69, 82, 46, 71, 48, 48, 48, 51, 86, 48, 48]⟩
theorem ex_group : groupL (bs pm) = true := by kernel_rfl
theorem ex_text : genText pm 3 = pmg := by kernel_rfl
theorem ex_gen : genV pm 3 = (pmg, 0) := by
  unfold genV
  rw [group_bs, ex_group, if_pos rfl, if_neg (by decide)]
  show (genText pm 3, (0 : Int)) = _
  rw [ex_text]
theorem ex_last : Lib.lastIndexByte pmg 46 = 10 := by kernel_rfl
theorem ex_head : headB pmg 10 = pm := by kernel_rfl
theorem ex_num : numL (bs (tailB pmg 10)) = 3 := by kernel_rfl
theorem ex_split : splitV pmg = (pm, 3, true) := by
  unfold splitV
  rw [ex_last]
  rw [if_pos (by decide), show ((10 : Int)).toNat = 10 from rfl, ex_head, num_bs, group_bs, ex_group, ex_num]
  rw [if_pos ⟨rfl, by decide⟩]
theorem ex_match1 : matchP [80, 65, 89, 46, 42, 42] [80, 65, 89] = true := by kernel_rfl
theorem ex_match2 : matchP [80, 65, 89, 46, 42] [80, 65, 89] = false := by kernel_rfl
theorem ex_order : orderL [80, 65, 89, 46, 65] [80, 65, 89, 46, 65, 42] = -1 := by kernel_rfl
theorem ex_quals : (qualsB ⟨#[80, 65, 89, 46, 65]⟩).length = 2 := by
  have h : validB ⟨#[80, 65, 89, 46, 65]⟩ = true := by rw [valid_bs]; kernel_rfl
  have h2 : ((parts ⟨#[80, 65, 89, 46, 65]⟩).map bs).length = 2 := by
    rw [parts_bs]
    exact (show (partsL [80, 65, 89, 46, 65]).length = 2 by kernel_rfl)
  unfold qualsB
  rw [h, if_pos rfl]
  simpa using h2
theorem ex_quals_ne : qualsB ⟨#[80, 65, 89, 46, 65]⟩ ≠ [] := fun e => by have := ex_quals; rw [e] at this; cases this
set_option maxHeartbeats 1000000 in
theorem awake_true (w : World) (hm : MaxLen w) (ht : Tab w) : Calls Tryd.prog 10 #[] w fun e w' => e = .returned (.bool true) ∧ Below w.heap.size w w' := by
  have HM := Lib.hid hm
  have HT := Lib.hid ht
  clear hm ht
  have pmg_eq : (pmg.toList == [80, 65, 89, 46, 77, 65, 83, 84, 69, 82, 46, 71, 48, 48, 48, 51, 86, 48, 48]) = true := by rw [toList_bs]; kernel_rfl
  have pm_eq : (pm.toList == [80, 65, 89, 46, 77, 65, 83, 84, 69, 82]) = true := by rw [toList_bs]; kernel_rfl
  have m1 := Lib.hid ((match_bs ⟨#[80, 65, 89, 46, 42, 42]⟩ ⟨#[80, 65, 89]⟩).trans ex_match1)
  have m2 := Lib.hid ((match_bs ⟨#[80, 65, 89, 46, 42]⟩ ⟨#[80, 65, 89]⟩).trans ex_match2)
  have o1 := Lib.hid ((order_bs ⟨#[80, 65, 89, 46, 65]⟩ ⟨#[80, 65, 89, 46, 65, 42]⟩).trans ex_order)
  go_enter Tryd.func10, Tryd.ntmps10
  go_wp2_with fail
  refine (generation_any pm 3 _ HM.out HT.out).mono ?_
  rw [ex_gen]
  rintro e w1 ⟨rfl, hb⟩
  have B1 := Lib.hid hb
  have M1 := Lib.hid (HM.out.below B1.out)
  clear hb
  unfold genE
  go_wp2_with fail
  refine (splitName_any pmg _ M1.out (by decide)).mono ?_
  rw [ex_split]
  rintro e w2 ⟨rfl, hb⟩
  have B2 := Lib.hid (B1.out.trans (hb.mono B1.out.size))
  have M2 := Lib.hid (HM.out.below B2.out)
  clear hb
  unfold splitE
  go_wp2_with fail
  refine (match_any ⟨#[80, 65, 89, 46, 42, 42]⟩ ⟨#[80, 65, 89]⟩ _ M2.out).mono ?_
  rw [m1.out]
  rintro e w3 ⟨rfl, hb⟩
  have B3 := Lib.hid (B2.out.trans (hb.mono B2.out.size))
  have M3 := Lib.hid (HM.out.below B3.out)
  clear hb
  go_wp2_with fail
  refine (match_any ⟨#[80, 65, 89, 46, 42]⟩ ⟨#[80, 65, 89]⟩ _ M3.out).mono ?_
  rw [m2.out]
  rintro e w4 ⟨rfl, hb⟩
  have B4 := Lib.hid (B3.out.trans (hb.mono B3.out.size))
  have M4 := Lib.hid (HM.out.below B4.out)
  clear hb
  go_wp2_with fail
  refine (order_any ⟨#[80, 65, 89, 46, 65]⟩ ⟨#[80, 65, 89, 46, 65, 42]⟩ _ M4.out).mono ?_
  rw [o1.out]
  rintro e w5 ⟨rfl, hb⟩
  have B5 := Lib.hid (B4.out.trans (hb.mono B4.out.size))
  have M5 := Lib.hid (HM.out.below B5.out)
  clear hb
  go_wp2_with fail
  refine (qualifiers_any ⟨#[80, 65, 89, 46, 65]⟩ _ M5.out).mono ?_
  rintro e w6 ⟨v, rfl, hb, ⟨h0, _⟩ | ⟨_, B, _, _, rfl, _⟩⟩
  · exact absurd h0 ex_quals_ne
  rw [ex_quals]
  go_wp2_with fail
  go_ret
  exact ⟨rfl, B5.out.trans (hb.mono B5.out.size)⟩
end Go.Proofs.YtkoaeldlflncpaaDoor
