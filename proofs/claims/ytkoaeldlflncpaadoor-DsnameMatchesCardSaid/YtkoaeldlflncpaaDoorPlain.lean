/-
  The answers of the contracts over lists of bytes.
-/
import Derived.Test.YtkoaeldlflncpaaDoorOrder
import Derived.Test.YtkoaeldlflncpaaDoorGen
namespace Go.Proofs.YtkoaeldlflncpaaDoor
open Go.RowKit Go.PlainAid

/-- Byte k of a list as a number. -/
def gd (l : List UInt8) (k : Nat) : Int := ((l.getD k 0).toNat : Int)
theorem bt_gd (s : ByteArray) (k : Nat) : bt s k = gd (bs s) k := by
  by_cases h : k < s.size
  · have h' : k < (bs s).length := h
    rw [← get_bt s k h, gd, List.getD_eq_getElem?_getD, List.getElem?_eq_getElem h']; rfl
  · have h' : (bs s).length ≤ k := by rw [bs_length]; omega
    rw [bt_end s (by omega), gd, List.getD_eq_getElem?_getD, List.getElem?_eq_none h']; rfl
theorem toList_bs (s : ByteArray) : s.toList = bs s := ByteArray.toList_eq s
def qualL (f g : Int → Bool) : List UInt8 → Bool
  | [] => false
  | c :: r => decide (r.length ≤ 7) && f c.toNat && r.all fun b => g b.toNat
theorem range_all (g : Int → Bool) (c : UInt8) (r : List UInt8) : ((List.range (r.length + 1)).all fun j => decide (j = 0) || g (gd (c :: r) j)) = r.all fun b => g b.toNat := by
  rw [List.range_succ_eq_map, List.all_cons, List.all_map, Bool.eq_iff_iff]
  simp only [decide_true, Bool.true_or, Bool.true_and, List.all_eq_true, Function.comp]
  constructor
  · intro h b hb
    obtain ⟨j, hj, rfl⟩ := List.mem_iff_getElem.1 hb
    have := h j (List.mem_range.2 hj)
    simpa [gd, hj] using this
  · intro h j hj
    have hj := List.mem_range.1 hj
    have := h r[j] (List.getElem_mem hj)
    simpa [gd, hj] using this
theorem qual_bs (f g : Int → Bool) (s : ByteArray) : qual f g s = qualL f g (bs s) := by
  have hz : s.size = (bs s).length := rfl
  have e : ∀ j, bt s j = gd (bs s) j := bt_gd s
  unfold qual
  simp only [e, hz]
  cases bs s with
  | nil => rfl
  | cons c r =>
    rw [List.length_cons, range_all]
    unfold qualL
    have : (decide (1 ≤ r.length + 1) && decide (r.length + 1 ≤ 8)) = decide (r.length ≤ 7) := by
      rw [Bool.eq_iff_iff]; simp
    rw [this]
    rfl
def vqL (l : List UInt8) : Bool := qualL upB plB l
def pqL (l : List UInt8) : Bool := (l == [42, 42]) || qualL stB psB l && !Lib.contains l [42, 42]
theorem vq_bs (s : ByteArray) : vq s = vqL (bs s) := qual_bs _ _ s
theorem pq_bs (s : ByteArray) : pq s = pqL (bs s) := by unfold pq pqL; rw [toList_bs, qual_bs]; rfl
def allL (p : List UInt8 → Bool) (l : List UInt8) : Bool := decide (1 ≤ l.length) && decide (l.length ≤ 31) && (partsL l).all p
theorem all_bs (p : ByteArray → Bool) (pL : List UInt8 → Bool) (h : ∀ s, p s = pL (bs s)) (s : ByteArray) : allB p 31 s = allL pL (bs s) := by
  have hz : s.size = (bs s).length := rfl
  unfold allB allL
  rw [← parts_bs, List.all_map, hz, show pL ∘ bs = p from funext fun s => (h s).symm]
  congr 2
  rw [Bool.eq_iff_iff]; simp; omega
def validL (l : List UInt8) : Bool := allL vqL l
def patL (l : List UInt8) : Bool := allL pqL l
theorem valid_bs (s : ByteArray) : validB s = validL (bs s) := all_bs _ _ vq_bs s
theorem pat_bs (s : ByteArray) : patB s = patL (bs s) := all_bs _ _ pq_bs s
theorem anyTail_map {β γ : Type} (g : γ → β) (f : List β → Bool) (f' : List γ → Bool) (h : ∀ t, f (t.map g) = f' t) (t : List γ) : anyTail f (t.map g) = anyTail f' t := by
  induction t with
  | nil => exact h []
  | cons b t ih => rw [List.map_cons, anyTail, anyTail, ih, ← List.map_cons, h]
theorem matchL_map {α β α' β' : Type} (star : α → Bool) (one : α → β → Bool) (a : α' → α) (b : β' → β) (ps : List α') (qs : List β') :
    matchL star one (ps.map a) (qs.map b) = matchL (fun x => star (a x)) (fun x y => one (a x) (b y)) ps qs := by
  induction ps generalizing qs with
  | nil => cases qs <;> rfl
  | cons x r ih =>
    rw [List.map_cons, matchL, matchL]
    cases hs : star (a x) with
    | true => exact anyTail_map b _ _ ih qs
    | false =>
      cases qs with
      | nil => rfl
      | cons y t => simp [ih]
/-- Whether a qualifier matches one with stars. -/
def partL (p s : List UInt8) : Bool := matchL star8 (fun a b => a == b) p s
def isSSL (p : List UInt8) : Bool := p == [42, 42]
def matchP (p s : List UInt8) : Bool := patL p && validL s && matchL isSSL partL (partsL p) (partsL s)
theorem match_bs (p s : ByteArray) : matchB p s = matchP (bs p) (bs s) := by
  unfold matchB matchP
  rw [pat_bs, valid_bs, ← parts_bs p, ← parts_bs s, matchL_map]
  congr 2
  funext x
  exact congrArg (· == [42, 42]) (toList_bs x)
def genFormL (l : List UInt8) : Bool := decide (l.length = 8) && decide (gd l 0 = 71) && ((l.drop 5).take 3 == [86, 48, 48]) && (dgB (gd l 1) && dgB (gd l 2) && dgB (gd l 3) && dgB (gd l 4))
def numL (l : List UInt8) : Int := if genFormL l then 1000 * (gd l 1 - 48) + 100 * (gd l 2 - 48) + 10 * (gd l 3 - 48) + (gd l 4 - 48) else 0
theorem num_bs (s : ByteArray) : numB s = numL (bs s) := by
  have hf : genForm s = genFormL (bs s) := by
    unfold genForm genFormL
    rw [toList_bs]
    simp only [bt_gd]
    have : bs (s.extract 5 8) = ((bs s).drop 5).take 3 := by simp [bs, ByteArray.data_extract, List.take_drop]
    rw [this]
    rfl
  unfold numB numL
  rw [hf]
  congr 1
  simp only [dv, bt_gd]
  simp
  omega
def genQL (l : List UInt8) : Bool := decide (0 < numL l)
def groupL (l : List UInt8) : Bool := decide (l.length ≤ 22) && validL l && !(partsL l).any genQL
theorem group_bs (s : ByteArray) : groupB s = groupL (bs s) := by
  have : genQ = genQL ∘ bs := funext fun s => by simp only [genQ, genQL, Function.comp, num_bs]
  unfold groupB groupL
  rw [valid_bs, ← parts_bs, List.any_map, this]
  rfl
/-- A part of a pattern's key. -/
def kqL (x : List UInt8) : List UInt8 := if isSSL x then [255] else x
def keyL (l : List UInt8) : List UInt8 := Lib.replaceAll (joinL ((partsL l).map kqL)) [42] [254]
theorem key_bs (s : ByteArray) : bs (keyB s) = keyL (bs s) := by
  have : ∀ x, bs (kq x) = kqL (bs x) := fun x => by
    unfold kq kqL isSS isSSL
    rw [toList_bs]
    split <;> rfl
  rw [keyB, bs_ofL, keyL, ← parts_bs, List.map_map, List.map_map]
  congr 3
  funext x
  exact this x
def orderL (a b : List UInt8) : Int := if patL a && patL b then Lib.compareBytes (keyL a) (keyL b) else 0
theorem order_bs (a b : ByteArray) : orderV a b = orderL (bs a) (bs b) := by
  unfold orderV orderL; rw [pat_bs, pat_bs, key_bs, key_bs]
end Go.Proofs.YtkoaeldlflncpaaDoor
