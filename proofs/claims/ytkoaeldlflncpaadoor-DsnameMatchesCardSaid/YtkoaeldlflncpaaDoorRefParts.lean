/-
  The contract of the reference's Parts.
-/
import Derived.Test.YtkoaeldlflncpaaDoorOrder
import Derived.WalkKit
import Derived.Laws.OwnMore
import Derived.StillTailTactics
namespace Go.Proofs.YtkoaeldlflncpaaDoor
open Go.RowKit Go.PlainAid

theorem info9 : (Tryd.prog.info? 9).map (fun i => (i.zero, i.size, i.bytes)) = some (some (.string ⟨#[]⟩), 1, 16) := by kernel_rfl
theorem joinL_snoc (u : List (List UInt8)) (x : List UInt8) (c : UInt8) : joinL (u ++ [x]) ++ [c] = joinL (u ++ [x ++ [c]]) := by
  induction u with
  | nil => rfl
  | cons y u ih => rw [List.cons_append, List.cons_append, joinL_cons _ (by simp), joinL_cons _ (by simp), ← ih]; simp
theorem partsL_snoc {l : List UInt8} {u : List (List UInt8)} {x : List UInt8} {c : UInt8} (h : partsL l = u ++ [x]) (hc : c ≠ 46) : partsL (l ++ [c]) = u ++ [x ++ [c]] := by
  have hd := partsL_nodot l
  rw [h] at hd
  have e : l ++ [c] = joinL (u ++ [x ++ [c]]) := by rw [← joinL_snoc, ← h, join_parts]
  rw [e]
  refine parts_join (by simp) fun z hz => ?_
  rcases List.mem_append.1 hz with hz | hz
  · exact hd z (List.mem_append_left _ hz)
  · rw [List.mem_singleton] at hz
    subst hz
    intro hm
    rcases List.mem_append.1 hm with hm | hm
    · exact hd x (by simp) hm
    · rw [List.mem_singleton] at hm; exact hc hm.symm
/-- The parts of the first k bytes. -/
def pk (s : ByteArray) (k : Nat) : List ByteArray := (partsL ((bs s).take k)).map ofL
theorem pk_zero (s : ByteArray) : pk s 0 = [⟨#[]⟩] := rfl
theorem map_ofL (xs : List ByteArray) : (xs.map bs).map ofL = xs := by
  induction xs with
  | nil => rfl
  | cons x r ih => rw [List.map_cons, List.map_cons, ih, ofL_bs]
theorem map_bs (xs : List (List UInt8)) : (xs.map ofL).map bs = xs := by
  induction xs with
  | nil => rfl
  | cons x r ih => rw [List.map_cons, List.map_cons, ih, bs_ofL]
theorem parts_ofL (s : ByteArray) : (partsL (bs s)).map ofL = parts s := by
  rw [← parts_bs, map_ofL]
theorem pk_all (s : ByteArray) : pk s s.size = parts s := by
  rw [pk, ← bs_length, List.take_length, parts_ofL]
theorem pk_dot {s : ByteArray} {k : Nat} (h : (bs s)[k]? = some 46) : pk s (k + 1) = pk s k ++ [⟨#[]⟩] := by
  rw [pk, pk, List.take_add_one, h, Option.toList_some, partsL_append]; simp [partsL]
theorem pk_last (s : ByteArray) (k : Nat) : ∃ u x, pk s k = u ++ [x] := by
  have hne : pk s k ≠ [] := fun e => partsL_ne _ (List.map_eq_nil_iff.1 e)
  exact ⟨_, _, (List.dropLast_concat_getLast hne).symm⟩
theorem extract_one {s : ByteArray} {k : Nat} {c : UInt8} (h : (bs s)[k]? = some c) : bs (s.extract k (k + 1)) = [c] := by
  have : bs (s.extract k (k + 1)) = ((bs s).drop k).take 1 := by
    simp [bs, ByteArray.data_extract, List.take_drop]
  rw [this]
  obtain ⟨hk, rfl⟩ := List.getElem?_eq_some_iff.1 h
  rw [List.drop_eq_getElem_cons hk]; rfl
theorem pk_other {s : ByteArray} {k : Nat} {c : UInt8} {u : List ByteArray} {x : ByteArray} (h : (bs s)[k]? = some c) (hc : c ≠ 46) (hl : pk s k = u ++ [x]) : pk s (k + 1) = u ++ [x ++ s.extract k (k + 1)] := by
  have hb : partsL ((bs s).take k) = u.map bs ++ [bs x] := by
    have := congrArg (List.map bs) hl
    rw [pk, map_bs] at this
    simpa using this
  rw [pk, List.take_add_one, h, Option.toList_some, partsL_snoc hb hc, List.map_append, map_ofL]
  have : ofL (bs x ++ [c]) = x ++ s.extract k (k + 1) := by
    rw [← ofL_bs (x ++ s.extract k (k + 1))]
    congr 1
    rw [show bs (x ++ s.extract k (k + 1)) = bs x ++ bs (s.extract k (k + 1)) by simp [bs], extract_one h]
  simp [this]
theorem pk_few (s : ByteArray) (k : Nat) : (pk s k).length ≤ k + 1 := by
  rw [pk, List.length_map, partsL_length]
  have := List.count_le_length (a := (46 : UInt8)) (l := (bs s).take k)
  have := List.length_take_le k (bs s)
  omega
theorem pk_part {s : ByteArray} {k : Nat} {x : ByteArray} (h : x ∈ pk s k) : x.size ≤ k := by
  obtain ⟨l, hl, rfl⟩ := List.mem_map.1 h
  rw [ofL_size]
  have h1 : ∀ (xs : List (List UInt8)) (y), y ∈ xs → y.length ≤ (joinL xs).length := fun xs => by
    induction xs with
    | nil => intro y hy; simp at hy
    | cons z zs ih =>
      intro y hy
      cases zs with
      | nil => simp at hy; subst hy; exact Nat.le_refl _
      | cons z' zs =>
        rw [joinL_cons _ (by simp)]
        simp only [List.length_append, List.length_cons]
        rcases List.mem_cons.1 hy with rfl | hy
        · omega
        · have := ih y hy; omega
  have := h1 _ _ hl
  rw [join_parts] at this
  have := List.length_take_le k (bs s)
  omega
/-- Byte k of a text. -/
theorem byte_at {s : ByteArray} {k : Nat} (h : k < s.size) : ∃ c, (bs s)[k]? = some c ∧ bt s k = (c.toNat : Int) := by
  have h' : k < (bs s).length := h
  exact ⟨(bs s)[k], List.getElem?_eq_getElem h', (bs_get (List.getElem?_eq_getElem h')).2⟩
/-- What the reference's Parts hands back: a list of its own. -/
def OwnList (w : World) (lo : Nat) (xs : List ByteArray) (v : Value) : Prop := w.ownsRow lo 9 1 v xs.length (xs.map Value.string)
theorem OwnList.form {w : World} {lo : Nat} {xs : List ByteArray} {v : Value} (h : OwnList w lo xs v) (hne : xs ≠ []) : ∃ g c, v = .slice (some ⟨g, 0, none⟩) xs.length c ∧ lo ≤ g ∧ xs.length ≤ c ∧ c ≤ maxLen := by
  rcases h.2 with ⟨_, h0⟩ | ⟨g, c, cur, rfl, hb, _, hc, hm, _⟩
  · exact absurd (List.length_eq_zero_iff.1 h0) hne
  · exact ⟨g, c, rfl, hb, hc, hm⟩
theorem OwnList.texts {w : World} {lo g c : Nat} {xs : List ByteArray} (h : OwnList w lo xs (.slice (some ⟨g, 0, none⟩) xs.length c)) : OwnTexts w g xs :=
  ⟨fun j x hx => by
    have hj : j < xs.length := (List.getElem?_eq_some_iff.1 hx).1
    rw [Nat.zero_add, World.ownsRow.cellAt h j (by omega), List.getElem?_map, hx]; rfl, fun j => World.ownsRow.frozenAt h j⟩
set_option maxHeartbeats 2000000 in
set_option maxRecDepth 100000 in
theorem refParts_any (s : ByteArray) (w : World) (hs : s.size ≤ 1000) : Calls Tryd.prog 53 #[.string s] w fun e w' => ∃ v, e = .returned v ∧ OwnList w' w.heap.size (parts s) v ∧ Below w.heap.size w w' := by
  obtain ⟨i0, hi, hz0, hz1, hz2⟩ := info_parts info9
  have I := Lib.hid hi
  have Z0 := Lib.hid hz0
  have Z1 := Lib.hid hz1
  have Z2 := Lib.hid hz2
  clear hi hz0 hz1 hz2
  go_enter Tryd.func53, Tryd.ntmps53
  go_wp2_with fail
  go_loopw [3, 4] (fun v i wr => ∃ k : Nat, k ≤ s.size ∧ i = .int .i64 k ∧ OwnList wr w.heap.size (pk s k) v ∧ Below w.heap.size w wr) (fun _ i _ => s.size - (intOf i).toNat)
  case atStart => exact ⟨0, by omega, rfl, World.ownsRow_lit w #[.string ⟨#[]⟩] 1 (Nat.le_refl _) (by decide) rfl, (Below.refl _ _).alloc (Nat.le_refl _) _⟩
  case round =>
    obtain ⟨k, hk, rfl, ho, hb⟩ := hrel
    have HO := Lib.hid ho
    have HB := Lib.hid hb
    clear ho hb
    by_cases hlt : k < s.size
    · obtain ⟨c, hc, hbt⟩ := byte_at hlt
      have HC := Lib.hid hc
      clear hc
      have hfew := Lib.hid (pk_few s k)
      have hget := get_bt s
      by_cases h46 : c = 46
      · subst h46
        have hbt' : (bt s k == 46) = true := by rw [hbt]; rfl
        have hs0 := Lib.hid (show (pk s k).length + 1 ≤ 1002 by have := hfew.out; omega)
        have HX := Lib.hid (World.ownsRow.alloc (o := .cells #[.string ⟨#[]⟩] 9) HO.out)
        clear hbt
        go_wp2_with (first | (at_builtin; refine wpList_append_own _ rfl _ _ 24 rfl w.heap.size 9 i0 (.string ⟨#[]⟩) 1 16 Tryd.underlying24 I.out Z0.out Z1.out Z2.out rfl (by decide) _ _ _ rfl HX.out ⟨wr.heap.size, 0, none⟩ 1 1 [.string ⟨#[]⟩] rfl rfl ?c1 ?c2 ?c3 ?c4 ?c5 ?_) | go_in)
        case c1 =>
          intro j u hj
          match j, hj with
          | 0, hj => simp at hj; subst hj; simp [Addr.add]
        case c2 => intro u hu; simp at hu; subst hu; rfl
        case c3 => have := hs0.out; unfold maxLen; omega
        case c4 => have := hs0.out; omega
        case c5 => have := HB.out.size; simp; omega
        intro v' w1 hown' hgrow _
        have HE := Lib.hid (show OwnList w1 w.heap.size (pk s (k + 1)) v' by
          unfold OwnList
          rw [pk_dot HC.out, List.length_append, List.map_append]
          exact hown')
        have HF := Lib.hid ((HB.out.alloc HB.out.size (.cells #[.string ⟨#[]⟩] 9)).grown hgrow (by have := HB.out.size; simp; omega) (fun j hj => ((World.ownsRow.alloc (o := .cells #[.string ⟨#[]⟩] 9) HO.out).lt j hj).1))
        clear hown' hgrow
        go_wp2_with fail
        go_roundw
        case rel => exact ⟨k + 1, by omega, by go_num, HE.out, HF.out⟩
        case measure => simp [intOf]; omega
      · obtain ⟨u, x, hl⟩ := pk_last s k
        have hbt' : (bt s k == 46) = false := by
          rw [hbt]
          have : c.toNat ≠ 46 := fun e => h46 (UInt8.toNat_inj.1 e)
          simp; omega
        obtain ⟨g, cp, rfl, hg, hgc, hcm⟩ := HO.out.form (by rw [hl]; simp)
        have hlen : (pk s k).length = u.length + 1 := by rw [hl]; simp
        have hx := HO.out.texts.c u.length x (by rw [hl]; simp)
        have hfr := HO.out.texts.f u.length
        rw [Nat.zero_add] at hx
        have hup := pk_other HC.out h46 hl
        have hxz : x.size ≤ 1000 := by have := pk_part (s := s) (k := k) (x := x) (by rw [hl]; simp); omega
        have huz : u.length ≤ 1000 := by have := hfew.out; omega
        have HE := Lib.hid (show OwnList (wr.setCell ⟨g, u.length, none⟩ (.string (x ++ s.extract k (k + 1)))) w.heap.size (pk s (k + 1)) (.slice (some ⟨g, 0, none⟩) (pk s k).length cp) by
          have := (World.ownsRow.stored HO.out u.length (.string (x ++ s.extract k (k + 1)))).1
          unfold OwnList
          rw [hup]
          rw [hl] at this ⊢
          simpa using this)
        have HF := Lib.hid (HB.out.setCell (p := ⟨g, u.length, none⟩) hg (.string (x ++ s.extract k (k + 1))))
        have hls : (s.extract k (k + 1)).size = 1 := by simp; omega
        obtain ⟨y, hy⟩ : ∃ y, s.extract k (k + 1) = y := ⟨_, rfl⟩
        rw [hy] at HE HF hls
        have hyz : y.size ≤ 1 := by omega
        obtain ⟨U, hU⟩ : ∃ U, u.length = U := ⟨_, rfl⟩
        rw [hlen] at HE hgc ⊢
        rw [hU] at HE HF hx hfr huz hgc ⊢
        have hk1 : (k : Int) + 1 ≤ s.size := by omega
        have hwk : IntKind.i64.wrap ((k : Int) + 1) = (k : Int) + 1 := by have := i64_lin 0 (k + 1) 0 (by omega); simpa using this
        have hkk : (k : Int) ≤ (k : Int) + 1 := by omega
        have hsum : ¬ x.size + y.size > 9223372036854775807 := by omega
        have hU1 : (U : Int) < (U : Int) + 1 := by omega
        have hwr : IntKind.i64.wrap (U : Int) = (U : Int) := by have := i64_lin 0 U 0 (by omega); simpa using this
        have HL := Lib.hid hl
        clear hbt hl hup hlen HO hg hcm hls
        go_wp2_with fail
        go_still_tail 17, (by kernel_rfl)
        change wpList _ _ _ _ _ wr.drew
        have HE' := Lib.hid (show OwnList (wr.drew.setCell ⟨g, U, none⟩ (.string (x ++ y))) w.heap.size (pk s (k + 1)) (.slice (some ⟨g, 0, none⟩) (U + 1) cp) from HE.out)
        have HF' := Lib.hid (show Below w.heap.size w (wr.drew.setCell ⟨g, U, none⟩ (.string (x ++ y))) from HF.out.drew)
        have hx' : wr.drew.cell? ⟨g, U, none⟩ = some (.string x) := hx
        have hfr' : wr.drew.frozen? ⟨g, U, none⟩ = false := hfr
        clear HE HF hx hfr
        generalize wr.drew = w2 at HE' HF' hx' hfr' ⊢
        go_wp2_with fail
        go_roundw
        case rel => exact ⟨k + 1, by omega, by go_num, HE'.out, HF'.out⟩
        case measure => simp [intOf]; omega
    · obtain rfl : k = s.size := by omega
      have HE := HO.out
      rw [pk_all] at HE
      have HE := Lib.hid HE
      go_wp2_with fail
      go_ret
      exact ⟨_, rfl, HE.out, HB.out⟩
end Go.Proofs.YtkoaeldlflncpaaDoor
