/-
  A world for the witness of DsnameParts: the table of letters' cases stands, too.
-/
import Derived.Test.YtkoaeldlflncpaaDoorFrame
import Derived.Lib.LaidCaseMet
import Derived.Lib.LaidIn
import Derived.PinnedBridge
import Derived.Deep.DeepWitnessRowRef
namespace Go.Proofs.YtkoaeldlflncpaaDoor
open Go.ChangeShapes Go.WideShapes Go.ChangeAt Go.RowKit Go.Shelf

noncomputable def laidHeapC (os : Os) : Array Obj :=
  putTable (putTable (putTable (putTable (putTable (putTable (World.holding Tryd.prog os ⟨#[.cells Lib.caseCells5 118], #[], []⟩).heap 4 ((Lib.pow10Tab.map (Value.int .u64)).toArray)) 5 ((deb32.map (Value.int .u8)).toArray)) 6 ((deb64.map (Value.int .u8)).toArray)) 3 ((accepts.map (Value.int .u8)).toArray)) 2 ((Go.Pinned.utf8FirstZ.map fun (n : Nat) => Value.int .u8 n).toArray))
    0 #[.slice (some ⟨(World.settled Tryd.prog os).heap.size, 0, none⟩) 336 336]
noncomputable def laidWorldC (os : Os) : World := { World.holding Tryd.prog os ⟨#[.cells Lib.caseCells5 118], #[], []⟩ with heap := laidHeapC os }
theorem cells5_int {x : Lib.CaseRow} {v : Value} (h : v ∈ Lib.cells5 x) : ∃ k n, v = .int k n := by
  unfold Lib.cells5 at h
  simp only [List.mem_cons, List.not_mem_nil, or_false] at h
  rcases h with h | h | h | h | h <;> exact ⟨_, _, h⟩
/-- The table of letters' cases alone. -/
theorem laidIn_case {P : Program} {ρ : Ren} (L : Lays.n274 P ρ) (t206 : P.underlying (ρ.t 206) = some (.array 3 (ρ.t 21))) (X : CaseExtra P ρ) {w : World} (R : Nat) (t : TypeId) (hgR : ρ.g 13 ≠ R)
    (hvar : w.heap[ρ.g 13]? = some (.cells #[.slice (some ⟨R, 0, none⟩) 336 336] (ρ.t 162) (0, 0))) (hblk : w.heap[R]? = some (.cells Lib.caseCells5 t (0, 0))) :
    LaidIn P w [("unicode.CaseRanges", Lib.caseData)] [ρ.g 13, R] := by
  have hread := case_slice_reads L t206 X (caseTab_of_block hblk) caseA_wf (by rw [Lib.caseA_size]; unfold maxLen; omega) 0
  rw [case_rows_data, Lib.caseA_size] at hread
  have hv : w.var? P "unicode.CaseRanges" = some #[.slice (some ⟨R, 0, none⟩) 336 336] := by simp [World.var?, X.n13, hvar]
  have rows : MemPlace.row ⟨ρ.g 13, 0, none⟩ 1 ++ MemPlace.row ⟨R, 0, none⟩ (336 * 5) = [((⟨ρ.g 13, 0, none⟩ : Addr), 1), (⟨R, 0, none⟩, 336 * 5)].flatMap fun r => MemPlace.row r.1 r.2 := by simp
  refine LaidIn.one [ρ.g 13, R] X.n13 X.y13 hv hread ?_ ?_ ?_
  · show (MemPlace.row ⟨ρ.g 13, 0, none⟩ 1 ++ MemPlace.row ⟨R, 0, none⟩ (336 * 5)).Nodup
    rw [rows]
    exact rows_nodup _ (by simp [hgR])
  · intro b off hp
    rcases List.mem_append.1 (show _ ∈ MemPlace.row ⟨ρ.g 13, 0, none⟩ 1 ++ MemPlace.row ⟨R, 0, none⟩ (336 * 5) from hp) with h | h
    · obtain ⟨i, hi, e⟩ := MemPlace.mem_row.1 h
      cases e
      obtain rfl : i = 0 := by omega
      exact ⟨⟨_, _, hvar⟩, fun u v hc => by simp [World.cell?, hvar] at hc⟩
    · obtain ⟨i, _, e⟩ := MemPlace.mem_row.1 h
      cases e
      refine ⟨⟨_, _, hblk⟩, fun u v hc => ?_⟩
      have hc' : Lib.caseCells5[0 + i]? = some (.iface u v) := by
        have := cell_of_row w R (0 + i) _ t (0, 0) hblk
        exact this.symm.trans hc
      have hm := Array.mem_of_getElem? hc'
      unfold Lib.caseCells5 at hm
      rw [List.mem_toArray, List.mem_flatMap] at hm
      obtain ⟨x, _, hx⟩ := hm
      obtain ⟨k, n, e⟩ := cells5_int hx
      cases e
  · intro x hx
    have hx' : x ∈ MemPlace.row ⟨ρ.g 13, 0, none⟩ 1 ++ MemPlace.row ⟨R, 0, none⟩ (336 * 5) := hx
    rw [rows] at hx'
    simpa using rows_block _ x hx'
noncomputable abbrev NC : Nat := (World.settled Tryd.prog default).heap.size
theorem caseX : CaseExtra Tryd.prog Tryd.lays159_ren := ⟨by kernel_rfl, by kernel_rfl, by kernel_rfl, by kernel_rfl, by kernel_rfl, by kernel_rfl⟩
theorem lays274C : Go.Proofs.Lays.n274 Tryd.prog Tryd.lays159_ren := { Tryd.lays159 with }
set_option maxRecDepth 1000000 in
theorem piece_four (os : Os) (args : Array Value) : LaidIn Tryd.prog ((laidWorldC os).forCall (fun _ _ => 0) ⟨#[], args, []⟩).memory (laidListC.take 4) [5, 6, 4, 3] :=
  LaidIn.of_run [5, 6, 4, 3] 8 (by kernel_rfl) (by kernel_rfl) (by kernel_rfl) (by kernel_rfl)
set_option maxRecDepth 1000000 in
theorem piece_first (os : Os) (args : Array Value) : LaidIn Tryd.prog ((laidWorldC os).forCall (fun _ _ => 0) ⟨#[], args, []⟩).memory [("unicode/utf8.first", Rows.laid_unicode_utf8_first)] [2] :=
  LaidIn.of_run [2] 8 (by kernel_rfl) (by kernel_rfl) (by kernel_rfl) (by kernel_rfl)
set_option maxRecDepth 1000000 in
theorem piece_case (os : Os) (args : Array Value) : LaidIn Tryd.prog ((laidWorldC os).forCall (fun _ _ => 0) ⟨#[], args, []⟩).memory [("unicode.CaseRanges", Rows.laid_unicode_CaseRanges)] [0, NC] := by
  have e : Rows.laid_unicode_CaseRanges = Lib.caseData := Pinned.caseRanges_eq
  rw [e]
  exact laidIn_case lays274C Tryd.underlying116 caseX NC 118 (Nat.ne_of_beq_eq_false (by kernel_rfl)) (by kernel_rfl) (by kernel_rfl)
theorem laid_metC (os : Os) (args : Array Value) : laidMet Tryd.prog laidListC ((laidWorldC os).forCall (fun _ _ => 0) ⟨#[], args, []⟩).memory :=
  ((piece_four os args).append ((piece_case os args).append (piece_first os args) (by kernel_rfl)) (by kernel_rfl)).met
end Go.Proofs.YtkoaeldlflncpaaDoor
