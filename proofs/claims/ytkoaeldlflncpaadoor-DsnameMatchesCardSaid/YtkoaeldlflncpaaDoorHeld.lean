/-
  Steps of a region that draws its order, each stated over lists, so that frames stay small.
-/
import Derived.Deep.RegionHeld3
namespace Go.Proofs.YtkoaeldlflncpaaDoor

section
variable {P : Program} {ops : Array Oper} {Q : Exit → Act → World → Prop} {S : World → Prop}
theorem held_start {id : Nat} {a : Act} {w : World} (n : Nat) (lb : List Bool) (hn : ops.size = n) (hl : lb = List.replicate n false) (hm : P.follows .mixedOrders = true) (hS : S w.drew)
    (h : S w.drew → wpAnyH P .any ops Q S n lb.toArray a w.drew) : (Code.region id ops true).wp P Q a w := by
  refine wp_region_held_drew hm hS fun h' => ?_
  have := h h'
  subst hl hn
  simpa using this
theorem held_take {md : Region.Mode} (i d : Nat) {oi : Oper} {v : Value} {fuel : Nat} {lb : List Bool} {l : List Value} {df : List Deferred} {w : World} (hi : ops[i]? = some oi) (hd : oi.dst = some d)
    (hs : Region.noSelect ops = true) (hf : Region.free md ops lb.toArray i = true) (hr : (Region.ready md ops lb.toArray).contains i = true)
    (hQ : ∀ c a w, Q (.panic c) (a.put (some d) v) w → Q (.panic c) a w) (hy : YieldsIf P ops S oi v ⟨l.toArray, df⟩) (hS : S w)
    (h : wpAnyH P md ops Q S fuel (lb.set i true).toArray ⟨(l.set d v).toArray, df⟩ w) : wpAnyH P md ops Q S (fuel + 1) lb.toArray ⟨l.toArray, df⟩ w := by
  refine wpAnyH_take hi hs hf hr (by rw [hd]; exact hQ) hy hS ?_
  rw [hd]
  simpa [Act.put] using h
theorem held_ready {md : Region.Mode} (i : Nat) {o : Oper} {fuel : Nat} {lb : List Bool} {a : Act} {w : World} (ho : ops[i]? = some o) (hr : Region.ready md ops lb.toArray = [i])
    (h : ∀ K' : Act → World → Prop, Shut (∀ a w, S w → (S w → wpAnyH P md ops Q S fuel (lb.set i true).toArray a w) → K' a w) → if Region.wanted o (yielded ops a.tmps) = true then Oper.wp P o a w K' Q else K' (a.put o.dst undef) w) :
    wpAnyH P md ops Q S (fuel + 1) lb.toArray a w := by
  refine wpAnyH_ready hr (by simp) (AllReadyH.cons ho (fun K hK => h K ?_) AllReadyH.nil)
  intro a' w' hS' hW
  exact hK.out a' w' hS' fun hS2 => by simpa using hW hS2
end
end Go.Proofs.YtkoaeldlflncpaaDoor
