/- From a run of the interpreter to a law's contract: it answers true; what came in reads as it did. -/
import Derived.Test.YthkfhpiamddhoaaGreatAmOpen
import Derived.ReadAgain
import Derived.Handed
set_option autoImplicit false
namespace Go.AM
variable {E : Env} {P : Program} {H : Type} {enc : TypeId × Value → H}

/-- what lay there lies as it lay -/
structure Same (w w' : World) : Prop where
  size : w.heap.size ≤ w'.heap.size
  heap : ∀ b, b < w.heap.size → w'.heap[b]? = w.heap[b]?
  os : w'.os = w.os
  output : w'.output = w.output

theorem calls_of_am (hE : EnvOk3 E P) {k : Nat} {f : FuncId} {ds : List D} (h : (kall E k).call 0 0 [] f ds .empty = some (.ret (.v (.bool true)), .empty)) {w : World} {vs : Array Value}
    (ha : ∀ L : Lay, RelL (fun _ => False) L .empty w ds vs.toList) : Calls P f vs w fun e w' => e = .returned (.bool true) ∧ Same w w' := by
  obtain ⟨_, hc⟩ := (kall_ok hE k).1.call h
  let L : Lay := ⟨fun _ => 0, fun _ => 0, E.okC⟩
  have hR : R (fun _ => False) L .empty w := ⟨fun id o h => by simp [St.empty] at h, fun id id' o o' h => by simp [St.empty] at h, fun id o h => by simp [St.empty] at h, fun b hb => hb.elim⟩
  have := hc Fence.wide 0 (fun _ => False) L w vs ⟨fun _ => trivial, rfl⟩ rfl hR (ha L)
  refine (callsIn_wide.1 this).mono ?_
  rintro e w' ⟨L', v, h1, h2, rfl, h3⟩
  cases h3
  exact ⟨rfl, h2.size, fun b hb => h2.cells b hb (fun ho => empty_own ho), h2.os, h2.output⟩

theorem trodAll_same {w w' : World} (hs : Same w w') {spare : Nat → Bool} {held : Bool} : ∀ {ts : List TypeId} {vs : List Value} {ds : List (DataW H)} {ps : List MemPlace},
    DataW.TrodAll enc P w 0 spare held ts vs ds ps → (∀ p ∈ ps, p.block < w.heap.size) → DataW.TrodAll enc P w' 0 spare held ts vs ds ps
  | [], [], [], _, h, _ => h
  | t :: ts, v :: vs, d :: ds, _, ⟨p, q, ⟨n, h1⟩, h2, e⟩, hl => by
    subst e
    refine ⟨p, q, ⟨n, DataW.trod_carry n t _ _ h1 (fun x hx => ?_)⟩, trodAll_same hs h2 (fun x hx => hl x (by simp [hx])), rfl⟩
    have hb := hl x (List.mem_append_left _ hx)
    have := hs.heap x.block hb
    cases x with
    | cell b off => simp only [World.sameAt, World.cell?]; rw [show w'.heap[b]? = w.heap[b]? from this]
    | map b => exact this
  | [], [], _ :: _, _, h, _ => h.elim
  | [], _ :: _, _, _, h, _ => h.elim
  | _ :: _, [], _, _, h, _ => h.elim
  | _ :: _, _ :: _, [], _, h, _ => h.elim

theorem keptBut_same {w w' : World} (hs : Same w w') (may : MemPlace → Prop) : w.keptBut w' may := by
  refine ⟨hs.os, hs.output, fun i hi => ?_⟩
  rw [hs.heap i hi]
  cases hq : w.heap[i]? with
  | none => rfl
  | some o => cases o <;> simp

/-- the types of a program, as a table that the reading can be laid anew by -/
structure TypesOk (P : Program) : Prop where
  kids : Kids P (· < P.types.size)
  full : ∀ t e, t < P.types.size → P.underlying t = some (.slice e) → 0 < P.cellsOf e

theorem law_post (hT : TypesOk P) {f : Func} {s : ChangeSpec} {tb : TypeId} {handsOn : Bool} {fresh : Bool} (hr : f.resultTypes = #[tb]) (hb : P.underlying tb = some .bool) (hv : s.vars = []) (hp : ∀ t, t ∈ f.params.toList → t < P.types.size)
    {w w' : World} {args : Array Value} {ds gs : List (DataW H)} {before : List MemPlace} (hfn : s.fn H (ds ++ gs) = { results := [.lit (.bool true)], args := ds })
    (hW : DataW.Whole enc P f.params.toList s.vars false w args.toList ds gs before) (hs : Same w w') : s.post enc P f false fresh handsOn false w args (.bool true) w' := by
  have hlt := hW.lt
  obtain ⟨p, q, hA, hV, rfl, hz, hn⟩ := id hW
  rw [hv] at hV
  have hgs : gs = [] ∧ q = [] := by
    cases gs with
    | nil => exact ⟨rfl, hV⟩
    | cons g gs => exact hV.elim
  obtain ⟨rfl, rfl⟩ := hgs
  have hA' := hA.respare (spare' := fun b => decide (b < w.heap.size)) hT.kids hT.full (fun t ht => hp t ht) (fun x hx => by simpa using hlt x (by simp [hx]))
  refine ⟨ds, [], p ++ [], [], p, [], hW, ?_, ?_, ?_, keptBut_same hs _, fun h => by cases h⟩
  · rw [hfn, hr]
    refine ⟨[], [], ⟨1, ?_⟩, rfl, rfl⟩
    simp [DataW.trod, hb, Value.cells]
  · rw [hfn]
    exact trodAll_same hs hA' (fun x hx => hlt x (by simp [hx]))
  · rw [hfn, hv]
    rfl

#print axioms law_post
end Go.AM
