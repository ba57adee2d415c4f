/- What a table must meet, as Bools over its trees. -/
import Derived.Test.YthkfhpiamddhoaaGreatAmDraw5
import Derived.Test.YthkfhpiamddhoaaGreatAmTree
set_option autoImplicit false
namespace Go.AM

noncomputable def chkFn (E : Env) (i : Nat) (x : Func) : Bool :=
  match x.body with
  | some c => okCode E i c && !(x.name == "runtime.NumGoroutine")
  | none => true
noncomputable def chkTree (E : Env) : Tree Func → Bool
  | .nil => true
  | .node l i x r => chkTree E l && (chkFn E i x && chkTree E r)

theorem chkTree_get {E : Env} : ∀ (t : Tree Func), chkTree E t = true → ∀ k x, t.get k = some x → chkFn E k x = true
  | .nil, _, k, x, h => by simp [Tree.get] at h
  | .node l i y r, hc, k, x, h => by
    simp only [chkTree, Bool.and_eq_true] at hc
    simp only [Tree.get] at h
    split at h
    · split at h
      · rename_i e
        simp at h; subst h
        have := Nat.eq_of_beq_eq_true e
        subst this
        exact hc.2.1
      · exact chkTree_get r hc.2.2 k x h
    · exact chkTree_get l hc.1 k x h

theorem envOk3 {E : Env} {P : Program} (t : Tree Func) (u : Tree TypeInfo) {n m : Nat} (hn : t.ok 0 n = true) (hm : u.ok 0 m = true) (hf : E.fn = t.get) (hu : E.info = u.get) (h1 : t.toList = P.funcs.toList) (h2 : u.toList = P.types.toList)
    (hext : ∀ (g : FuncId) (h : List D → Option D), E.ext g = some h → ∀ (args : List D) (xs : List Value) (d : D), h args = some d →
      ∀ (Φ : Nat → Prop) (L : Lay) (s : St) (w : World), RelL Φ L s w args xs → ∃ x, (callFunc g xs.toArray).run P w = .ok (.value x) w ∧ Rel Φ L s w d x)
    (heq : ∀ t, E.eqOk t = true → P.stoodInHeld t = false ∧ P.eqGuardType P.depth t = false) (hc : chkTree E t = true) (hmix : P.follows .mixedOrders = true) : EnvOk3 E P where
  fn := fun f fn h => by
    rw [hf, Tree.get_list t _ n hn h1, Array.getElem?_toList] at h
    exact h
  info := fun k i h => by
    rw [hu, Tree.get_list u _ m hm h2, Array.getElem?_toList] at h
    have hlt := (Array.getElem?_eq_some_iff.1 h).1
    unfold Tables.info?
    rw [if_pos hlt]
    exact h
  ext := hext
  eq := heq
  nogo := fun f fn h hb => by
    rw [hf] at h
    have := chkTree_get t hc f fn h
    unfold chkFn at this
    cases hbody : fn.body with
    | none => simp [hbody] at hb
    | some c =>
      rw [hbody] at this
      simp only [Bool.and_eq_true, Bool.not_eq_true'] at this
      exact this.2
  code := fun f fn c h hb => by
    rw [hf] at h
    have := chkTree_get t hc f fn h
    unfold chkFn at this
    rw [hb] at this
    simp only [Bool.and_eq_true] at this
    exact this.1
  mixed := hmix
#print axioms envOk3
end Go.AM
