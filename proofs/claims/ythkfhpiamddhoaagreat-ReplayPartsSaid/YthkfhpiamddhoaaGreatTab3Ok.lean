import Derived.Test.YthkfhpiamddhoaaGreatTab3
import Derived.Test.YthkfhpiamddhoaaGreatAmEnv
import Derived.KernelRfl
set_option autoImplicit false
namespace Go.Proofs.YthkfhpiamddhoaaGreat
open Go.AM
theorem fnOk : fnTree.ok 0 340 = true := by kernel_rfl
theorem tyOk : tyTree.ok 0 454 = true := by kernel_rfl
theorem fnList : fnTree.toList = Tryz.prog.funcs.toList := by kernel_rfl
theorem tyList : tyTree.toList = Tryz.prog.types.toList := by kernel_rfl
theorem mixedOk : Tryz.prog.follows .mixedOrders = true := by kernel_rfl

theorem chkOk : chkTree env fnTree = true := by kernel_rfl
theorem f235_find : Extern.find Tryz.f235 = some Extern.MathFloatBits.float64bits := by kernel_rfl
theorem f235_next : (Extern.findNext Tryz.f235).isNone = true := by kernel_rfl
theorem f235_name : (Tryz.f235.name == "runtime.NumGoroutine") = false := by kernel_rfl
theorem f235_body : Tryz.f235.body.isNone = true := by kernel_rfl
theorem bits (b : Nat) (w : World) : (callFunc 235 #[.float .f64 b]).run Tryz.prog w = .ok (.value (.int .u64 b)) w := by
  have h := f235_next
  have hn : Extern.findNext Tryz.f235 = none := by
    cases hq : Extern.findNext Tryz.f235 with
    | none => rfl
    | some x => rw [hq] at h; simp at h
  unfold callFunc
  rw [Sem.run_bind, run_program, Result.andThen_ok]
  simp only [Tryz.func235, f235_name, f235_body, hn, f235_find, Bool.false_eq_true, if_false, if_true]
  rfl
theorem memM_mem : ∀ {l : List Nat} {n : Nat}, memM l n = true → n ∈ l
  | [], n, h => by simp [memM] at h
  | x :: xs, n, h => by
    simp only [memM] at h
    split at h
    · rename_i e
      rw [Nat.eq_of_beq_eq_true e]; simp
    · simp [memM_mem h]
def chkEq (P : Program) : List Nat → Bool
  | [] => true
  | t :: ts => !P.stoodInHeld t && !P.eqGuardType P.depth t && chkEq P ts
theorem chkEq_mem {P : Program} : ∀ {l : List Nat}, chkEq P l = true → ∀ t, t ∈ l → P.stoodInHeld t = false ∧ P.eqGuardType P.depth t = false
  | [], _, t, ht => by simp at ht
  | x :: xs, h, t, ht => by
    simp only [chkEq, Bool.and_eq_true, Bool.not_eq_true'] at h
    rcases List.mem_cons.1 ht with rfl | ht
    · exact h.1
    · exact chkEq_mem h.2 t ht
theorem eqChk : chkEq Tryz.prog eqList = true := by kernel_rfl
theorem eqAll : ∀ t, t ∈ eqList → Tryz.prog.stoodInHeld t = false ∧ Tryz.prog.eqGuardType Tryz.prog.depth t = false := fun t ht => chkEq_mem eqChk t ht
theorem env_ok : EnvOk3 env Tryz.prog := by
  refine envOk3 fnTree tyTree fnOk tyOk rfl rfl fnList tyList ?_ (fun t h => eqAll t (memM_mem h)) chkOk mixedOk
  intro g h hg args xs d hh Φ L s w hr
  unfold env at hg
  simp only at hg
  split at hg
  · rename_i hb
    have := Nat.eq_of_beq_eq_true hb
    subst this
    simp at hg
    subst hg
    unfold f64bits at hh
    split at hh
    · rename_i b
      simp at hh
      subst hh
      obtain ⟨x, hx, hrx⟩ := hr.get (i := 0) rfl
      have hlen := hr.1
      match xs, hx, hlen with
      | [y], hx, _ =>
        simp at hx; subst hx
        cases hrx.v_inv
        exact ⟨_, bits b w, .v rfl⟩
    · simp at hh
  · simp at hg
#print axioms env_ok
end Go.Proofs.YthkfhpiamddhoaaGreat
