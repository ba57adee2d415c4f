/- The walk of code: calls, rounds; all of them. -/
import Derived.Test.YthkfhpiamddhoaaGreatAmExec2
set_option autoImplicit false
namespace Go.AM

variable {E : Env} {P : Program} {K : Kall} {Φ : Nat → Prop} {L : Lay} {s : St} {w : World} {F : Fence} {n : Nat}

/-! ### Results -/
theorem loadVar_of {t : TypeId} {x : Value} {y : Value} (h : (Instr.loadAt t x).run P w = .ok y w) (ha : ∃ a, x = .pointer (some a)) : ((asAddr x).bind (loadVar t)).run P w = .ok y w := by
  obtain ⟨a, rfl⟩ := ha
  exact h

def resOne (tmps : Array Value) : ResultVar → Sem Value
  | .tmp t => pure (tmps.getD t undef)
  | .cell a t => do loadVar t (← asAddr (tmps.getD a undef))

theorem loadAt_ptr {t : TypeId} {a d : D} {x : Value} (ha : Rel Φ L s w a x) (h : loadAt E s t a = some d) : ∃ p, x = .pointer (some p) := by
  unfold loadAt at h
  split at h
  · cases ha <;> first | exact ⟨_, rfl⟩ | simp at h
  · simp at h

theorem resultsD_sound (hE : EnvOk E P) (hR : R Φ L s w) {tmps : List D} {vt : Array Value} (ht : RelL Φ L s w tmps vt.toList) : ∀ (rs : List ResultVar) (ds : List D), resultsD E s tmps rs = some ds →
    ∃ vs, (rs.mapM (resOne vt)).run P w = .ok vs w ∧ RelL Φ L s w ds vs
  | [], ds, h => by
    simp [resultsD] at h; subst h
    exact ⟨[], by simp, RelL.nil⟩
  | .tmp t :: rs, ds, h => by
    simp only [resultsD] at h
    split at h
    · rename_i d ds' hd hds
      simp at h; subst h
      obtain ⟨vs, h1, h2⟩ := resultsD_sound hE hR ht rs ds' hds
      rw [getL_eq] at hd
      obtain ⟨v, hv, hr⟩ := ht.get hd
      rw [Array.getElem?_toList] at hv
      have hv' : vt.getD t undef = v := by rw [Array.getD_eq_getD_getElem?, hv]; rfl
      exact ⟨v :: vs, by simp [resOne, h1, hv'], h2.cons hr⟩
    · simp at h
  | .cell a t :: rs, ds, h => by
    simp only [resultsD] at h
    split at h
    · rename_i x ds' hx hds
      simp only [Option.map_eq_some_iff] at h
      obtain ⟨d, hd, rfl⟩ := h
      obtain ⟨vs, h1, h2⟩ := resultsD_sound hE hR ht rs ds' hds
      rw [getL_eq] at hx
      obtain ⟨v, hv, hr⟩ := ht.get hx
      rw [Array.getElem?_toList] at hv
      have hv' : vt.getD a undef = v := by rw [Array.getD_eq_getD_getElem?, hv]; rfl
      obtain ⟨y, hy, hyr⟩ := load_sound hE hR hr hd
      obtain ⟨p, rfl⟩ := loadAt_ptr hr hd
      have hy' : (loadVar t p).run P w = .ok y w := hy
      exact ⟨y :: vs, by simp [resOne, h1, hv', asAddr, hy'], h2.cons hyr⟩
    · simp at h

theorem packR_sound {ds : List D} {vs : List Value} (h : RelL Φ L s w ds vs) : Rel Φ L s w (packR ds) (if h : vs.toArray.size = 1 then vs.toArray[0] else .tuple vs.toArray) := by
  have tup : Rel Φ L s w (.tup ds) (.tuple vs.toArray) := .tup (by simpa using h.1) (fun i d x h1 h2 => h.2 i d x h1 (by simpa using h2))
  unfold packR
  split
  · rename_i d
    have h1 := h.1
    match vs, h with
    | [v], h => simpa using h.2 0 d v rfl rfl
    | [], h => simp at h1
    | _ :: _ :: _, h => simp at h1
  · rename_i hne
    rw [dif_neg]
    · exact tup
    · intro hc
      have := h.1
      simp at hc
      match ds with
      | [] => simp at this; omega
      | [d] => exact hne d rfl
      | _ :: _ :: _ => simp at this; omega

theorem results_sound (hE : EnvOk E P) (hR : R Φ L s w) {fn : Func} {tmps : List D} {vt : Array Value} (ht : RelL Φ L s w tmps vt.toList) {ds : List D} (h : resultsD E s tmps fn.results.toList = some ds) :
    ∃ v, (results fn vt).run P w = .ok v w ∧ Rel Φ L s w (packR ds) v := by
  obtain ⟨vs, h1, h2⟩ := resultsD_sound hE hR ht _ _ h
  refine ⟨_, ?_, packR_sound h2⟩
  unfold results
  rw [Sem.run_bind, Array.mapM_eq_mapM_toList]
  have e : ∀ (f : ResultVar → Sem Value), (∀ x, f x = resOne vt x) → List.mapM f fn.results.toList = List.mapM (resOne vt) fn.results.toList := fun f hf => by rw [funext hf]
  rw [e _ (fun x => by cases x <;> rfl)]
  simp [h1]

/-! ### The frame leaves -/
theorem leave_sound (hE : EnvOk3 E P) {fn : Func} {Φ : Nat → Prop} {L₀ : Lay} {s₀ : St} {w₀ : World} {d : D} {s' : St} : ∀ (dfs : List Dfr) (ds : List Deferred) (L : Lay) (s : St) (w : World) (tmps : List D) (vt : Array Value),
    leave E fn tmps dfs s = some (d, s') → R Φ L s w → Ext Φ L₀ s₀ w₀ L s w → RelL Φ L s w tmps vt.toList → DfsRel Φ L s w dfs ds →
    LeavesInM F n P fn vt (CallPost Φ L₀ s₀ w₀ (.ret d) s') ds .returning w
  | [], [], L, s, w, tmps, vt, h, hR, hx, ht, _ => by
    simp only [leave] at h
    split at h
    · rename_i rs hrs
      simp at h
      obtain ⟨rfl, rfl⟩ := h
      obtain ⟨v, h1, h2⟩ := results_sound hE.toEnvOk hR ht hrs
      exact ⟨v, h1, L, v, hR, hx, rfl, h2⟩
    · simp at h
  | .mark id st :: dfs, y :: ds, L, s, w, tmps, vt, h, hR, hx, ht, hd => by
    simp only [leave] at h
    split at h
    · rename_i st' ho
      split at h
      · rename_i hc
        obtain ⟨rfl, hm⟩ := hc
        rw [getL_eq] at ho
        obtain ⟨⟨r, rfl, hk, hr⟩, hds⟩ := hd
        have hr := hr ho
        subst hr
        have hobj : w.heap[L.blk id]? = some (.deferred (some [])) := hR.obj _ _ ho
        obtain ⟨r1, x1⟩ := kill_ok hR ho rfl hm (.deferred none)
        refine ⟨by simp, .inl ⟨_, _, rfl, run_takeDeferred hobj, ?_⟩⟩
        exact leave_sound hE dfs ds L _ _ tmps vt h r1 (hx.trans x1) (ht.ext x1) (DfsRel.ext x1 hds)
      · simp at h
    · simp at h
  | .call f args :: dfs, y :: ds, L, s, w, tmps, vt, h, hR, hx, ht, hd => by simp [leave] at h
  | [], _ :: _, _, _, _, _, _, _, _, _, _, hd => hd.elim
  | _ :: _, [], _, _, _, _, _, _, _, _, _, hd => hd.elim

theorem bodyRun_sound (hE : EnvOk3 E P) (hK : KOk E P K) (hD : DrawOk E P K) {lf : Nat} {f : FuncId} {args : List D} {d : D} {s s' : St} (h : bodyRun E K lf f args s = some (d, s')) :
    (∃ fn, E.fn f = some fn ∧ fn.body.isSome = true) ∧
    ∀ (F : Fence) (n : Nat) (Φ : Nat → Prop) (L : Lay) (w : World) (vs : Array Value), Calm F → L.ok = E.okC → R Φ L s w → RelL Φ L s w args vs.toList → CallsIn F n P f vs w (CallPost Φ L s w (.ret d) s') := by
  unfold bodyRun at h
  split at h
  · rename_i fn hfn
    split at h
    · rename_i c hc
      refine ⟨⟨fn, hfn, by simp [hc]⟩, ?_⟩
      intro F n Φ L w vs hF hok hR hargs
      rw [← callsIn_plain]
      refine callsIn_of_wp_marks (hE.fn f fn hfn) hc (hF.fn f) ?_ rfl
      have hA : ARel Φ L s w { tmps := args ++ List.replicate (fn.ntmps - args.length) und, dfs := [] } { tmps := vs ++ Array.replicate (fn.ntmps - vs.size) undef, defers := [] } := by
        refine ⟨?_, trivial⟩
        have hl : args.length = vs.size := by rw [hargs.1]; simp
        have hr : RelL Φ L s w (List.replicate (fn.ntmps - args.length) und) (List.replicate (fn.ntmps - vs.size) undef) := by
          rw [hl]
          refine ⟨by simp, ?_⟩
          intro i d x h1 h2
          have h1 := List.eq_of_mem_replicate (List.mem_of_getElem? h1)
          have h2 := List.eq_of_mem_replicate (List.mem_of_getElem? h2)
          subst h1; subst h2
          exact .und
        simpa using hargs.append hr
      cases hex : exec E K f lf false c { tmps := args ++ List.replicate (fn.ntmps - args.length) und, dfs := [] } s with
      | none => rw [hex] at h; simp at h
      | some r =>
        obtain ⟨e, a1, s1⟩ := r
        rw [hex] at h
        refine wpIn_mono (exec_sound hE hK hD f lf false c F.plain n Φ L s w _ _ e a1 s1 hF.plain (fun _ => rfl) (hE.code f fn c hfn hc) hok hR hA hex) ?_
        rintro z ac1 w1 ⟨L1, h1, h2, h3, h4⟩
        cases e with
        | normal => cases h4; exact leave_sound hE _ _ _ _ _ _ _ h h1 h2 h3.tmps h3.dfs
        | ret => cases h4; exact leave_sound hE _ _ _ _ _ _ _ h h1 h2 h3.tmps h3.dfs
        | exit id => simp at h
        | panic d => simp at h
    · simp at h
  · simp at h
#print axioms bodyRun_sound
end Go.AM
