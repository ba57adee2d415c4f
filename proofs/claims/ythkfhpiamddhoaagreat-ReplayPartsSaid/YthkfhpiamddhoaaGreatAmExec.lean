/- The walk of code, once for all: what 'exec' says the model does. -/
import Derived.Test.YthkfhpiamddhoaaGreatAmOps7
import Derived.RangeFuncLeaves
import Derived.Orders
set_option autoImplicit false
namespace Go.AM

/-- it touches nothing of the store, whatever its operands are -/
def staticN (o : Oper) : Bool :=
  match o.op with
  | .load .. | .indexAddr .. | .slice .. | .convert .. | .store .. | .alloc .. | .box .. | .makeMap .. | .makeSlice .. | .buildSlice .. => false
  | .call c => match c.callee with
    | .builtin _ => true
    | _ => false
  | _ => true

/-- it reads, and no more, whatever its operands are -/
def staticR (o : Oper) : Bool :=
  match o.op with
  | .load .. | .indexAddr .. | .slice .. | .convert .. => true
  | _ => false

/-- which operations come before each, as bits -/
noncomputable def maskOf (ms : List Nat) : List Edge → Nat
  | [] => 0
  | e :: es => if Region.binds .any e then ((1 <<< e.on) ||| ((getL ms e.on).getD 0)) ||| maskOf ms es else maskOf ms es
noncomputable def masks : List Oper → List Nat → List Nat
  | [], ms => ms
  | o :: os, ms => masks os (ms ++ [maskOf ms o.after.toList])

def memP (x y : Nat) : List (Nat × Nat) → Bool
  | [] => false
  | (a, b) :: r => (a == x && b == y) || memP x y r

/-- operation j against those before it -/
def pairOk (ops : Array Oper) (info : DrawInfo) (mj : Nat) (oj : Oper) (j : Nat) : Nat → List Oper → Bool
  | _, [] => true
  | k, ok :: os => (mj.testBit k || (ok.apart ops oj && (staticN ok || staticN oj || (staticR ok && staticR oj) || memP k j info.pairs))) && pairOk ops info mj oj j (k + 1) os

def edgesOk (j : Nat) (es : List Edge) : Bool := es.all fun e => !Region.binds .any e || decide (e.on < j)

noncomputable def rowsOk (ops : Array Oper) (info : DrawInfo) (ms : List Nat) (all : List Oper) : Nat → List Oper → Bool
  | _, [] => true
  | j, o :: os => edgesOk j o.after.toList && pairOk ops info ((getL ms j).getD 0) o j 0 (all.take j) && rowsOk ops info ms all (j + 1) os

def hidesOk (ops : List Oper) : List (Nat × List Tmp) → Bool
  | [] => true
  | (_, ts) :: r => ts.all (fun t => ops.all fun o => !(o.dst == some t)) && hidesOk ops r

/-- the static side of a region whose order is drawn -/
noncomputable def drawStatic (ops : Array Oper) (info : DrawInfo) : Bool :=
  rowsOk ops info (masks ops.toList []) ops.toList 0 ops.toList && hidesOk ops.toList info.hides

noncomputable def okCode (E : Env) (f : FuncId) : Code → Bool
  | .region rid ops true => match E.draw f rid with
    | some info => drawStatic ops info
    | none => true
  | .seq x y => okCode E f x && okCode E f y
  | .cond _ x y => okCode E f x && okCode E f y
  | .block _ x => okCode E f x
  | .loop x => okCode E f x
  | .rangeFunc _ _ x y => okCode E f x && okCode E f y
  | _ => true
def Env.okC (E : Env) (f : FuncId) (c : Code) : Prop := okCode E f c = true

structure EnvOk3 (E : Env) (P : Program) : Prop extends EnvOk2 E P where
  nogo : ∀ (f : FuncId) (fn : Func), E.fn f = some fn → fn.body.isSome = true → (fn.name == "runtime.NumGoroutine") = false
  code : ∀ (f : FuncId) (fn : Func) (c : Code), E.fn f = some fn → fn.body = some c → E.okC f c
  mixed : P.follows .mixedOrders = true

/-- a fence that keeps nothing out -/
structure Calm (F : Fence) : Prop where
  fn : ∀ f, F.fn f
  depth : F.depth = none

variable {E : Env} {P : Program} {K : Kall} {Φ : Nat → Prop} {L : Lay} {s : St} {w : World} {F : Fence} {n : Nat}

theorem Calm.room (h : Calm F) (k : Nat) : F.room k := fun d hd => by rw [h.depth] at hd; cases hd
theorem Calm.need (h : Calm F) {p : Prop} : F.depth.isSome = true → p := fun hd => by rw [h.depth] at hd; cases hd
theorem Calm.inRound (h : Calm F) (l : Nat) : Calm (F.inRound l) := ⟨h.fn, h.depth⟩
theorem Calm.plain (h : Calm F) : Calm F.plain := ⟨h.fn, h.depth⟩
theorem callsIn_plain {f : FuncId} {vs : Array Value} {Q : Ending → World → Prop} : CallsIn F.plain n P f vs w Q ↔ CallsIn F n P f vs w Q := Iff.rfl

def DfrRel (Φ : Nat → Prop) (L : Lay) (s : St) (w : World) : Dfr → Deferred → Prop
  | .mark id st, d => ∃ r, d = { target := .collected r, args := #[] } ∧ s.knows id st ∧ (s.σ[id]? = some (.dfr st) → r = L.blk id)
  | .call f args, d => d.target = .fn (.func f) #[] ∧ RelL Φ L s w args d.args.toList
def DfsRel (Φ : Nat → Prop) (L : Lay) (s : St) (w : World) : List Dfr → List Deferred → Prop
  | [], [] => True
  | x :: xs, y :: ys => DfrRel Φ L s w x y ∧ DfsRel Φ L s w xs ys
  | _, _ => False

theorem DfrRel.ext {L' : Lay} {s' : St} {w' : World} (hx : Ext Φ L s w L' s' w') {x : Dfr} {y : Deferred} (h : DfrRel Φ L s w x y) : DfrRel Φ L' s' w' x y := by
  cases x with
  | call f args => exact ⟨h.1, h.2.ext hx⟩
  | mark id st =>
    obtain ⟨r, h1, h2, h3⟩ := h
    refine ⟨r, h1, hx.knows _ _ h2, fun ho => ?_⟩
    obtain ⟨o, g1, g2, g3, g4, g5⟩ := hx.old id _ ho rfl h2
    cases o <;> simp [Obj.alike] at g3
    subst g3
    rw [g4]; exact h3 g1
theorem DfsRel.ext {L' : Lay} {s' : St} {w' : World} (hx : Ext Φ L s w L' s' w') : ∀ {xs : List Dfr} {ys : List Deferred}, DfsRel Φ L s w xs ys → DfsRel Φ L' s' w' xs ys
  | [], [], _ => trivial
  | _ :: _, _ :: _, h => ⟨h.1.ext hx, DfsRel.ext hx h.2⟩
  | [], _ :: _, h => h.elim
  | _ :: _, [], h => h.elim

def ExMatch (Φ : Nat → Prop) (L : Lay) (s : St) (w : World) : Ex → Exit → Prop
  | .normal, x => x = .normal
  | .exit id, x => x = .exit id
  | .ret, x => x = .ret
  | .panic d, x => ∃ v, x = .panic [{ v, recovered := false }] ∧ Rel Φ L s w d v

structure ARel (Φ : Nat → Prop) (L : Lay) (s : St) (w : World) (a : Ac) (ac : Act) : Prop where
  tmps : RelL Φ L s w a.tmps ac.tmps.toList
  dfs : DfsRel Φ L s w a.dfs ac.defers

theorem ARel.ext {L' : Lay} {s' : St} {w' : World} (hx : Ext Φ L s w L' s' w') {a : Ac} {ac : Act} (h : ARel Φ L s w a ac) : ARel Φ L' s' w' a ac := ⟨h.tmps.ext hx, h.dfs.ext hx⟩

theorem ARel.put {a : Ac} {ac : Act} (h : ARel Φ L s w a ac) (dst : Option Tmp) {d : D} {x : Value} (hd : Rel Φ L s w d x) : ARel Φ L s w (a.put dst d) (ac.put dst x) := by
  cases dst with
  | none => exact h
  | some t =>
    refine ⟨?_, h.dfs⟩
    show RelL Φ L s w (setL a.tmps t d) (ac.tmps.setIfInBounds t x).toList
    rw [setL_eq]
    simpa using h.tmps.set t hd

def ExPost (Φ : Nat → Prop) (L : Lay) (s : St) (w : World) (e : Ex) (a' : Ac) (s' : St) : Exit → Act → World → Prop := fun x ac w' =>
  ∃ L', R Φ L' s' w' ∧ Ext Φ L s w L' s' w' ∧ ARel Φ L' s' w' a' ac ∧ ExMatch Φ L' s' w' e x

def CallPost (Φ : Nat → Prop) (L : Lay) (s : St) (w : World) (res : CRes) (s' : St) : Ending → World → Prop := fun e w' =>
  ∃ L' v, R Φ L' s' w' ∧ Ext Φ L s w L' s' w' ∧
    match res with
    | .ret d => e = .returned v ∧ Rel Φ L' s' w' d v
    | .panic d => e = .panicked [{ v, recovered := false }] ∧ Rel Φ L' s' w' d v

theorem ExPost.trans {L' : Lay} {s' s'' : St} {w' : World} (hx : Ext Φ L s w L' s' w') {e : Ex} {a : Ac} {x : Exit} {ac : Act} {w'' : World} (h : ExPost Φ L' s' w' e a s'' x ac w'') : ExPost Φ L s w e a s'' x ac w'' := by
  obtain ⟨L₂, h1, h2, h3, h4⟩ := h
  exact ⟨L₂, h1, hx.trans h2, h3, h4⟩

/-- what is known of the calls below -/
structure KOk (E : Env) (P : Program) (K : Kall) : Prop where
  call : ∀ {c r : Nat} {hide : List Nat} {f : FuncId} {args : List D} {s s' : St} {res : CRes}, K.call c r hide f args s = some (res, s') →
    (∃ fn, E.fn f = some fn ∧ fn.body.isSome = true) ∧
    ∀ (F : Fence) (n : Nat) (Φ : Nat → Prop) (L : Lay) (w : World) (vs : Array Value), Calm F → L.ok = E.okC → R Φ L s w → RelL Φ L s w args vs.toList → CallsIn F n P f vs w (CallPost Φ L s w res s')
  yield : ∀ {id st : Nat} {args : List D} {s s' : St} {res : CRes}, K.yield id st args s = some (res, s') →
    ∀ (F : Fence) (n : Nat) (Φ : Nat → Prop) (L : Lay) (w : World) (vs : Array Value), Calm F → L.ok = E.okC → R Φ L s w → RelL Φ L s w args vs.toList →
      ∃ f tmps assign body, (∃ lp, s.σ[id]? = some (.loop st lp)) ∧ (Instr.yield (L.blk id) vs).run P w = .ok (.round (L.blk id) f tmps assign body) w ∧ RoundIn F n P (L.blk id) f tmps assign body w (CallPost Φ L s w res s')

theorem run_callFunc (hE : EnvOk3 E P) {f : FuncId} {fn : Func} (hf : E.fn f = some fn) (hb : fn.body.isSome = true) (vs : Array Value) (w : World) : (callFunc f vs).run P w = .ok (.enter f vs) w := by
  have h1 := hE.fn f fn hf
  have h2 := hE.nogo f fn hf hb
  have h3 : fn.body.isNone = false := by cases h : fn.body <;> simp_all
  unfold callFunc
  rw [Sem.run_bind, run_program, Result.andThen_ok]
  simp only [h1, h2, h3, Bool.false_eq_true, if_false, Sem.run_pure]

theorem val2_ncall {x : Option (D × St)} {g : FuncId} {all : List D} (h : val2 x = some (.call g all)) : False := by
  cases x with
  | none => simp [val2] at h
  | some y => obtain ⟨a, b⟩ := y; simp [val2] at h
theorem val2_nyield {x : Option (D × St)} {id st : Nat} {all : List D} (h : val2 x = some (.yield id st all)) : False := by
  cases x with
  | none => simp [val2] at h
  | some y => obtain ⟨a, b⟩ := y; simp [val2] at h

/-- an operation that calls -/
theorem evalOp_call (hE : EnvOk3 E P) {own : Bool} {a : Ac} {ac : Act} {o : Oper} {g : FuncId} {all : List D} (hA : RelL Φ L s w a.tmps ac.tmps.toList) (h : evalOp E own a s o = some (.call g all))
    (hf : ∃ fn, E.fn g = some fn ∧ fn.body.isSome = true) : ∃ vs : Array Value, (execOp ac.eval o).run P w = .ok (.enter g vs) w ∧ RelL Φ L s w all vs.toList := by
  obtain ⟨dst, op, type, pos, after, guard⟩ := o
  unfold evalOp at h
  simp only at h
  split at h
  · rename_i c
    split at h
    · rename_i args hargs
      split at h
      · exact (val2_ncall h).elim
      · rename_i f hfe
        split at h
        · rename_i g' first cap hfv
          split at h
          · exact (val2_ncall h).elim
          · simp at h
            obtain ⟨rfl, rfl⟩ := h
            have rargs := evalAll_rel hA _ _ hargs
            have rf := eval_rel hA hfv
            generalize hv : ac.eval f = v at rf
            cases rf with
            | @fn _ _ _ xs ys ha hb' hra hrb =>
              obtain ⟨fn, hfn, hbody⟩ := hf
              have r1 : RelL Φ L s w first xs.toList := ⟨by simpa using ha, fun i d x g1 g2 => hra i d x g1 (by simpa using g2)⟩
              have r2 : RelL Φ L s w cap ys.toList := ⟨by simpa using hb', fun i d x g1 g2 => hrb i d x g1 (by simpa using g2)⟩
              refine ⟨xs ++ c.args.map ac.eval ++ ys, ?_, ?_⟩
              · simp only [execOp, Sem.run_bind, run_call_value c type ac.eval f hfe _ _ _ hv, Result.andThen_ok, invoke]
                exact run_callFunc hE hfn hbody _ _
              · simpa using (r1.append rargs).append r2
        · simp at h
        · simp at h
      · simp at h
    · simp at h
  · exact (val2_ncall h).elim

theorem evalOp_yield {own : Bool} {a : Ac} {ac : Act} {o : Oper} {id st : Nat} {args : List D} (hA : RelL Φ L s w a.tmps ac.tmps.toList) (h : evalOp E own a s o = some (.yield id st args)) :
    ∃ (l : Nat) (vs : Array Value), (execOp ac.eval o).run P w = (Instr.yield l vs).run P w ∧ RelL Φ L s w args vs.toList ∧ Rel Φ L s w (.yld id st) (.func (.yield l) #[] #[]) := by
  obtain ⟨dst, op, type, pos, after, guard⟩ := o
  unfold evalOp at h
  simp only at h
  split at h
  · rename_i c
    split at h
    · rename_i args' hargs
      split at h
      · exact (val2_nyield h).elim
      · rename_i f hfe
        split at h
        · split at h
          · exact (val2_nyield h).elim
          · simp at h
        · rename_i id' st' hfv
          simp at h
          obtain ⟨rfl, rfl, rfl⟩ := h
          have rargs := evalAll_rel hA _ _ hargs
          have rf := eval_rel hA hfv
          generalize hv : ac.eval f = v at rf
          have rf' := rf
          cases rf with
          | @yld _ _ l hst hl =>
            refine ⟨l, c.args.map ac.eval, ?_, by simpa using rargs, rf'⟩
            simp [execOp, resolve, hfe, hv, Deferred.ofValue, invoke]
        · simp at h
      · simp at h
    · simp at h
  · exact (val2_nyield h).elim

/-- no operation that AM carries out is a 'defer' -/
theorem evalOp_ndefer {own : Bool} {a : Ac} {o : Oper} {r : R1} (h : evalOp E own a s o = some r) : ∀ c, o.op ≠ .defer c := by
  intro c hc
  obtain ⟨dst, op, type, pos, after, guard⟩ := o
  subst hc
  simp [evalOp, evalVal, val2] at h

/-- one operation, calls and all -/
theorem opRun_sound (hE : EnvOk3 E P) (hK : KOk E P K) (hF : Calm F) (hok : L.ok = E.okC) (hR : R Φ L s w) {fid rid : Nat} {hide : List Nat} {a : Ac} {ac : Act} (hA : ARel Φ L s w a ac) {o : Oper} {res : CRes} {s' : St}
    (h : opRun E K fid rid hide a s o = some (res, s')) {next : Act → World → Prop} {Q : Exit → Act → World → Prop}
    (hn : ∀ (L' : Lay) (w' : World) (x : Value), R Φ L' s' w' → Ext Φ L s w L' s' w' → match res with
      | .ret d => Rel Φ L' s' w' d x → next (ac.put o.dst x) w'
      | .panic d => Rel Φ L' s' w' d x → Q (.panic [{ v := x, recovered := false }]) ac w') :
    o.wpIn F n P ac w next Q := by
  refine ⟨fun f _ => hF.fn f, ?_⟩
  unfold opRun at h
  split at h
  · rename_i d s1 hev
    simp at h
    obtain ⟨rfl, rfl⟩ := h
    rw [Oper.semAt_eq _ _ _ (evalOp_ndefer hev)]
    obtain ⟨x, w', L', hrun, h1, h2, h3⟩ := evalOp_val hE.toEnvOk2 hR hA.tmps hev
    rcases hrun with hrun | ⟨hrun, rfl⟩
    · rw [hrun]; exact hn L' w' x h1 h2 h3
    · rw [hrun]; exact hn L' w' undef h1 h2 h3
  · rename_i f args hev
    rw [Oper.semAt_eq _ _ _ (evalOp_ndefer hev)]
    obtain ⟨hfn, hcall⟩ := hK.call h
    obtain ⟨vs, hrun, hvs⟩ := evalOp_call hE hA.tmps hev hfn
    rw [hrun]
    refine ⟨hF.need, (hcall F (n - 1) Φ L w vs hF hok hR hvs).mono ?_⟩
    rintro e w' ⟨L', v, h1, h2, h3⟩
    have := hn L' w' v h1 h2
    cases res with
    | ret d => obtain ⟨rfl, h4⟩ := h3; exact this h4
    | panic d => obtain ⟨rfl, h4⟩ := h3; exact this h4
  · rename_i id st args hev
    rw [Oper.semAt_eq _ _ _ (evalOp_ndefer hev)]
    obtain ⟨l, vs, hrun, hvs, hy⟩ := evalOp_yield (P := P) hA.tmps hev
    obtain ⟨f, tmps, assign, body, ⟨lp, hlp⟩, hyr, hround⟩ := hK.yield h F (n - 1) Φ L w vs hF hok hR hvs
    have hl : l = L.blk id := by
      cases hy with
      | yld _ hl => exact hl lp hlp
    rw [hrun, hl, hyr]
    refine ⟨hF.need, hround.mono ?_⟩
    rintro e w' ⟨L', v, h1, h2, h3⟩
    have := hn L' w' v h1 h2
    cases res with
    | ret d => obtain ⟨rfl, h4⟩ := h3; exact this h4
    | panic d => obtain ⟨rfl, h4⟩ := h3; exact this h4
  · simp at h

theorem wantedD_rel {ops : Array Oper} {a : Ac} {ac : Act} (hA : RelL Φ L s w a.tmps ac.tmps.toList) (o : Oper) : Region.wanted o (yielded ops ac.tmps) = wantedD ops a o := by
  unfold Region.wanted wantedD
  cases o.guard with
  | none => rfl
  | some p =>
    obtain ⟨j, want⟩ := p
    simp only [yielded]
    cases (ops[j]?).bind (·.dst) with
    | none => simp
    | some t =>
      simp only [Option.bind_some, getL_eq]
      cases hd : a.tmps[t]? with
      | none =>
        have : ac.tmps[t]? = none := by
          rw [List.getElem?_eq_none_iff] at hd
          rw [← Array.getElem?_toList, List.getElem?_eq_none_iff, ← hA.1]
          exact hd
        simp [this]
      | some d =>
        obtain ⟨x, hx, hr⟩ := hA.get hd
        rw [Array.getElem?_toList] at hx
        rw [hx]
        cases hr with
        | v h => cases x <;> simp
        | _ => simp

theorem runOps_sound (hE : EnvOk3 E P) (hK : KOk E P K) (hF : Calm F) {fid rid : Nat} {ops : Array Oper} {Q : Exit → Act → World → Prop} : ∀ (os : List Oper) (is : List Nat) (L : Lay) (s : St) (w : World) (a : Ac) (ac : Act) (e : Ex) (a' : Ac) (s' : St),
    is.map (ops[·]?) = os.map some → L.ok = E.okC → R Φ L s w → ARel Φ L s w a ac → runOps E K fid rid ops os a s = some (e, a', s') → (∀ x ac' w', ExPost Φ L s w e a' s' x ac' w' → Q x ac' w') →
    wpOpsIn F n P ops Q is ac w
  | [], [], L, s, w, a, ac, e, a', s', _, hok, hR, hA, h, hQ => by
    simp [runOps] at h
    obtain ⟨rfl, rfl, rfl⟩ := h
    exact hQ _ _ _ ⟨L, hR, Ext.refl _ _ _ _, hA, rfl⟩
  | [], _ :: _, _, _, _, _, _, _, _, _, hm, _, _, _, _, _ => by simp at hm
  | _ :: _, [], _, _, _, _, _, _, _, _, hm, _, _, _, _, _ => by simp at hm
  | o :: os, i :: is, L, s, w, a, ac, e, a', s', hm, hok, hR, hA, h, hQ => by
    simp only [List.map_cons, List.cons.injEq] at hm
    obtain ⟨hi, hm⟩ := hm
    simp only [wpOpsIn, hi, wantedD_rel hA.tmps]
    unfold runOps at h
    by_cases hw : wantedD ops a o = true
    · simp only [hw, if_true] at h ⊢
      split at h
      · rename_i d s1 hop
        refine opRun_sound hE hK hF hok hR hA hop ?_
        intro L1 w1 x h1 h2 h3
        refine runOps_sound hE hK hF os is L1 s1 w1 _ _ e a' s' hm (h2.ok.trans hok) h1 ((hA.ext h2).put o.dst h3) h ?_
        intro y ac' w' hp
        exact hQ _ _ _ (hp.trans h2)
      · rename_i d s1 hop
        simp at h
        obtain ⟨rfl, rfl, rfl⟩ := h
        refine opRun_sound hE hK hF hok hR hA hop ?_
        intro L1 w1 x h1 h2 h3
        exact hQ _ _ _ ⟨L1, h1, h2, hA.ext h2, x, rfl, h3⟩
      · simp at h
    · simp only [hw, if_false] at h ⊢
      refine ⟨fun f _ => hF.fn f, ?_⟩
      exact runOps_sound hE hK hF os is L s w _ _ e a' s' hm hok hR (hA.put o.dst .und) h hQ
#print axioms runOps_sound
end Go.AM
