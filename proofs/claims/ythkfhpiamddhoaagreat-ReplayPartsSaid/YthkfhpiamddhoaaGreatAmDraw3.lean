/- Regions whose order is drawn: two operations that are apart change places; an operation that may come first is taken first. -/
import Derived.Test.YthkfhpiamddhoaaGreatAmDraw2
set_option autoImplicit false
namespace Go.AM

variable {E : Env} {P : Program} {K : Kall} {Φ : Nat → Prop} {L : Lay} {w : World} {F : Fence} {n : Nat}

/-- what the calls do, by their modes -/
structure KGood (E : Env) (K : Kall) : Prop where
  pure : ∀ {c r : Nat} {h : List Nat} {f : FuncId} {args : List D} {s s' : St} {d : D}, modeOf E f c r args = .pure → K.call c r h f args s = some (.ret d, s') → s' = s ∧ ∀ t, K.call c r h f args t = some (.ret d, t)
  ro : ∀ {c r : Nat} {h : List Nat} {f : FuncId} {args : List D} {s s' : St} {d : D}, modeOf E f c r args = .ro → K.call c r h f args s = some (.ret d, s') → s' = s
  ref : ∀ {c r : Nat} {h : List Nat} {f : FuncId} {args : List D} {s s' : St} {d : D}, modeOf E f c r args = .ref → K.call c r h f args s = some (.ret d, s') → ∀ id ∈ h, s'.σ[id]? = s.σ[id]?

theorem callF_good : KGood E { call := callF E K, yield := K.yield } where
  pure := by
    intro c r h f args s s' d hm hc
    simp only [callF, hm] at hc ⊢
    split at hc
    · split at hc
      · split at hc
        · split at hc
          · simp at hc
            obtain ⟨rfl, rfl⟩ := hc
            exact ⟨rfl, fun t => by simp_all⟩
          · simp at hc
        · simp at hc
      · simp at hc
    · simp at hc
  ro := by
    intro c r h f args s s' d hm hc
    simp only [callF, hm] at hc
    split at hc
    · split at hc
      · split at hc
        · simp at hc
          exact hc.2.symm
        · simp at hc
      · simp at hc
    · simp at hc
  ref := by
    intro c r h f args s s' d hm hc
    simp only [callF, hm] at hc
    split at hc
    · split at hc
      · rename_i r1 σ hfr hrs
        simp at hc
        obtain ⟨rfl, rfl⟩ := hc
        intro id hid
        obtain ⟨_, h2, _⟩ := restore_spec hrs
        obtain ⟨st, rs, esz, rs', esz', g1, g2, g3⟩ := h2 id hid
        rw [g1]; exact g3
      · simp at hc
    · simp at hc

theorem KGood.of_call {K' : Kall} (h : KGood E { call := K.call, yield := K'.yield }) : KGood E K := ⟨h.pure, h.ro, h.ref⟩

theorem Law.congr {g h : St → Option (D × St × Foot)} (e : ∀ s, g s = h s) (l : Law h) : Law g := (funext e : g = h) ▸ l

theorem law_const {d : D} : Law (fun s => some (d, s, .n)) := by
  intro s e s' f h
  simp at h
  obtain ⟨rfl, rfl, rfl⟩ := h
  exact ⟨rfl, fun t => rfl⟩

theorem opPlain_law (hG : KGood E K) {fid rid : Nat} {h : List Nat} {a : Ac} {o : Oper} : Law (fun s => opPlain E K fid rid h a s o) := by
  by_cases hc : ∃ c, o.op = .call c
  · obtain ⟨c, hc⟩ := hc
    obtain ⟨dst, op, type, pos, after, guard⟩ := o
    simp only at hc
    subst hc
    unfold opPlain evalOp
    simp only
    cases hargs : evalAll a c.args.toList with
    | none => exact law_of_none (fun s => rfl)
    | some args =>
      simp only
      cases hcal : c.callee with
      | builtin b =>
        simp only
        have hb : ∀ s, builtinOp E s b c.argTypes.toList args = val1 s ((builtinOp E .empty b c.argTypes.toList args).map (·.1)) := by
          intro s
          unfold builtinOp
          split
          · split
            · split <;> simp [val1]
            · simp [val1]
            · simp [val1]
          · simp [val1]
        refine Law.congr (fun s => ?_) (law_pure (q := fun _ => .n) _ hb (fun d => rfl))
        cases builtinOp E s b c.argTypes.toList args with
        | none => rfl
        | some p => obtain ⟨x, y⟩ := p; simp [val2, footOf]
      | invoke r m => exact law_of_none (fun s => rfl)
      | value f =>
        simp only
        cases hf : a.eval f with
        | none => exact law_of_none (fun s => rfl)
        | some v =>
          cases v
          case fn g first cap =>
            simp only
            generalize first ++ args ++ cap = all
            cases he : E.ext g with
            | some hx =>
              simp only
              refine Law.congr (fun s => ?_) (law_pure (q := fun _ => .n) (g := fun s => val1 s (hx all)) _ (fun s => rfl) (fun d => rfl))
              cases hx all with
              | none => rfl
              | some p => simp [val1, val2, footOf]
            | none =>
              simp only
              intro s d s' ft hh
              simp only at hh
              split at hh
              · rename_i d1 s1 hk
                simp only [Option.some.injEq, Prod.mk.injEq] at hh
                obtain ⟨rfl, rfl, rfl⟩ := hh
                unfold footCall
                cases hm : modeOf E g fid rid all with
                | pure =>
                  obtain ⟨h1, h2⟩ := hG.pure hm hk
                  exact ⟨h1, fun t => by simp only [h2 t, footCall, hm]⟩
                | ro => exact hG.ro hm hk
                | ref => exact hG.ref hm hk
                | keep => intro id hid; cases hid
                | thaw => intro id hid; cases hid
              · simp at hh
          case yld id st =>
            simp only
            intro s d s' ft hh
            simp only at hh
            split at hh
            · simp at hh
              obtain ⟨rfl, rfl, rfl⟩ := hh
              intro id hid; cases hid
            · simp at hh
          all_goals exact law_of_none (fun s => rfl)
  · have he : ∀ s, evalOp E (E.own fid rid) a s o = val2 (evalVal E (E.own fid rid) a s o) := by
      intro s
      obtain ⟨dst, op, type, pos, after, guard⟩ := o
      cases op <;> first | rfl | exact absurd ⟨_, rfl⟩ hc
    have e : (fun s => opPlain E K fid rid h a s o) = (fun s => match evalVal E (E.own fid rid) a s o with | some (d, s') => some (d, s', footOf a o d) | none => none) := by
      funext s
      unfold opPlain
      rw [he]
      cases evalVal E (E.own fid rid) a s o with
      | none => rfl
      | some p => rfl
    rw [e]
    exact evalVal_law

theorem opDraw_law (hG : KGood E K) {fid rid base i : Nat} {info : DrawInfo} {a : Ac} {o : Oper} : Law (fun s => opDraw E K fid rid info base i a s o) := by
  unfold opDraw
  cases idxOf i info.allocs 0 with
  | none => exact opPlain_law hG
  | some k =>
    simp only
    cases evalNew E (E.own fid rid) a o with
    | none => exact opPlain_law hG
    | some p =>
      obtain ⟨nk, ob⟩ := p
      simp only
      intro s d s' f h
      simp only at h
      unfold St.fill at h
      rw [getL_eq] at h
      split at h
      · rename_i st s1 hq
        split at hq
        · rename_i st' hst
          simp at hq
          obtain ⟨rfl, rfl⟩ := hq
          simp at h
          obtain ⟨rfl, rfl, rfl⟩ := h
          refine ⟨_, ob st', hst, by rw [setL_eq], fun t ht => ?_⟩
          simp only [St.fill, getL_eq, ht, setL_eq]
        · simp at hq
      · simp at h

noncomputable def opFull (E : Env) (K : Kall) (fid rid : Nat) (ops : Array Oper) (info : DrawInfo) (base i : Nat) (o : Oper) (a : Ac) (s : St) : Option (D × St × Foot) :=
  if wantedD ops a o then opDraw E K fid rid info base i a s o else some (und, s, .n)

theorem stepT_eq {fid rid : Nat} {ops : Array Oper} {info : DrawInfo} {base i : Nat} {o : Oper} {a : Ac} {s : St} :
    stepT E K fid rid ops info base i o a s = match opFull E K fid rid ops info base i o a s with | some (d, s', f) => some (a.put o.dst d, s', f) | none => none := by
  unfold stepT opFull
  split <;> rfl

theorem opFull_law (hG : KGood E K) {fid rid : Nat} {ops : Array Oper} {info : DrawInfo} {base i : Nat} {o : Oper} {a : Ac} : Law (opFull E K fid rid ops info base i o a) := by
  unfold opFull
  by_cases c : wantedD ops a o = true
  · simp only [c, if_true]; exact opDraw_law hG
  · simp only [c, if_false]; exact law_const

theorem lookupN_mem {α : Type} {x : Nat} {l : List (Nat × List α)} {y : α} (h : y ∈ lookupN x l) : ∃ k ts, (k, ts) ∈ l ∧ y ∈ ts := by
  induction l with
  | nil => simp [lookupN] at h
  | cons p l ih =>
    obtain ⟨k, ts⟩ := p
    simp only [lookupN] at h
    split at h
    · exact ⟨k, ts, by simp, h⟩
    · obtain ⟨k', ts', h1, h2⟩ := ih h
      exact ⟨k', ts', by simp [h1], h2⟩

theorem hidesOk_spec {ops : List Oper} : ∀ {l : List (Nat × List Tmp)}, hidesOk ops l = true → ∀ k ts, (k, ts) ∈ l → ∀ t ∈ ts, ∀ o ∈ ops, o.dst ≠ some t
  | [], _, k, ts, h => by simp at h
  | (k', ts') :: r, hl, k, ts, h => by
    simp only [hidesOk, Bool.and_eq_true, List.all_eq_true] at hl
    simp at h
    rcases h with ⟨rfl, rfl⟩ | h
    · intro t ht o ho e
      have := hl.1 t ht o ho
      simp [e] at this
    · exact hidesOk_spec hl.2 k ts h

theorem opFull_congr {fid rid : Nat} {ops : Array Oper} {info : DrawInfo} (hh : hidesOk ops.toList info.hides = true) {base i : Nat} {o : Oper} {a : Ac} {dst : Option Tmp} {d : D} (hd : ∃ q ∈ ops.toList, q.dst = dst) (h : ∀ t, dst = some t → t ∉ o.looksAt ops) (s : St) :
    opFull E K fid rid ops info base i o (a.put dst d) s = opFull E K fid rid ops info base i o a s := by
  unfold opFull
  rw [looks_wanted h, opDraw_congr (looks_eval h)]
  intro t ht
  obtain ⟨k, ts, h1, h2⟩ := lookupN_mem ht
  obtain ⟨q, hq, rfl⟩ := hd
  have := hidesOk_spec hh k ts h1 t h2 q hq
  cases hdst : q.dst with
  | none => rfl
  | some u =>
    have hne : u ≠ t := fun e => this (by rw [hdst, e])
    simp only [Ac.put, setL_eq, getL_eq, List.getElem?_set_ne hne]

theorem put_comm (a : Ac) {x y : Option Tmp} (d e : D) (h : ∀ t, x = some t → y ≠ some t) : (a.put x d).put y e = (a.put y e).put x d := by
  cases x with
  | none => rfl
  | some t =>
    cases y with
    | none => rfl
    | some u =>
      have hne : t ≠ u := fun he => h t rfl (he ▸ rfl)
      simp only [Ac.put, setL_eq, List.set_comm _ _ hne]

theorem stepT_comm (hG : KGood E K) {fid rid : Nat} {ops : Array Oper} {info : DrawInfo} (hh : hidesOk ops.toList info.hides = true) {base i j : Nat} {oi oj : Oper} (hi : oi ∈ ops.toList) (hj : oj ∈ ops.toList) (hap : oi.apart ops oj = true)
    {a a1 a2 : Ac} {s s1 s2 : St} {f f' : Foot} (h1 : stepT E K fid rid ops info base i oi a s = some (a1, s1, f)) (h2 : stepT E K fid rid ops info base j oj a1 s1 = some (a2, s2, f')) (hc : compat f f' = true) :
    ∃ b t, stepT E K fid rid ops info base j oj a s = some (b, t, f') ∧ stepT E K fid rid ops info base i oi b t = some (a2, s2, f) := by
  obtain ⟨p1, p2, p3⟩ := Oper.apart_spec hap
  rw [stepT_eq] at h1 h2
  split at h1
  · rename_i d s1' f1 hq1
    simp at h1
    obtain ⟨rfl, rfl, rfl⟩ := h1
    split at h2
    · rename_i e s2' f2 hq2
      simp at h2
      obtain ⟨rfl, rfl, rfl⟩ := h2
      rw [opFull_congr hh ⟨oi, hi, rfl⟩ p1] at hq2
      obtain ⟨t, q1, q2⟩ := law_comm (opFull_law hG) (opFull_law hG) hq1 hq2 hc
      refine ⟨a.put oj.dst e, t, by rw [stepT_eq, q1], ?_⟩
      rw [stepT_eq, opFull_congr hh ⟨oj, hj, rfl⟩ p3, q2]
      simp only [put_comm a d e p2]
    · simp at h2
  · simp at h1
#print axioms stepT_comm
end Go.AM
