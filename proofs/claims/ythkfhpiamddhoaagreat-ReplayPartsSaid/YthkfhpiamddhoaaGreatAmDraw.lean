/- Regions whose order is drawn: the order in which they stand serves every order. First: what an operation hangs on. -/
import Derived.Test.YthkfhpiamddhoaaGreatAmYield
set_option autoImplicit false
namespace Go.AM

variable {E : Env} {P : Program} {K : Kall} {Φ : Nat → Prop} {L : Lay} {s : St} {w : World} {F : Fence} {n : Nat}

theorem evalAll_congr {a b : Ac} : ∀ {xs : List Operand}, (∀ x ∈ xs, a.eval x = b.eval x) → evalAll a xs = evalAll b xs
  | [], _ => rfl
  | x :: xs, h => by
    simp only [evalAll]
    rw [h x (by simp), evalAll_congr (fun y hy => h y (by simp [hy]))]
theorem evalParts_congr {a b : Ac} : ∀ {xs : List (Nat × Operand)}, (∀ x ∈ xs.map (·.2), a.eval x = b.eval x) → evalParts a xs = evalParts b xs
  | [], _ => rfl
  | (i, x) :: xs, h => by
    simp only [evalParts]
    rw [h x (by simp), evalParts_congr (fun y hy => h y (by simp at hy ⊢; exact .inr hy))]
theorem evalOpt_congr {a b : Ac} {x : Option Operand} (h : ∀ y ∈ x, a.eval y = b.eval y) : evalOpt a x = evalOpt b x := by
  cases x with
  | none => rfl
  | some y => simp only [evalOpt]; rw [h y (by simp)]

theorem evalVal_congr {own : Bool} {a b : Ac} {o : Oper} (h : ∀ x ∈ o.op.operands, a.eval x = b.eval x) (s : St) : evalVal E own a s o = evalVal E own b s o := by
  obtain ⟨dst, op, type, pos, after, guard⟩ := o
  cases op <;> simp only [Op.operands] at h <;> unfold evalVal <;> simp only
  case build t ps => rw [evalParts_congr (b := b) (fun x hx => h x (by simpa using hx))]
  case buildSlice t n ps => rw [evalParts_congr (b := b) (fun x hx => h x (by simpa using hx))]
  case makeFunc fn first captured =>
    cases fn <;> simp only
    rw [evalAll_congr (b := b) (xs := first.toList) (fun x hx => h x (by simp at hx ⊢; exact .inl hx)), evalAll_congr (b := b) (xs := captured.toList) (fun x hx => h x (by simp at hx ⊢; exact .inr hx))]
  case makeMap t r => cases r <;> simp_all
  case slice t x lo hi mx =>
    rw [evalOpt_congr (b := b) (x := lo) (fun y hy => h y (by cases lo <;> simp_all)), evalOpt_congr (b := b) (x := hi) (fun y hy => h y (by cases hi <;> simp_all)), evalOpt_congr (b := b) (x := mx) (fun y hy => h y (by cases mx <;> simp_all)), h x (by simp)]
  all_goals (first | rfl | (simp_all; done))

theorem evalOp_congr {own : Bool} {a b : Ac} {o : Oper} (h : ∀ x ∈ o.op.operands, a.eval x = b.eval x) (s : St) : evalOp E own a s o = evalOp E own b s o := by
  have hv := evalVal_congr (E := E) (own := own) h s
  obtain ⟨dst, op, type, pos, after, guard⟩ := o
  unfold evalOp
  simp only
  split
  · rename_i c
    simp only [Op.operands, Call.operands] at h
    rw [evalAll_congr (b := b) (xs := c.args.toList) (fun x hx => h x (by simp at hx ⊢; exact .inr hx))]
    split
    · split
      · rfl
      · rename_i f hf
        rw [h f (by simp [hf])]
      · rfl
    · rfl
  · rw [hv]

theorem evalNew_congr {own : Bool} {a b : Ac} {o : Oper} (h : ∀ x ∈ o.op.operands, a.eval x = b.eval x) : evalNew E own a o = evalNew E own b o := by
  have hv := evalVal_congr (E := E) (own := own) h .empty
  obtain ⟨dst, op, type, pos, after, guard⟩ := o
  unfold evalNew
  simp only
  split
  · rfl
  · rw [h _ (by simp [Op.operands])]
  · rfl
  · rw [h _ (by simp [Op.operands])]
  · rw [hv]
  · rw [hv]
  · rfl

theorem footOf_congr {a b : Ac} {o : Oper} (h : ∀ x ∈ o.op.operands, a.eval x = b.eval x) (d : D) : footOf a o d = footOf b o d := by
  obtain ⟨dst, op, type, pos, after, guard⟩ := o
  unfold footOf
  simp only
  split <;> first | rfl | rw [h _ (by simp [Op.operands])]

theorem eval_put_ne {a : Ac} {dst : Option Tmp} {d : D} {x : Operand} (h : ∀ t, dst = some t → x ≠ .tmp t) : (a.put dst d).eval x = a.eval x := by
  cases dst with
  | none => rfl
  | some t =>
    cases x with
    | tmp u =>
      have hne : t ≠ u := fun e => h t rfl (e ▸ rfl)
      simp only [Ac.eval, Ac.put, setL_eq, getL_eq, List.getElem?_set_ne hne]
    | _ => rfl

theorem looks_eval {ops : Array Oper} {o : Oper} {a : Ac} {dst : Option Tmp} {d : D} (h : ∀ t, dst = some t → t ∉ o.looksAt ops) : ∀ x ∈ o.op.operands, (a.put dst d).eval x = a.eval x := by
  intro x hx
  refine eval_put_ne fun t ht hxt => h t ht ?_
  subst hxt
  exact List.mem_append_left _ (List.mem_filterMap.2 ⟨.tmp t, by simpa using hx, rfl⟩)

theorem looks_wanted {ops : Array Oper} {o : Oper} {a : Ac} {dst : Option Tmp} {d : D} (h : ∀ t, dst = some t → t ∉ o.looksAt ops) : wantedD ops (a.put dst d) o = wantedD ops a o := by
  cases dst with
  | none => rfl
  | some t =>
    unfold wantedD
    cases hg : o.guard with
    | none => rfl
    | some gw =>
      obtain ⟨g, want⟩ := gw
      simp only
      cases ht : (ops[g]?).bind (·.dst) with
      | none => rfl
      | some u =>
        have hne : t ≠ u := fun e => h t rfl (by subst e; simp [Oper.looksAt, hg, ht])
        simp only [Ac.put, setL_eq, getL_eq, List.getElem?_set_ne hne]

theorem hidesOf_congr {a b : Ac} : ∀ {ts : List Tmp}, (∀ t ∈ ts, getL a.tmps t = getL b.tmps t) → hidesOf a ts = hidesOf b ts
  | [], _ => rfl
  | t :: ts, h => by
    simp only [hidesOf]
    rw [h t (by simp), hidesOf_congr (fun u hu => h u (by simp [hu]))]

theorem opDraw_congr {fid rid base i : Nat} {info : DrawInfo} {a b : Ac} {o : Oper} (h : ∀ x ∈ o.op.operands, a.eval x = b.eval x) (hh : ∀ t ∈ lookupN i info.hides, getL a.tmps t = getL b.tmps t) (s : St) :
    opDraw E K fid rid info base i a s o = opDraw E K fid rid info base i b s o := by
  have h2 : opPlain E K fid rid (hidesOf a (lookupN i info.hides)) a s o = opPlain E K fid rid (hidesOf b (lookupN i info.hides)) b s o := by
    unfold opPlain
    rw [evalOp_congr h, hidesOf_congr hh]
    split
    · rw [footOf_congr h]
    · rfl
    · rfl
    · rfl
  unfold opDraw
  rw [h2, evalNew_congr h]

/-! ### Footprints -/
/-- what an operation does, and what it hangs on -/
def Law (g : St → Option (D × St × Foot)) : Prop :=
  ∀ s d s' f, g s = some (d, s', f) → match f with
    | .n => s' = s ∧ ∀ t, g t = some (d, t, .n)
    | .l ids => s' = s ∧ ∀ t : St, (∀ id ∈ ids, t.σ[id]? = s.σ[id]?) → g t = some (d, t, .l ids)
    | .o => s' = s
    | .a slot => ∃ st ob, s.σ[slot]? = some (.resv st) ∧ s' = { s with σ := s.σ.set slot ob, clk := s.clk + 1 } ∧ ∀ t : St, t.σ[slot]? = some (.resv st) → g t = some (d, { t with σ := t.σ.set slot ob, clk := t.clk + 1 }, .a slot)
    | .w id => ∃ ob ob', s.σ[id]? = some ob ∧ s' = { s with σ := s.σ.set id ob' } ∧ ∀ t : St, t.σ[id]? = some ob → t.ro = s.ro → t.lk = s.lk → g t = some (d, { t with σ := t.σ.set id ob' }, .w id)
    | .c h => ∀ id ∈ h, s'.σ[id]? = s.σ[id]?

theorem allIn_mem {xs ys : List Nat} (h : allIn xs ys = true) : ∀ x ∈ xs, x ∈ ys := by
  induction xs with
  | nil => simp
  | cons x xs ih =>
    simp [allIn] at h
    intro y hy
    simp at hy
    rcases hy with rfl | hy
    · exact memN_iff.1 h.1
    · exact ih h.2 y hy

theorem set_comm_st (s : St) {x y : Nat} (h : x ≠ y) (a b : Obj) (c : Nat) : ({ s with σ := (s.σ.set x a).set y b, clk := c } : St) = { s with σ := (s.σ.set y b).set x a, clk := c } := by
  rw [List.set_comm _ _ h]

/-- two operations whose footprints are apart may change places -/
theorem law_comm {g h : St → Option (D × St × Foot)} (hg : Law g) (hh : Law h) {s s1 s2 : St} {d e : D} {f f' : Foot} (h1 : g s = some (d, s1, f)) (h2 : h s1 = some (e, s2, f')) (hc : compat f f' = true) :
    ∃ t, h s = some (e, t, f') ∧ g t = some (d, s2, f) := by
  have l1 := hg _ _ _ _ h1
  have l2 := hh _ _ _ _ h2
  cases f with
  | n =>
    obtain ⟨rfl, l1⟩ := l1
    exact ⟨s2, h2, l1 s2⟩
  | l ids =>
    obtain ⟨rfl, l1⟩ := l1
    cases f' with
    | n => obtain ⟨rfl, l2⟩ := l2; exact ⟨_, h2, h1⟩
    | l ids' => obtain ⟨rfl, l2⟩ := l2; exact ⟨_, h2, h1⟩
    | o => cases l2; exact ⟨_, h2, h1⟩
    | a slot =>
      obtain ⟨st, ob, q1, rfl, q3⟩ := l2
      refine ⟨_, h2, l1 _ (fun id hid => ?_)⟩
      simp only [compat, Bool.not_eq_true', Bool.eq_false_iff, ne_eq, memN_iff] at hc
      exact List.getElem?_set_ne (fun e => hc (by rw [e]; exact hid))
    | w id' =>
      obtain ⟨ob, ob', q1, rfl, q3⟩ := l2
      refine ⟨_, h2, l1 _ (fun id hid => ?_)⟩
      simp only [compat, Bool.not_eq_true', Bool.eq_false_iff, ne_eq, memN_iff] at hc
      exact List.getElem?_set_ne (fun e => hc (by rw [e]; exact hid))
    | c hd => exact ⟨_, h2, l1 _ (fun id hid => l2 id (allIn_mem hc id hid))⟩
  | o =>
    cases l1
    cases f' with
    | n => obtain ⟨rfl, l2⟩ := l2; exact ⟨_, h2, h1⟩
    | l ids' => obtain ⟨rfl, l2⟩ := l2; exact ⟨_, h2, h1⟩
    | o => cases l2; exact ⟨_, h2, h1⟩
    | a slot => simp [compat] at hc
    | w id' => simp [compat] at hc
    | c hd => simp [compat] at hc
  | a x =>
    obtain ⟨st, ob, q1, rfl, q3⟩ := l1
    cases f' with
    | n => obtain ⟨rfl, l2⟩ := l2; exact ⟨s, l2 s, h1⟩
    | l ids' =>
      obtain ⟨rfl, l2⟩ := l2
      simp only [compat, Bool.not_eq_true', Bool.eq_false_iff, ne_eq, memN_iff] at hc
      exact ⟨s, l2 s (fun id hid => (List.getElem?_set_ne (fun e => hc (by rw [e]; exact hid))).symm), h1⟩
    | o => simp [compat] at hc
    | a y =>
      have hne : x ≠ y := by simpa [compat] using hc
      obtain ⟨st', ob', p1, rfl, p3⟩ := l2
      have p1 : (s.σ.set x ob)[y]? = some (.resv st') := p1
      rw [List.getElem?_set_ne hne] at p1
      refine ⟨_, p3 s p1, ?_⟩
      rw [q3 _ (by show (s.σ.set y ob')[x]? = _; rw [List.getElem?_set_ne (Ne.symm hne)]; exact q1)]
      simp only [List.set_comm _ _ hne]
    | w y =>
      have hne : x ≠ y := by simpa [compat] using hc
      obtain ⟨ob1, ob', p1, rfl, p3⟩ := l2
      have p1 : (s.σ.set x ob)[y]? = some ob1 := p1
      rw [List.getElem?_set_ne hne] at p1
      refine ⟨_, p3 s p1 rfl rfl, ?_⟩
      rw [q3 _ (by show (s.σ.set y ob')[x]? = _; rw [List.getElem?_set_ne (Ne.symm hne)]; exact q1)]
      simp only [List.set_comm _ _ hne]
    | c hd => simp [compat] at hc
  | w x =>
    obtain ⟨ob, ob2, q1, rfl, q3⟩ := l1
    cases f' with
    | n => obtain ⟨rfl, l2⟩ := l2; exact ⟨s, l2 s, h1⟩
    | l ids' =>
      obtain ⟨rfl, l2⟩ := l2
      simp only [compat, Bool.not_eq_true', Bool.eq_false_iff, ne_eq, memN_iff] at hc
      exact ⟨s, l2 s (fun id hid => (List.getElem?_set_ne (fun e => hc (by rw [e]; exact hid))).symm), h1⟩
    | o => simp [compat] at hc
    | a y =>
      have hne : x ≠ y := by simpa [compat] using hc
      obtain ⟨st', ob', p1, rfl, p3⟩ := l2
      have p1 : (s.σ.set x ob2)[y]? = some (.resv st') := p1
      rw [List.getElem?_set_ne hne] at p1
      refine ⟨_, p3 s p1, ?_⟩
      rw [q3 { s with σ := s.σ.set y ob', clk := s.clk + 1 } (by show (s.σ.set y ob')[x]? = _; rw [List.getElem?_set_ne (Ne.symm hne)]; exact q1) rfl rfl]
      simp only [List.set_comm _ _ hne]
    | w y =>
      have hne : x ≠ y := by simpa [compat] using hc
      obtain ⟨ob1, ob', p1, rfl, p3⟩ := l2
      have p1 : (s.σ.set x ob2)[y]? = some ob1 := p1
      rw [List.getElem?_set_ne hne] at p1
      refine ⟨_, p3 s p1 rfl rfl, ?_⟩
      rw [q3 { s with σ := s.σ.set y ob' } (by show (s.σ.set y ob')[x]? = _; rw [List.getElem?_set_ne (Ne.symm hne)]; exact q1) rfl rfl]
      simp only [List.set_comm _ _ hne]
    | c hd => simp [compat] at hc
  | c hd =>
    cases f' with
    | n => obtain ⟨rfl, l2⟩ := l2; exact ⟨s, l2 s, h1⟩
    | l ids' =>
      obtain ⟨rfl, l2⟩ := l2
      exact ⟨s, l2 s (fun id hid => (l1 id (allIn_mem hc id hid)).symm), h1⟩
    | o => simp [compat] at hc
    | a y => simp [compat] at hc
    | w y => simp [compat] at hc
    | c hd => simp [compat] at hc
#print axioms law_comm
end Go.AM
