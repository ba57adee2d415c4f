/- Regions whose order is drawn: each operation keeps the law of its footprint. -/
import Derived.Test.YthkfhpiamddhoaaGreatAmDraw
set_option autoImplicit false
namespace Go.AM

variable {E : Env} {P : Program} {K : Kall} {Φ : Nat → Prop} {L : Lay} {w : World} {F : Fence} {n : Nat}

theorem rowsOf_agree {s t : St} {id st : Nat} (h : t.σ[id]? = s.σ[id]?) : t.rowsOf id st = s.rowsOf id st := by
  unfold St.rowsOf
  rw [getL_eq, getL_eq, h]

theorem loadAt_agree {s t : St} {ty : TypeId} {d : D} (h : ∀ id ∈ topIds (some d), t.σ[id]? = s.σ[id]?) : loadAt E t ty d = loadAt E s ty d := by
  unfold loadAt
  cases d <;> simp only
  case ref id st row col => rw [rowsOf_agree (h id (by simp [topIds]))]

theorem slRows_agree {s t : St} {d : D} (h : ∀ id ∈ topIds (some d), t.σ[id]? = s.σ[id]?) : slRows t d = slRows s d := by
  have e : ∀ id ∈ topIds (some d), ∀ st, t.rowsOf id st = s.rowsOf id st := fun id hid st => rowsOf_agree (h id hid)
  clear h
  unfold slRows
  split <;> simp_all [topIds]

theorem convertOp_agree {s t : St} {a b : TypeId} {d : D} (h : ∀ id ∈ topIds (some d), t.σ[id]? = s.σ[id]?) : convertOp E t a b d = convertOp E s a b d := by
  have e := slRows_agree h
  clear h
  unfold convertOp
  split
  · rfl
  · simp only [e]
  · rfl

theorem indexAddrOp_agree {s t : St} {ty : TypeId} {d i : D} (h : ∀ id ∈ topIds (some d), t.σ[id]? = s.σ[id]?) : indexAddrOp E t ty d i = indexAddrOp E s ty d i := by
  have e : ∀ id ∈ topIds (some d), ∀ st, t.rowsOf id st = s.rowsOf id st := fun id hid st => rowsOf_agree (h id hid)
  clear h
  unfold indexAddrOp
  split
  · split
    · split
      · rfl
      · split
        · rfl
        · rename_i id st off len sz _
          rw [e id (by simp [topIds])]
        · rfl
        · rfl
      · rfl
    · rfl
  · rfl

theorem sliceOp_agree {s t : St} {ty : TypeId} {d : D} {lo hi mx : Option D} (h : ∀ id ∈ topIds (some d), t.σ[id]? = s.σ[id]?) : sliceOp E t ty d lo hi mx = sliceOp E s ty d lo hi mx := by
  have e : ∀ id ∈ topIds (some d), ∀ st, t.rowsOf id st = s.rowsOf id st := fun id hid st => rowsOf_agree (h id hid)
  clear h
  unfold sliceOp
  split
  · split
    · split
      · split
        · split
          · rfl
          · rfl
          · rename_i id st off _ _
            rw [e id (by simp [topIds])]
          · rfl
          · rfl
        · rfl
      · rfl
    · rfl
  · rfl
  · rfl

/-- an operation on a value of the store -/
theorem law_read {g : St → Option (D × St)} {q : D → Foot} {ids : List Nat} (X : St → Option D) (hg : ∀ s, g s = val1 s (X s)) (hq : ∀ d, q d = .l ids) (hX : ∀ s t : St, (∀ id ∈ ids, t.σ[id]? = s.σ[id]?) → X t = X s) :
    Law (fun s => match g s with | some (d, s') => some (d, s', q d) | none => none) := by
  intro s d s' f h
  simp only [hg, hq] at h
  cases hx : X s with
  | none => rw [hx] at h; simp [val1] at h
  | some y =>
    rw [hx] at h
    simp [val1] at h
    obtain ⟨rfl, rfl, rfl⟩ := h
    refine ⟨rfl, fun t ht => ?_⟩
    simp only [hg, hq, hX s t ht, hx, val1]

theorem law_pure {g : St → Option (D × St)} {q : D → Foot} (X : Option D) (hg : ∀ s, g s = val1 s X) (hq : ∀ d, q d = .n) :
    Law (fun s => match g s with | some (d, s') => some (d, s', q d) | none => none) := by
  intro s d s' f h
  simp only [hg, hq] at h
  cases X with
  | none => simp [val1] at h
  | some y =>
    simp [val1] at h
    obtain ⟨rfl, rfl, rfl⟩ := h
    refine ⟨rfl, fun t => ?_⟩
    simp only [hg, hq, val1]

theorem law_of_none {g : St → Option (D × St × Foot)} (h : ∀ s, g s = none) : Law g := by
  intro s d s' f hh
  rw [h] at hh; cases hh

theorem law_wild {g : St → Option (D × St)} {q : D → Foot} (hq : ∀ d, q d = .c []) : Law (fun s => match g s with | some (d, s') => some (d, s', q d) | none => none) := by
  intro s d s' f h
  simp only [hq] at h
  split at h
  · simp at h
    obtain ⟨rfl, rfl, rfl⟩ := h
    intro id hid
    cases hid
  · cases h

theorem storeAt_law {ty : TypeId} {x y : D} {id : Nat} (hid : topIds (some x) = [id]) : Law (fun s => match (match storeAt E s ty x y with | some s' => some (und, s') | none => none) with | some (d, s') => some (d, s', Foot.w id) | none => none) := by
  intro s d s' f h
  simp only at h
  cases hs : storeAt E s ty x y with
  | none => rw [hs] at h; simp at h
  | some s1 =>
    rw [hs] at h
    simp at h
    obtain ⟨rfl, rfl, rfl⟩ := h
    unfold storeAt at hs
    split at hs
    · rename_i n id' st row col hn
      simp [topIds] at hid
      subst hid
      split at hs
      · rename_i rs esz hrs
        split at hs
        · rename_i r hr
          split at hs
          · rename_i hc
            simp at hs
            subst hs
            rw [St.rowsOf_some] at hrs
            refine ⟨_, _, hrs, by rw [St.setRows, setL_eq], ?_⟩
            intro t ht hro hlk
            have hrt : t.rowsOf id' st = some (rs, esz) := St.rowsOf_some.2 ht
            have hm : t.mine id' = s.mine id' := by simp [St.mine, hro, hlk]
            simp only [storeAt, hn, hrt, hr, hm]
            rw [if_pos hc]
            simp only [St.setRows, setL_eq]
          · simp at hs
        · simp at hs
      · simp at hs
    · simp at hs

theorem evalVal_law {own : Bool} {a : Ac} {o : Oper} : Law (fun s => match evalVal E own a s o with | some (d, s') => some (d, s', footOf a o d) | none => none) := by
  obtain ⟨dst, op, type, pos, after, guard⟩ := o
  cases op
  case move x => exact law_pure (a.eval x) (fun s => rfl) (fun d => rfl)
  case assign x => exact law_pure (a.eval x) (fun s => rfl) (fun d => rfl)
  case pick c x y =>
    refine law_pure (match a.eval c with | some (.v (.bool b)) => (if b then a.eval x else a.eval y) | _ => none) (fun s => ?_) (fun d => rfl)
    simp only [evalVal]
    split <;> simp_all [val1]
  case build t ps =>
    refine law_pure (match evalParts a ps.toList with | some l => buildOp E t l | none => none) (fun s => ?_) (fun d => rfl)
    simp only [evalVal]
    split <;> simp_all [val1]
  case binOp op t x y z =>
    refine law_pure (match a.eval x, a.eval y with | some d, some e => binOpD E op t d e | _, _ => none) (fun s => ?_) (fun d => rfl)
    simp only [evalVal]
    split <;> simp_all [val1]
  case unOp op t x =>
    refine law_pure (match a.eval x with | some d => unOpD op d | none => none) (fun s => ?_) (fun d => rfl)
    simp only [evalVal]
    split <;> simp_all [val1]
  case nilCheck x =>
    refine law_pure (match a.eval x with | some (.ref id st row col) => some (.ref id st row col) | some (.ipt r c) => some (.ipt r c) | _ => none) (fun s => ?_) (fun d => rfl)
    simp only [evalVal]
    split <;> simp_all [val1]
  case makeFunc f xs ys =>
    cases f
    case func f =>
      refine law_pure (match evalAll a xs.toList, evalAll a ys.toList with | some l, some m => some (.fn f l m) | _, _ => none) (fun s => ?_) (fun d => rfl)
      simp only [evalVal]
      split <;> simp_all [val1]
    all_goals exact law_of_none (fun s => rfl)
  case fieldAddr t x f =>
    refine law_pure (match a.eval x with | some d => fieldAddrOp E t d f | none => none) (fun s => ?_) (fun d => rfl)
    simp only [evalVal]
    split <;> simp_all [val1]
  case extract x i =>
    refine law_pure (match a.eval x with | some (.tup ds) => getL ds i | _ => none) (fun s => ?_) (fun d => rfl)
    simp only [evalVal]
    split <;> simp_all [val1]
  case index t x i =>
    refine law_pure ((evalVal E own a .empty ⟨dst, .index t x i, type, pos, after, guard⟩).map (·.1)) (fun s => ?_) (fun d => rfl)
    simp only [evalVal]
    split
    · split
      · split
        · cases partOf E _ _ _ <;> simp [val1]
        · simp [val1]
      · simp [val1]
    · split
      · split <;> simp [val1]
      · simp [val1]
    · simp [val1]
  case load t x =>
    refine law_read (ids := topIds (a.eval x)) (fun s => match a.eval x with | some d => loadAt E s t d | none => none) (fun s => ?_) (fun d => rfl) (fun s t' h => ?_)
    · simp only [evalVal]
      split <;> simp_all [val1]
    · split
      · rename_i d hd; rw [hd] at h; exact loadAt_agree h
      · rfl
  case indexAddr t x i =>
    refine law_read (ids := topIds (a.eval x)) (fun s => match a.eval x, a.eval i with | some d, some e => indexAddrOp E s t d e | _, _ => none) (fun s => ?_) (fun d => rfl) (fun s t' h => ?_)
    · simp only [evalVal]
      split <;> simp_all [val1]
    · split
      · rename_i d e hd he; rw [hd] at h; exact indexAddrOp_agree h
      · rfl
  case slice t x lo hi mx =>
    refine law_read (ids := topIds (a.eval x)) (fun s => match a.eval x, evalOpt a lo, evalOpt a hi, evalOpt a mx with | some d, some l, some h, some m => sliceOp E s t d l h m | _, _, _, _ => none) (fun s => ?_) (fun d => rfl) (fun s t' h => ?_)
    · simp only [evalVal]
      split <;> simp_all [val1]
    · split
      · rename_i d _ _ _ hd _ _ _; rw [hd] at h; exact sliceOp_agree h
      · rfl
  case convert t u x =>
    refine law_read (ids := topIds (a.eval x)) (fun s => match a.eval x with | some d => convertOp E s t u d | none => none) (fun s => ?_) (fun d => rfl) (fun s t' h => ?_)
    · simp only [evalVal]
      split <;> simp_all [val1]
    · split
      · rename_i d hd; rw [hd] at h; exact convertOp_agree h
      · rfl
  case store t x y =>
    simp only [evalVal, footOf]
    cases hx : a.eval x with
    | none => exact law_of_none (fun s => rfl)
    | some d =>
      cases hy : a.eval y with
      | none => exact law_of_none (fun s => rfl)
      | some e =>
        simp only
        split
        · rename_i id hid
          exact storeAt_law hid
        · exact law_wild (fun d => rfl)
  case alloc t => exact law_wild (fun d => rfl)
  case box t x => exact law_wild (fun d => rfl)
  case makeMap t x => exact law_wild (fun d => rfl)
  case makeSlice t l c => exact law_wild (fun d => rfl)
  case buildSlice t n ps =>
    intro s d s' f h
    simp only [evalVal, footOf] at h
    cases hp : evalParts a ps.toList with
    | none => rw [hp] at h; simp at h
    | some l =>
      rw [hp] at h
      simp only at h
      cases hb : buildSliceOp E own s t n l with
      | none => rw [hb] at h; simp at h
      | some p =>
        obtain ⟨d1, s1⟩ := p
        rw [hb] at h
        simp only [Option.some.injEq, Prod.mk.injEq] at h
        obtain ⟨rfl, rfl, rfl⟩ := h
        have key : (∃ es cap, d1 = .sl es cap) → s1 = s ∧ ∀ t', buildSliceOp E own t' t n l = some (d1, t') := by
          rintro ⟨es, cap, rfl⟩
          unfold buildSliceOp at hb ⊢
          split at hb
          · split at hb
            · split at hb
              · split at hb
                · split at hb
                  · split at hb
                    · simp at hb
                      obtain ⟨⟨rfl, rfl⟩, rfl⟩ := hb
                      refine ⟨rfl, fun t' => ?_⟩
                      simp_all
                    · simp at hb
                  · simp at hb
                · simp at hb
              · simp at hb
            · simp at hb
          · simp at hb
        cases d1 <;> simp only <;> try (intro id hid; cases hid)
        rename_i es cap
        obtain ⟨rfl, h2⟩ := key ⟨es, cap, rfl⟩
        refine ⟨rfl, fun t' => ?_⟩
        simp only [evalVal, footOf, hp, h2 t']
  all_goals exact law_of_none (fun s => rfl)
#print axioms evalVal_law
end Go.AM
