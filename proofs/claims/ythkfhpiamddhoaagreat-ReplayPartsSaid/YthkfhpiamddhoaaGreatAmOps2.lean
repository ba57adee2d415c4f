/- Operations, one by one: values. -/
import Derived.Test.YthkfhpiamddhoaaGreatAmOps
import Derived.Laws.StructEq
import Derived.ChangeKeysEq
set_option autoImplicit false
namespace Go.AM

/-- further facts on the tables -/
structure EnvOk2 (E : Env) (P : Program) : Prop extends EnvOk E P where
  eq : ∀ t, E.eqOk t = true → P.stoodInHeld t = false ∧ P.eqGuardType P.depth t = false

variable {E : Env} {P : Program} {Φ : Nat → Prop} {L : Lay} {s : St} {w : World}

theorem eval_rel {a : Ac} {ac : Act} (hA : RelL Φ L s w a.tmps ac.tmps.toList) {x : Operand} {d : D} (h : a.eval x = some d) : Rel Φ L s w d (ac.eval x) := by
  cases x with
  | tmp t =>
    simp only [Ac.eval, getL_eq] at h
    obtain ⟨v, hv, hr⟩ := hA.get h
    have : ac.tmps.getD t undef = v := by
      rw [Array.getD_eq_getD_getElem?]
      rw [Array.getElem?_toList] at hv
      rw [hv]; rfl
    simpa [Act.eval, this] using hr
  | const x => simp only [Ac.eval] at h; exact (ofValue_rel h).1
  | global g => simp [Ac.eval] at h
  | func f =>
    simp [Ac.eval] at h
    subst h
    exact .fn rfl rfl (fun i d x h => by simp at h) (fun i d x h => by simp at h)

theorem Rel.agg_inv {cs : List D} {x : Value} (h : Rel Φ L s w (.agg cs) x) : ∃ xs : Array Value, x = .agg xs ∧ RelL Φ L s w cs xs.toList ∧ (∀ y ∈ xs.toList, y.oneCell' = true) := by
  cases h with
  | @agg _ xs hn h1 h => exact ⟨xs, rfl, ⟨by simpa using hn, fun i d x g1 g2 => h i d x g1 (by simpa using g2)⟩, h1⟩
theorem Rel.tup_inv {cs : List D} {x : Value} (h : Rel Φ L s w (.tup cs) x) : ∃ xs : Array Value, x = .tuple xs ∧ RelL Φ L s w cs xs.toList := by
  cases h with
  | @tup _ xs hn h => exact ⟨xs, rfl, ⟨by simpa using hn, fun i d x g1 g2 => h i d x g1 (by simpa using g2)⟩⟩
theorem Rel.v_inv {v x : Value} (h : Rel Φ L s w (.v v) x) : x = v := by
  cases h <;> rfl

theorem RelL.drop_take {cs : List D} {xs : List Value} (h : RelL Φ L s w cs xs) (o n : Nat) : RelL Φ L s w ((cs.drop o).take n) ((xs.drop o).take n) := by
  refine ⟨by simp [h.1], fun i d x h1 h2 => ?_⟩
  have hi : i < n := by
    have := lt_of_get h1
    simp at this; omega
  rw [List.getElem?_take_of_lt hi, List.getElem?_drop] at h1 h2
  exact h.2 _ d x h1 h2

theorem part_sound (hE : EnvOk E P) {t : TypeId} {cs : List D} {xs : Array Value} {off : Nat} {d : D} (h : partOf E t cs off = some d) (hr : RelL Φ L s w cs xs.toList) (h1 : ∀ y ∈ xs.toList, y.oneCell' = true) :
    ∃ y, (part t xs off).run P w = .ok y w ∧ Rel Φ L s w d y := by
  unfold partOf at h
  split at h
  · rename_i n g hn hg
    unfold pick at h
    cases g with
    | true =>
      simp only [if_true] at h
      split at h
      · simp at h
        subst h
        have e : xs.extract off (off + n) = ((xs.toList.drop off).take n).toArray := by
          apply Array.ext'
          rw [Array.toList_extract, List.extract_eq_take_drop]; simp
        refine ⟨.agg (xs.extract off (off + n)), by simp [part, run_agg hE hg, run_size hE hn], ?_⟩
        rw [e]
        exact Rel.agg' (xs := (xs.toList.drop off).take n) (hr.drop_take off n) (fun y hy => h1 y (List.mem_of_mem_drop (List.mem_of_mem_take hy)))
      · simp at h
    | false =>
      simp at h
      split at h
      · rename_i e rest he
        simp at h
        subst h
        have hg' : cs[off]? = some e := by
          have : (cs.drop off)[0]? = some e := by rw [he]; rfl
          simpa using this
        obtain ⟨y, hy, hry⟩ := hr.get hg'
        rw [Array.getElem?_toList] at hy
        exact ⟨y, by simp [part, run_agg hE hg, hy], hry⟩
      · simp at h
  · simp at h

theorem deqS_sound (hE : EnvOk2 E P) {f : TypeId → D → D → Option Bool} {N : Nat}
    (hf : ∀ (t : TypeId) (x y : D) (b : Bool) (vx vy : Value), f t x y = some b → Rel Φ L s w x vx → Rel Φ L s w y vy → (Op.equalIn N t vx vy).run P w = .ok b w)
    {xs ys : List D} {vx vy : Array Value} (hx : RelL Φ L s w xs vx.toList) (hx1 : ∀ y ∈ vx.toList, y.oneCell' = true) (hy : RelL Φ L s w ys vy.toList) (hy1 : ∀ y ∈ vy.toList, y.oneCell' = true) :
    ∀ (fs : List Field) (b : Bool), deq.deqS E f xs ys fs = some b → (Op.eqFields N vx vy fs).run P w = .ok b w
  | [], b, h => by simp [deq.deqS] at h; subst h; simp [Op.eqFields]
  | fd :: fs, b, h => by
    simp only [deq.deqS] at h
    split at h
    · rename_i hn
      simp only [Op.eqFields, hn]
      simpa using deqS_sound hE hf hx hx1 hy hy1 fs b h
    · rename_i hn
      split at h
      · rename_i a c ha hc
        obtain ⟨va, ra, rra⟩ := part_sound hE.toEnvOk ha hx hx1
        obtain ⟨vc, rc, rrc⟩ := part_sound hE.toEnvOk hc hy hy1
        simp only [Op.eqFields, ne_eq, hn, not_false_eq_true, if_true, Sem.run_bind, ra, rc, Result.andThen_ok]
        split at h
        · rename_i he
          rw [hf _ _ _ _ _ _ he rra rrc]
          simpa using deqS_sound hE hf hx hx1 hy hy1 fs b h
        · rename_i r hne
          cases b with
          | true => exact absurd h (hne ·)
          | false => rw [hf _ _ _ _ _ _ h rra rrc]; simp
      · simp at h

theorem deqA_sound (hE : EnvOk2 E P) {f : TypeId → D → D → Option Bool} {N n : Nat} {elem : TypeId}
    (hf : ∀ (t : TypeId) (x y : D) (b : Bool) (vx vy : Value), f t x y = some b → Rel Φ L s w x vx → Rel Φ L s w y vy → (Op.equalIn N t vx vy).run P w = .ok b w)
    {xs ys : List D} {vx vy : Array Value} (hx : RelL Φ L s w xs vx.toList) (hx1 : ∀ y ∈ vx.toList, y.oneCell' = true) (hy : RelL Φ L s w ys vy.toList) (hy1 : ∀ y ∈ vy.toList, y.oneCell' = true) :
    ∀ (k i : Nat) (b : Bool), deq.deqA E f elem n xs ys k i = some b → (Op.eqItems N elem n vx vy (List.range' i k)).run P w = .ok b w
  | 0, i, b, h => by simp [deq.deqA] at h; subst h; simp [Op.eqItems]
  | k + 1, i, b, h => by
    simp only [deq.deqA] at h
    simp only [List.range'_succ]
    split at h
    · rename_i a c ha hc
      obtain ⟨va, ra, rra⟩ := part_sound hE.toEnvOk ha hx hx1
      obtain ⟨vc, rc, rrc⟩ := part_sound hE.toEnvOk hc hy hy1
      simp only [Op.eqItems, Sem.run_bind, ra, rc, Result.andThen_ok]
      split at h
      · rename_i he
        rw [hf _ _ _ _ _ _ he rra rrc]
        simpa using deqA_sound hE hf hx hx1 hy hy1 k (i + 1) b h
      · rename_i r hne
        cases b with
        | true => exact absurd h (hne ·)
        | false => rw [hf _ _ _ _ _ _ h rra rrc]; simp
    · simp at h

theorem size_cells (hE : EnvOk E P) {t : TypeId} {n : Nat} (h : E.size t = some n) : P.cellsOf t = n ∧ ∃ i, P.info? t = some i := by
  unfold Env.size at h
  cases hi0 : E.info t with
  | none => simp [hi0] at h
  | some i => have hi := hE.info t i hi0; simp [hi0] at h; rw [hi]; exact ⟨by simp [Program.cellsOf, hi, h], i, rfl⟩

theorem deq_sound (hE : EnvOk2 E P) : ∀ (d N : Nat) (t : TypeId) (x y : D) (b : Bool) (vx vy : Value), d ≤ N → deq E d t x y = some b → Rel Φ L s w x vx → Rel Φ L s w y vy →
    (Op.equalIn N t vx vy).run P w = .ok b w
  | 0, _, _, _, _, _, _, _, _, h, _, _ => by simp [deq] at h
  | d + 1, 0, _, _, _, _, _, _, hd, _, _, _ => by omega
  | d + 1, N + 1, t, x, y, b, vx, vy, hd, h, hx, hy => by
    have ih := fun t x y b vx vy => deq_sound hE d N t x y b vx vy (by omega)
    unfold deq at h
    split at h
    · rename_i hk
      cases hx.v_inv; cases hy.v_inv
      simp at h; subst h
      simp [Op.equalIn, run_und hE.toEnvOk hk]
    · rename_i hk
      cases hx.v_inv; cases hy.v_inv
      split at h
      · rename_i e; subst e; simp at h; subst h
        simp [Op.equalIn, run_und hE.toEnvOk hk]
      · simp at h
    · rename_i hk
      cases hx.v_inv; cases hy.v_inv
      split at h
      · rename_i e; subst e; simp at h; subst h
        simp [Op.equalIn, run_und hE.toEnvOk hk]
      · simp at h
    · rename_i hk
      cases hx.v_inv; cases hy.v_inv
      simp at h; subst h
      simp [Op.equalIn, run_und hE.toEnvOk hk]
    · rename_i hk
      cases hx.v_inv; cases hy.v_inv
      simp at h; subst h
      simp [Op.equalIn, run_und hE.toEnvOk hk]
    · rename_i hk
      cases hy.v_inv
      cases hx
      simp at h; subst h
      simp [Op.equalIn, run_und hE.toEnvOk hk]
    · rename_i hk
      cases hx.v_inv
      cases hy
      simp at h; subst h
      simp [Op.equalIn, run_und hE.toEnvOk hk]
    · rename_i hk
      cases hx.v_inv; cases hy.v_inv
      simp at h; subst h
      simp [Op.equalIn, run_und hE.toEnvOk hk]
    · rename_i hk
      cases hy.v_inv
      cases hx
      simp at h; subst h
      simp [Op.equalIn, run_und hE.toEnvOk hk]
    · rename_i hk
      cases hy.v_inv
      cases hx
      simp at h; subst h
      simp [Op.equalIn, run_und hE.toEnvOk hk]
    · rename_i fs xs ys hk
      split at h
      · rename_i hok
        obtain ⟨vx, rfl, rx, ox⟩ := hx.agg_inv
        obtain ⟨vy, rfl, ry, oy⟩ := hy.agg_inv
        have hu : P.underlying t = some (.struct fs) := hE.desc hk
        have hfo : P.fieldsOf t = fs := by simp [Program.fieldsOf, hu]
        rw [run_equalIn_struct w N t vx vy (by rw [hfo]; exact hu) (hE.eq t hok).1, hfo]
        exact deqS_sound hE ih rx ox ry oy fs.toList b h
      · simp at h
    · rename_i len elem xs ys hk
      split at h
      · rename_i n hn
        split at h
        · rename_i hok
          obtain ⟨vx, rfl, rx, ox⟩ := hx.agg_inv
          obtain ⟨vy, rfl, ry, oy⟩ := hy.agg_inv
          have hu : P.underlying t = some (.array len elem) := hE.desc hk
          obtain ⟨hc, i, hi⟩ := size_cells hE.toEnvOk hn
          rw [run_equalIn_array w N vx vy hu hi, hc, List.range_eq_range']
          exact deqA_sound hE ih rx ox ry oy len 0 b h
        · simp at h
      · simp at h
    · simp at h

theorem intOp_sound {op : BinOp} {k : IntKind} {a b : Int} {v : Value} (h : intOp op k a b = some v) (k' : IntKind) (hk : op = .shl ∨ op = .shr ∨ k = k') (t : TypeId) :
    (binOp op t (.int k a) (.int k' b)).run P w = .ok v w ∧ plainLeaf v = true := by
  cases op
  case quo =>
    simp only [intOp] at h
    split at h
    · simp at h
    · simp at h hk; subst h; subst hk; simp [binOp, Op.intDiv, plainLeaf, *]
  case rem =>
    simp only [intOp] at h
    split at h
    · simp at h
    · simp at h hk; subst h; subst hk; simp [binOp, Op.intDiv, plainLeaf, *]
  case shl =>
    simp only [intOp] at h
    split at h
    · simp at h
    · simp at h; subst h; simp [binOp, Op.shift, plainLeaf, *]
  case shr =>
    simp only [intOp] at h
    split at h
    · simp at h
    · simp at h; subst h; simp [binOp, Op.shift, plainLeaf, *]
  all_goals (simp [intOp] at h hk; subst h; subst hk; simp [binOp, Op.intArith, Op.intBits, Op.intCmp, plainLeaf])

theorem floatOp_sound {op : BinOp} {k : FloatKind} {a b : Nat} {v : Value} (h : floatOp op k a b = some v) (t : TypeId) :
    (binOp op t (.float k a) (.float k b)).run P w = .ok v w ∧ plainLeaf v = true := by
  cases op
  case add | sub | mul | quo => (simp only [floatOp, Option.map_eq_some_iff] at h; obtain ⟨r, h0, rfl⟩ := h; simp [binOp, Op.floatArith, plainLeaf, h0])
  all_goals first
    | (simp [floatOp] at h; done)
    | (simp [floatOp] at h; subst h; simp [binOp, Op.floatCmp, plainLeaf])

theorem strOp_sound {op : BinOp} {a b : ByteArray} {v : Value} (h : strOp op a b = some v) (t : TypeId) :
    (binOp op t (.string a) (.string b)).run P w = .ok v w ∧ plainLeaf v = true := by
  have e : ∀ x : ByteArray, x.toList = x.data.toList := fun x => ByteArray.toList_eq x
  cases op
  case add =>
    simp only [strOp] at h
    split at h
    · simp at h
    · rename_i hc
      simp at h; subst h
      simp only [binOp, Op.stringOp, hc, if_false, Sem.run_pure]
      simp [plainLeaf]
  all_goals first
    | (simp [strOp] at h; done)
    | (simp only [strOp, Option.some.injEq] at h; subst h; simp [binOp, Op.stringOp, plainLeaf, e])

theorem eqGuard_run (hE : EnvOk2 E P) {d : Nat} {op : BinOp} {t : TypeId} {x y : D} {b : Bool} {vx vy : Value} (h : deq E (d + 1) t x y = some b) (hx : Rel Φ L s w x vx) (hy : Rel Φ L s w y vy) (ox oy : Operand) :
    (eqGuard op t ox oy vx vy).run P w = .ok () w := by
  by_cases hop : op = .eql ∨ op = .neq
  · unfold deq at h
    have hag : (∃ xs ys, vx = .agg xs ∧ vy = .agg ys ∧ E.eqOk t = true) ∨ (¬ (∃ xs, vx = .agg xs) ∧ vx ≠ .nilIface) := by
      split at h
      all_goals first
        | (simp at h; done)
        | (right; cases hx <;> simp; done)
        | (left
           obtain ⟨vx, rfl, _, _⟩ := hx.agg_inv
           obtain ⟨vy, rfl, _, _⟩ := hy.agg_inv
           refine ⟨_, _, rfl, rfl, ?_⟩
           split at h
           · assumption
           · simp at h)
        | (left
           obtain ⟨vx, rfl, _, _⟩ := hx.agg_inv
           obtain ⟨vy, rfl, _, _⟩ := hy.agg_inv
           refine ⟨_, _, rfl, rfl, ?_⟩
           split at h
           · split at h
             · assumption
             · simp at h
           · simp at h)
    rcases hag with ⟨xs, ys, rfl, rfl, hok⟩ | ⟨h1, h2⟩
    · exact run_eqGuard_agg w op t ox oy xs ys (hE.eq t hok).2
    · rcases hop with rfl | rfl <;> (cases vx <;> first | (simp at h1; done) | (simp at h2; done) | simp [eqGuard])
  · cases op <;> simp at hop <;> simp [eqGuard]
#print axioms deq_sound
end Go.AM
