/- The interpreter with continuations: what it answers, 'exec' answers. It stops at no value that is not yet known: so the kernel unfolds it over open terms. -/
import Derived.Test.YthkfhpiamddhoaaGreatAmDraw5
set_option autoImplicit false
namespace Go.AM
noncomputable section

def bindO {α β : Type} (x : Option α) (f : α → Option β) : Option β := match x with | some a => f a | none => none
def bcond {β : Type} (b : Bool) (x y : Option β) : Option β := match b with | true => x | false => y
def matchB {β : Type} (d : D) (x y : Option β) : Option β := match d with | .v (.bool b) => bcond b x y | _ => none
def bindC {β : Type} (r : Option (CRes × St)) (f g : D → St → Option β) : Option β := match r with | some (.ret d, s) => f d s | some (.panic d, s) => g d s | none => none

theorem bindO_some {α β : Type} {x : Option α} {f : α → Option β} {r : β} : bindO x f = some r ↔ ∃ a, x = some a ∧ f a = some r := by
  cases x <;> simp [bindO]
theorem matchB_some {β : Type} {d : D} {x y : Option β} {r : β} (h : matchB d x y = some r) : (d = .v (.bool true) ∧ x = some r) ∨ (d = .v (.bool false) ∧ y = some r) := by
  unfold matchB at h
  split at h
  · rename_i b
    cases b
    · exact .inr ⟨rfl, h⟩
    · exact .inl ⟨rfl, h⟩
  · simp at h
theorem bindC_some {β : Type} {x : Option (CRes × St)} {f g : D → St → Option β} {r : β} (h : bindC x f g = some r) : (∃ d s, x = some (.ret d, s) ∧ f d s = some r) ∨ (∃ d s, x = some (.panic d, s) ∧ g d s = some r) := by
  unfold bindC at h
  split at h
  · exact .inl ⟨_, _, rfl, h⟩
  · exact .inr ⟨_, _, rfl, h⟩
  · simp at h

def lenD (E : Env) (t : TypeId) (x : D) : Option D :=
  match E.desc t with
  | some (.slice _) => match slLen x with
    | some n => some (.v (goInt n))
    | none => none
  | some .string => match x with
    | .v (.string b) => some (.v (goInt b.size))
    | _ => none
  | _ => none
def builtK {β : Type} (E : Env) (s : St) (b : Builtin) (tys : List TypeId) (args : List D) (k : D → St → Option β) : Option β :=
  match b, tys, args with
  | .len, t :: _, [x] => bindO (lenD E t x) fun d => k d s
  | b, tys, args => bindO (builtinOp E s b tys args) fun p => k p.1 p.2
theorem builtK_some {β : Type} {E : Env} {s : St} {b : Builtin} {tys : List TypeId} {args : List D} {k : D → St → Option β} {r : β} (h : builtK E s b tys args k = some r) :
    ∃ p, builtinOp E s b tys args = some p ∧ k p.1 p.2 = some r := by
  unfold builtK at h
  split at h
  · obtain ⟨d, h1, h2⟩ := bindO_some.1 h
    refine ⟨(d, s), ?_, h2⟩
    unfold lenD at h1
    unfold builtinOp
    split at h1
    · rename_i e he
      simp only [he]
      split at h1
      · rename_i n hn; simp at h1; subst h1; rw [hn]
      · simp at h1
    · rename_i he
      simp only [he]
      split at h1
      · simp at h1; subst h1; rfl
      · simp at h1
    · simp at h1
  · exact bindO_some.1 h

/-- what is done with a call -/
structure Hand (β : Type) where
  call : Nat → Nat → List Nat → FuncId → List D → St → (D → St → Option β) → (D → St → Option β) → Option β
  yield : Nat → Nat → List D → St → (D → St → Option β) → (D → St → Option β) → Option β

section
variable (E : Env) {β : Type} (C : Hand β)

def opK (fid rid : Nat) (h : List Nat) (a : Ac) (s : St) (o : Oper) (k kp : D → St → Option β) : Option β :=
  match o.op with
  | .call c => match evalAll a c.args.toList with
    | some args => match c.callee with
      | .builtin b => builtK E s b c.argTypes.toList args k
      | .value f => match a.eval f with
        | some (.fn g first cap) => match E.ext g with
          | some h => bindO (h (first ++ args ++ cap)) fun d => k d s
          | none => C.call fid rid h g (first ++ args ++ cap) s k kp
        | some (.yld id st) => C.yield id st args s k kp
        | _ => none
      | .invoke .. => none
    | none => none
  | .binOp op t x y _ => match a.eval x, a.eval y with
    | some d, some e => bindO (binOpD E op t d e) fun r => k r s
    | _, _ => none
  | .unOp op _ x => match a.eval x with
    | some d => bindO (unOpD op d) fun r => k r s
    | none => none
  | .convert t u x => match a.eval x with
    | some d => bindO (convertOp E s t u d) fun r => k r s
    | none => none
  | .load t x => match a.eval x with
    | some d => bindO (loadAt E s t d) fun r => k r s
    | none => none
  | .indexAddr t x i => match a.eval x, a.eval i with
    | some d, some e => bindO (indexAddrOp E s t d e) fun r => k r s
    | _, _ => none
  | .pick c x y => match a.eval c, a.eval x, a.eval y with
    | some d, some x, some y => matchB d (k x s) (k y s)
    | _, _, _ => none
  | _ => bindO (evalVal E (E.own fid rid) a s o) fun p => k p.1 p.2

def Ac.setB (a : Ac) (t : Nat) (b : Bool) : Ac := { a with tmps := setL a.tmps t (.v (.bool b)) }

def guardK (ops : Array Oper) (a : Ac) (o : Oper) (kt kf : Ac → Option β) : Option β :=
  match o.guard with
  | none => kt a
  | some (j, want) => match (ops[j]?).bind (·.dst) with
    | some t => match getL a.tmps t with
      | some d => match want with
        | true => matchB d (kt (a.setB t true)) (kf (a.setB t false))
        | false => matchB d (kf (a.setB t true)) (kt (a.setB t false))
      | none => none
    | none => none

def opsK (fid rid : Nat) (ops : Array Oper) : List Oper → Ac → St → (Ex → Ac → St → Option β) → Option β
  | [], a, s, k => k .normal a s
  | o :: rest, a, s, k => guardK ops a o
      (fun a => opK E C fid rid [] a s o (fun d s' => opsK fid rid ops rest (a.put o.dst d) s' k) (fun d s' => k (.panic d) a s'))
      (fun a => opsK fid rid ops rest (a.put o.dst und) s k)

def opDrawK (fid rid : Nat) (info : DrawInfo) (base i : Nat) (a : Ac) (s : St) (o : Oper) (k : D → St → Foot → Option β) : Option β :=
  match idxOf i info.allocs 0 with
  | some j => match evalNew E (E.own fid rid) a o with
    | some (nk, ob) => bindO (s.fill (base + j) ob) fun p => k (nk.d (base + j) p.1) p.2 (.a (base + j))
    | none => plain
  | none => plain
where
  plain : Option β :=
    let h := hidesOf a (lookupN i info.hides)
    match o.op with
    | .call c => match evalAll a c.args.toList with
      | some args => match c.callee with
        | .builtin b => builtK E s b c.argTypes.toList args fun d s => k d s .n
        | .value f => match a.eval f with
          | some (.fn g first cap) => match E.ext g with
            | some h => bindO (h (first ++ args ++ cap)) fun d => k d s .n
            | none => C.call fid rid h g (first ++ args ++ cap) s (fun d s' => k d s' (footCall E fid rid h g (first ++ args ++ cap))) (fun _ _ => none)
          | some (.yld id st) => C.yield id st args s (fun d s' => k d s' (.c [])) (fun _ _ => none)
          | _ => none
        | .invoke .. => none
      | none => none
    | .buildSlice .. => bindO (evalVal E (E.own fid rid) a s o) fun p => k p.1 p.2 (footOf a o p.1)
    | _ => opK E C fid rid [] a s o (fun d s' => k d s' (footOf a o und)) (fun _ _ => none)

def drawK (fid rid : Nat) (ops : Array Oper) (info : DrawInfo) (base : Nat) : List (Nat × Oper) → Ac → St → (Ac → St → List (Nat × Foot) → Option β) → Option β
  | [], a, s, k => k a s []
  | (i, o) :: rest, a, s, k => guardK ops a o
      (fun a => opDrawK E C fid rid info base i a s o (fun d s' f => drawK fid rid ops info base rest (a.put o.dst d) s' (fun a'' s'' fs => k a'' s'' ((i, f) :: fs))))
      (fun a => drawK fid rid ops info base rest (a.put o.dst und) s (fun a'' s'' fs => k a'' s'' ((i, .n) :: fs)))

abbrev LoopOr := Nat → Ac → St → Option (Ex × Ac × St)

def condA (c : Operand) (a : Ac) (b : Bool) : Ac := match c with
  | .tmp t => a.setB t b
  | _ => a

def execK (L : LoopOr) (fid : Nat) : Nat → Code → Ac → St → (Ex → Ac → St → Option β) → Option β
  | _, .skip, a, s, k => k .normal a s
  | _, .label _, a, s, k => k .normal a s
  | _, .region rid ops false, a, s, k => opsK E C fid rid ops ops.toList a s k
  | _, .region rid ops true, a, s, k => match E.draw fid rid with
    | some info => drawK E C fid rid ops info s.σ.length (enum 0 ops.toList) a (s.reserve info.allocs.length) fun a' s' fs => bcond (pairsOk fs info.pairs) (k .normal a' s') none
    | none => none
  | p, .seq x y, a, s, k => execK L fid (2 * p) x a s fun ex a' s' => match ex with
    | .normal => execK L fid (2 * p + 1) y a' s' k
    | ex => k ex a' s'
  | p, .cond c x y, a, s, k => match a.eval c with
    | some d => matchB d (execK L fid (2 * p) x (condA c a true) s k) (execK L fid (2 * p + 1) y (condA c a false) s k)
    | none => none
  | p, .block id b, a, s, k => execK L fid (2 * p) b a s fun ex a' s' => match ex with
    | .exit i => match Nat.beq i id with
      | true => k .normal a' s'
      | false => k (.exit i) a' s'
    | ex => k ex a' s'
  | p, .loop _, a, s, k => bindO (L p a s) fun x => k x.1 x.2.1 x.2.2
  | p, .rangeFunc .., a, s, k => bindO (L p a s) fun x => k x.1 x.2.1 x.2.2
  | _, .exit id, a, s, k => k (.exit id) a s
  | _, .ret, a, s, k => k .ret a s
  | _, _, _, _, _ => none

end

section
variable (E : Env) (K : Kall)
/-- the loops' oracle tells what the loops do -/
def LOk (L : LoopOr) (fid lf : Nat) (round : Bool) : Nat → Code → Prop
  | p, .seq x y => LOk L fid lf round (2 * p) x ∧ LOk L fid lf round (2 * p + 1) y
  | p, .cond _ x y => LOk L fid lf round (2 * p) x ∧ LOk L fid lf round (2 * p + 1) y
  | p, .block _ b => LOk L fid lf round (2 * p) b
  | p, .loop b => ∀ a s r, L p a s = some r → exec E K fid lf round (.loop b) a s = some r
  | p, .rangeFunc f ps x y => ∀ a s r, L p a s = some r → exec E K fid lf round (.rangeFunc f ps x y) a s = some r
  | _, _ => True

def noLoops : LoopOr := fun _ _ _ => none
theorem LOk_none {fid lf : Nat} {round : Bool} : ∀ (c : Code) (p : Nat), LOk E K noLoops fid lf round p c := by
  intro c
  induction c <;> intro p <;> simp_all [LOk, noLoops]
end

theorem set_get {α : Type} : ∀ {l : List α} {i : Nat} {x : α}, getL l i = some x → setL l i x = l := by
  intro l i x h
  rw [getL_eq] at h
  rw [setL_eq]
  apply List.ext_getElem?
  intro j
  rw [List.getElem?_set]
  split
  · rename_i e; subst e
    split
    · exact h.symm
    · rename_i hn; rw [List.getElem?_eq_none (by omega)]
  · rfl

/-- what the handler answers, the table of calls answers -/
structure HOk {β : Type} (C : Hand β) (K : Kall) : Prop where
  call : ∀ {c r : Nat} {h : List Nat} {f : FuncId} {args : List D} {s : St} {k kp : D → St → Option β} {x : β}, C.call c r h f args s k kp = some x →
    (∃ d s', K.call c r h f args s = some (.ret d, s') ∧ k d s' = some x) ∨ (∃ d s', K.call c r h f args s = some (.panic d, s') ∧ kp d s' = some x)
  yield : ∀ {i st : Nat} {args : List D} {s : St} {k kp : D → St → Option β} {x : β}, C.yield i st args s k kp = some x →
    (∃ d s', K.yield i st args s = some (.ret d, s') ∧ k d s' = some x) ∨ (∃ d s', K.yield i st args s = some (.panic d, s') ∧ kp d s' = some x)

def handK {β : Type} (K : Kall) : Hand β := ⟨fun c r h f args s k kp => bindC (K.call c r h f args s) k kp, fun i st args s k kp => bindC (K.yield i st args s) k kp⟩
theorem handK_ok {β : Type} (K : Kall) : HOk (handK (β := β) K) K := ⟨fun h => bindC_some h, fun h => bindC_some h⟩

/-- a contract: what is asked, then what comes of it -/
abbrev KSpec := (β : Type) → Nat → Nat → List Nat → List D → St → (D → St → Option β) → (D → St → Option β) → Option β
def CT (K : Kall) (f : FuncId) (sp : KSpec) : Prop := ∀ (β : Type) (c r : Nat) (h : List Nat) (args : List D) (s : St) (k kp : D → St → Option β) (x : β), sp β c r h args s k kp = some x →
    (∃ d s', K.call c r h f args s = some (.ret d, s') ∧ k d s' = some x) ∨ (∃ d s', K.call c r h f args s = some (.panic d, s') ∧ kp d s' = some x)

/-- contracts, one behind the other -/
def Cof (β : Type) : List (FuncId × KSpec) → Hand β
  | [] => ⟨fun _ _ _ _ _ _ _ _ => none, fun _ _ _ _ _ _ => none⟩
  | (g, sp) :: rest => ⟨fun c r h f args s k kp => match Nat.beq f g with
      | true => sp β c r h args s k kp
      | false => (Cof β rest).call c r h f args s k kp, fun _ _ _ _ _ _ => none⟩
theorem Cof_nil {β : Type} {K : Kall} : HOk (Cof β []) K := ⟨fun h => by simp [Cof] at h, fun h => by simp [Cof] at h⟩
theorem Cof_cons {β : Type} {K : Kall} {f : FuncId} {sp : KSpec} {l : List (FuncId × KSpec)} (h : CT K f sp) (hl : HOk (Cof β l) K) : HOk (Cof β ((f, sp) :: l)) K := by
  refine ⟨fun {c r hd g args s k kp x} hx => ?_, fun h => by simp [Cof] at h⟩
  simp only [Cof] at hx
  split at hx
  · rename_i hb
    have := Nat.eq_of_beq_eq_true hb
    subst this
    exact h _ _ _ _ _ _ _ _ _ hx
  · exact hl.call hx

section
variable {E : Env} {K : Kall} {β : Type} {r : β} {C : Hand β}

theorem setB_self {a : Ac} {t : Nat} {b : Bool} (h : getL a.tmps t = some (.v (.bool b))) : a.setB t b = a := by
  unfold Ac.setB; rw [set_get h]

theorem guardK_some {ops : Array Oper} {a : Ac} {o : Oper} {kt kf : Ac → Option β} (h : guardK ops a o kt kf = some r) :
    (wantedD ops a o = true ∧ kt a = some r) ∨ (wantedD ops a o = false ∧ kf a = some r) := by
  unfold guardK at h
  unfold wantedD
  split at h
  · rename_i hg; rw [hg]; exact .inl ⟨rfl, h⟩
  · rename_i j want hg
    rw [hg]
    simp only
    split at h
    · rename_i t ht
      rw [ht]
      simp only
      split at h
      · rename_i d hd
        rw [hd]
        split at h
        · rcases matchB_some h with ⟨rfl, h⟩ | ⟨rfl, h⟩
          · rw [setB_self hd] at h; exact .inl ⟨rfl, h⟩
          · rw [setB_self hd] at h; exact .inr ⟨rfl, h⟩
        · rcases matchB_some h with ⟨rfl, h⟩ | ⟨rfl, h⟩
          · rw [setB_self hd] at h; exact .inr ⟨rfl, h⟩
          · rw [setB_self hd] at h; exact .inl ⟨rfl, h⟩
      · simp at h
    · simp at h

theorem opK_some (hC : HOk C K) {fid rid : Nat} {h : List Nat} {a : Ac} {s : St} {o : Oper} {k kp : D → St → Option β} (hk : opK E C fid rid h a s o k kp = some r) :
    (∃ d s', opRun E K fid rid h a s o = some (.ret d, s') ∧ k d s' = some r) ∨ (∃ d s', opRun E K fid rid h a s o = some (.panic d, s') ∧ kp d s' = some r) := by
  unfold opK at hk
  unfold opRun evalOp
  split at hk
  · rename_i c hc
    rw [hc]
    simp only
    split at hk
    · rename_i args ha
      rw [ha]
      simp only
      split at hk
      · rename_i b hb
        obtain ⟨p, h1, h2⟩ := builtK_some hk
        rw [hb]
        simp only [h1, val2]
        exact .inl ⟨_, _, rfl, h2⟩
      · rename_i f hf
        rw [hf]
        simp only
        split at hk
        · rename_i g first cap hfn
          rw [hfn]
          simp only
          split at hk
          · rename_i hh hext
            obtain ⟨p, h1, h2⟩ := bindO_some.1 hk
            rw [hext]
            simp only [h1, val1, val2]
            exact .inl ⟨_, _, rfl, h2⟩
          · rename_i hext
            rw [hext]
            simp only
            first | exact hC.call hk | exact hC.yield hk
        · rename_i id st hfn
          rw [hfn]
          simp only
          first | exact hC.call hk | exact hC.yield hk
        · simp at hk
      · simp at hk
    · simp at hk
  · rename_i op t x y u hc
    rw [hc]
    simp only
    split at hk
    · rename_i d e h1 h2
      obtain ⟨p, h3, h4⟩ := bindO_some.1 hk
      unfold evalVal
      rw [hc]
      simp only [h1, h2, h3, val1, val2]
      exact .inl ⟨_, _, rfl, h4⟩
    · simp at hk
  · rename_i op t x hc
    rw [hc]
    simp only
    split at hk
    · rename_i d h1
      obtain ⟨p, h3, h4⟩ := bindO_some.1 hk
      unfold evalVal
      rw [hc]
      simp only [h1, h3, val1, val2]
      exact .inl ⟨_, _, rfl, h4⟩
    · simp at hk
  · rename_i op t x hc
    rw [hc]
    simp only
    split at hk
    · rename_i d h1
      obtain ⟨p, h3, h4⟩ := bindO_some.1 hk
      unfold evalVal
      rw [hc]
      simp only [h1, h3, val1, val2]
      exact .inl ⟨_, _, rfl, h4⟩
    · simp at hk
  · rename_i t x hc
    rw [hc]
    simp only
    split at hk
    · rename_i d h1
      obtain ⟨p, h3, h4⟩ := bindO_some.1 hk
      unfold evalVal
      rw [hc]
      simp only [h1, h3, val1, val2]
      exact .inl ⟨_, _, rfl, h4⟩
    · simp at hk
  · rename_i t x i hc
    rw [hc]
    simp only
    split at hk
    · rename_i d e h1 h2
      obtain ⟨p, h3, h4⟩ := bindO_some.1 hk
      unfold evalVal
      rw [hc]
      simp only [h1, h2, h3, val1, val2]
      exact .inl ⟨_, _, rfl, h4⟩
    · simp at hk
  · rename_i c x y hc
    rw [hc]
    simp only
    split at hk
    · rename_i d x' y' h1 h2 h3
      unfold evalVal
      rw [hc]
      rcases matchB_some hk with ⟨rfl, h⟩ | ⟨rfl, h⟩
      · simp only [h1, h2, if_true, val1, val2]
        exact .inl ⟨_, _, rfl, h⟩
      · simp only [h1, h3, Bool.false_eq_true, if_false, val1, val2]
        exact .inl ⟨_, _, rfl, h⟩
    · simp at hk
  · obtain ⟨p, h3, h4⟩ := bindO_some.1 hk
    split
    · rename_i d s' he
      split at he
      · simp_all
      · rw [h3] at he
        simp [val2] at he
        obtain ⟨rfl, rfl⟩ := he
        exact .inl ⟨_, _, rfl, h4⟩
    · rename_i f args he
      split at he
      · simp_all
      · rw [h3] at he
        simp [val2] at he
    · rename_i f args he
      split at he
      · simp_all
      · rw [h3] at he
        simp [val2] at he
    · rename_i he
      split at he
      · simp_all
      · rw [h3] at he
        simp [val2] at he

theorem opsK_some (hC : HOk C K) {fid rid : Nat} {ops : Array Oper} : ∀ {l : List Oper} {a : Ac} {s : St} {k : Ex → Ac → St → Option β}, opsK E C fid rid ops l a s k = some r →
    ∃ ex a' s', runOps E K fid rid ops l a s = some (ex, a', s') ∧ k ex a' s' = some r
  | [], a, s, k, h => ⟨_, _, _, rfl, h⟩
  | o :: rest, a, s, k, h => by
    unfold opsK at h
    unfold runOps
    rcases guardK_some h with ⟨hw, h⟩ | ⟨hw, h⟩
    · rw [if_pos hw]
      rcases opK_some hC h with ⟨d, s', h1, h2⟩ | ⟨d, s', h1, h2⟩
      · rw [h1]; exact opsK_some hC h2
      · rw [h1]; exact ⟨_, _, _, rfl, h2⟩
    · rw [if_neg (by simp [hw])]
      exact opsK_some hC h

theorem footOf_eq {a : Ac} {o : Oper} {d : D} (h : ∀ t n ps, o.op ≠ .buildSlice t n ps) : footOf a o d = footOf a o und := by
  unfold footOf
  split <;> simp_all

theorem opDrawK_plain (hC : HOk C K) {fid rid : Nat} {info : DrawInfo} {i : Nat} {a : Ac} {s : St} {o : Oper} {k : D → St → Foot → Option β}
    (hk : opDrawK.plain E C fid rid info i a s o k = some r) :
    ∃ d s' f, opPlain E K fid rid (hidesOf a (lookupN i info.hides)) a s o = some (d, s', f) ∧ k d s' f = some r := by
  unfold opDrawK.plain at hk
  simp only at hk
  split at hk
  · rename_i c hc
    unfold opPlain evalOp
    rw [hc]
    simp only
    split at hk
    · rename_i args ha
      rw [ha]
      simp only
      split at hk
      · rename_i b hb
        obtain ⟨p, h1, h2⟩ := builtK_some hk
        rw [hb]
        simp only [h1, val2]
        exact ⟨_, _, _, rfl, by unfold footOf; rw [hc]; exact h2⟩
      · rename_i f hf
        rw [hf]
        simp only
        split at hk
        · rename_i g first cap hfn
          rw [hfn]
          simp only
          split at hk
          · rename_i hh hext
            obtain ⟨p, h1, h2⟩ := bindO_some.1 hk
            rw [hext]
            simp only [h1, val1, val2]
            exact ⟨_, _, _, rfl, by unfold footOf; rw [hc]; exact h2⟩
          · rename_i hext
            rw [hext]
            simp only
            rcases hC.call hk with ⟨d, s', h1, h2⟩ | ⟨d, s', h1, h2⟩
            · rw [h1]; exact ⟨_, _, _, rfl, h2⟩
            · simp at h2
        · rename_i id st hfn
          rw [hfn]
          simp only
          rcases hC.yield hk with ⟨d, s', h1, h2⟩ | ⟨d, s', h1, h2⟩
          · rw [h1]; exact ⟨_, _, _, rfl, h2⟩
          · simp at h2
        · simp at hk
      · simp at hk
    · simp at hk
  · rename_i t n ps hc
    obtain ⟨p, h1, h2⟩ := bindO_some.1 hk
    unfold opPlain evalOp
    rw [hc]
    simp only [h1, val2]
    exact ⟨_, _, _, rfl, h2⟩
  · rename_i h1 h2
    rcases opK_some hC hk with ⟨d, s', h3, h4⟩ | ⟨d, s', h3, h4⟩
    · unfold opRun at h3
      unfold opPlain
      have hnc : ∀ f args, evalOp E (E.own fid rid) a s o ≠ some (.call f args) := by
        intro f args he
        unfold evalOp at he
        split at he
        · rename_i c hc; exact h1 c hc
        · unfold val2 at he; split at he <;> simp at he
      have hny : ∀ f st args, evalOp E (E.own fid rid) a s o ≠ some (.yield f st args) := by
        intro f st args he
        unfold evalOp at he
        split at he
        · rename_i c hc; exact h1 c hc
        · unfold val2 at he; split at he <;> simp at he
      split at h3
      · rename_i d' s1 he
        simp at h3
        obtain ⟨rfl, rfl⟩ := h3
        exact ⟨_, _, _, rfl, by rw [footOf_eq (fun t n ps => h2 t n ps)]; exact h4⟩
      · rename_i he; exact absurd he (hnc _ _)
      · rename_i he; exact absurd he (hny _ _ _)
      · simp at h3
    · simp at h4

theorem opDrawK_some (hC : HOk C K) {fid rid : Nat} {info : DrawInfo} {base i : Nat} {a : Ac} {s : St} {o : Oper} {k : D → St → Foot → Option β}
    (hk : opDrawK E C fid rid info base i a s o k = some r) : ∃ d s' f, opDraw E K fid rid info base i a s o = some (d, s', f) ∧ k d s' f = some r := by
  unfold opDrawK at hk
  unfold opDraw
  split at hk
  · rename_i j hj
    rw [hj]
    simp only
    split at hk
    · rename_i nk ob hn
      rw [hn]
      obtain ⟨p, h1, h2⟩ := bindO_some.1 hk
      simp only [h1]
      exact ⟨_, _, _, rfl, h2⟩
    · rename_i hn
      rw [hn]
      exact opDrawK_plain hC hk
  · rename_i hj
    rw [hj]
    exact opDrawK_plain hC hk

theorem drawK_some (hC : HOk C K) {fid rid : Nat} {ops : Array Oper} {info : DrawInfo} {base : Nat} : ∀ {l : List (Nat × Oper)} {a : Ac} {s : St} {k : Ac → St → List (Nat × Foot) → Option β},
    drawK E C fid rid ops info base l a s k = some r → ∃ a' s' fs, runI E K fid rid ops info base l a s = some (a', s', fs) ∧ k a' s' fs = some r
  | [], a, s, k, h => ⟨_, _, _, rfl, h⟩
  | (i, o) :: rest, a, s, k, h => by
    unfold drawK at h
    unfold runI stepT
    rcases guardK_some h with ⟨hw, h⟩ | ⟨hw, h⟩
    · rw [if_pos hw]
      obtain ⟨d, s', f, h1, h2⟩ := opDrawK_some hC h
      obtain ⟨a2, s2, fs, h3, h4⟩ := drawK_some hC h2
      rw [h1]
      simp only [h3]
      exact ⟨_, _, _, rfl, h4⟩
    · rw [if_neg (by simp [hw])]
      obtain ⟨a2, s2, fs, h3, h4⟩ := drawK_some hC h
      simp only [h3]
      exact ⟨_, _, _, rfl, h4⟩

theorem condA_self {c : Operand} {a : Ac} {b : Bool} (h : a.eval c = some (.v (.bool b))) : condA c a b = a := by
  unfold condA
  split
  · exact setB_self h
  · rfl

theorem execK_some (hC : HOk C K) {L : LoopOr} {fid lf : Nat} {round : Bool} : ∀ (c : Code) (p : Nat) {a : Ac} {s : St} {k : Ex → Ac → St → Option β}, LOk E K L fid lf round p c → execK E C L fid p c a s k = some r →
    ∃ ex a' s', exec E K fid lf round c a s = some (ex, a', s') ∧ k ex a' s' = some r := by
  intro c
  induction c with
  | skip => intro p a s k _ h; exact ⟨_, _, _, rfl, h⟩
  | label l => intro p a s k _ h; exact ⟨_, _, _, rfl, h⟩
  | region rid ops dr =>
    intro p a s k _ h
    cases dr with
    | false => simp only [execK] at h; simp only [exec]; exact opsK_some hC h
    | true =>
      simp only [execK] at h
      simp only [exec]
      split at h
      · rename_i info hi
        rw [hi]
        obtain ⟨a2, s2, fs, h1, h2⟩ := drawK_some hC h
        simp only [runDraw, h1]
        cases hp : pairsOk fs info.pairs with
        | true => rw [hp] at h2; exact ⟨_, _, _, rfl, h2⟩
        | false => rw [hp] at h2; simp [bcond] at h2
      · simp at h
  | seq x y ihx ihy =>
    intro p a s k hl h
    simp only [execK] at h
    simp only [exec]
    obtain ⟨ex, a1, s1, h1, h2⟩ := ihx (2 * p) hl.1 h
    rw [h1]
    cases ex with
    | normal => exact ihy (2 * p + 1) hl.2 h2
    | exit id => exact ⟨_, _, _, rfl, h2⟩
    | ret => exact ⟨_, _, _, rfl, h2⟩
    | panic d => exact ⟨_, _, _, rfl, h2⟩
  | cond c x y ihx ihy =>
    intro p a s k hl h
    simp only [execK] at h
    simp only [exec]
    split at h
    · rename_i d hd
      rcases matchB_some h with ⟨rfl, h⟩ | ⟨rfl, h⟩
      · rw [condA_self hd] at h
        rw [hd]
        exact ihx _ hl.1 h
      · rw [condA_self hd] at h
        rw [hd]
        exact ihy _ hl.2 h
    · simp at h
  | block id b ih =>
    intro p a s k hl h
    simp only [execK] at h
    simp only [exec]
    obtain ⟨ex, a1, s1, h1, h2⟩ := ih (2 * p) hl h
    rw [h1]
    cases ex with
    | normal => exact ⟨_, _, _, rfl, h2⟩
    | exit i =>
      simp only
      simp only at h2
      split at h2
      · rename_i hb
        have := Nat.eq_of_beq_eq_true hb
        rw [if_pos this]
        exact ⟨_, _, _, rfl, h2⟩
      · rename_i hb
        have : i ≠ id := fun e => by rw [e, Nat.beq_refl] at hb; simp at hb
        rw [if_neg this]
        exact ⟨_, _, _, rfl, h2⟩
    | ret => exact ⟨_, _, _, rfl, h2⟩
    | panic d => exact ⟨_, _, _, rfl, h2⟩
  | loop b ih =>
    intro p a s k hl h
    simp only [execK] at h
    obtain ⟨x, h1, h2⟩ := bindO_some.1 h
    exact ⟨_, _, _, hl a s x h1, h2⟩
  | rangeFunc f ps x y =>
    intro p a s k hl h
    simp only [execK] at h
    obtain ⟨x, h1, h2⟩ := bindO_some.1 h
    exact ⟨_, _, _, hl a s x h1, h2⟩
  | exit id => intro p a s k _ h; exact ⟨_, _, _, rfl, h⟩
  | ret => intro p a s k _ h; exact ⟨_, _, _, rfl, h⟩
  | scope b => intro p a s k _ h; simp [execK] at h
  | goto l => intro p a s k _ h; simp [execK] at h
  | refuse w => intro p a s k _ h; simp [execK] at h

end


section
variable (E : Env)
/-- a function's body -/
def bodyK (C : Hand (D × St)) (L : LoopOr) (f : FuncId) (args : List D) (s : St) : Option (D × St) :=
  match E.fn f with
  | some fn => match fn.body with
    | some c => execK E C L f 1 c { tmps := args ++ List.replicate (fn.ntmps - args.length) und, dfs := [] } s fun ex a s' => match ex with
      | .normal => leave E fn a.tmps a.dfs s'
      | .ret => leave E fn a.tmps a.dfs s'
      | _ => none
    | none => none
  | none => none

/-- a function's body that hands on no memory -/
def pureK (C : Hand D) (L : LoopOr) (f : FuncId) (args : List D) : Option D :=
  match E.fn f with
  | some fn => match fn.body with
    | some c => execK E C L f 1 c { tmps := args ++ List.replicate (fn.ntmps - args.length) und, dfs := [] } .empty fun ex a s' => match ex with
      | .normal => bindO (leave E fn a.tmps a.dfs s') fun p => bindO (frz p.2 0 frzFuel p.1) fun d => bcond (noIds d) (some d) none
      | .ret => bindO (leave E fn a.tmps a.dfs s') fun p => bindO (frz p.2 0 frzFuel p.1) fun d => bcond (noIds d) (some d) none
      | _ => none
    | none => none
  | none => none

def bodyOf (f : FuncId) : Code := ((E.fn f).bind (·.body)).getD .skip

variable {E} {K : Kall}
theorem bodyK_some {C : Hand (D × St)} (hC : HOk C K) {L : LoopOr} {f : FuncId} {args : List D} {s : St} {r : D × St} (hL : LOk E K L f loopFuel false 1 (bodyOf E f)) (h : bodyK E C L f args s = some r) : bodyRun E K loopFuel f args s = some r := by
  unfold bodyK at h
  unfold bodyRun
  unfold bodyOf at hL
  split at h
  · rename_i fn hfn
    rw [hfn] at hL ⊢
    simp only
    split at h
    · rename_i c hc
      simp only [Option.bind_some, hc, Option.getD_some] at hL
      rw [hc]
      simp only
      obtain ⟨ex, a, s', h1, h2⟩ := execK_some hC c 1 hL h
      rw [h1]
      cases ex <;> simp_all
    · simp at h
  · simp at h

theorem pureK_some {C : Hand D} (hC : HOk C K) {L : LoopOr} {f : FuncId} {args : List D} {d : D} (hL : LOk E K L f loopFuel false 1 (bodyOf E f)) (h : pureK E C L f args = some d) :
    ∃ d' s', bodyRun E K loopFuel f args .empty = some (d', s') ∧ frz s' 0 frzFuel d' = some d ∧ noIds d = true := by
  unfold pureK at h
  unfold bodyRun
  unfold bodyOf at hL
  split at h
  · rename_i fn hfn
    rw [hfn] at hL ⊢
    simp only
    split at h
    · rename_i c hc
      simp only [Option.bind_some, hc, Option.getD_some] at hL
      rw [hc]
      simp only
      obtain ⟨ex, a, s', h1, h2⟩ := execK_some hC c 1 hL h
      rw [h1]
      have key : ∀ p : Option (D × St), (bindO p fun p => bindO (frz p.2 0 frzFuel p.1) fun d => bcond (noIds d) (some d) none) = some d → ∃ d' s', p = some (d', s') ∧ frz s' 0 frzFuel d' = some d ∧ noIds d = true := by
        intro p hp
        obtain ⟨q, h3, h4⟩ := bindO_some.1 hp
        obtain ⟨x, h5, h6⟩ := bindO_some.1 h4
        cases hx : noIds x with
        | true => rw [hx] at h6; simp [bcond] at h6; subst h6; exact ⟨_, _, h3, h5, hx⟩
        | false => rw [hx] at h6; simp [bcond] at h6
      cases ex with
      | normal => exact key _ h2
      | ret => exact key _ h2
      | exit i => simp at h2
      | panic d => simp at h2
    · simp at h
  · simp at h


/-- a call of a plain function of plain values -/
theorem call_pure {n c rg : Nat} {hd : List Nat} {f : FuncId} {args : List D} {s s' : St} {d d' : D} (hm : modeOf E f c rg args = .pure) (hi : noIdsL args = true)
    (hb : bodyRun E (kall E n) loopFuel f args .empty = some (d, s')) (hf : frz s' 0 frzFuel d = some d') (hd' : noIds d' = true) : (kall E (n + 1)).call c rg hd f args s = some (.ret d', s) := by
  show callF E (kall E n) c rg hd f args s = _
  unfold callF
  rw [hm]
  simp only [hi, if_true, hb, hf, hd']

theorem call_pureK {C : Hand D} {n c rg : Nat} {hd : List Nat} {L : LoopOr} {f : FuncId} {args : List D} {s : St} {d : D} (hm : modeOf E f c rg args = .pure) (hi : noIdsL args = true) (hC : HOk C (kall E n))
    (hL : LOk E (kall E n) L f loopFuel false 1 (bodyOf E f)) (hb : pureK E C L f args = some d) : (kall E (n + 1)).call c rg hd f args s = some (.ret d, s) := by
  obtain ⟨d', s', h1, h2, h3⟩ := pureK_some hC hL hb
  exact call_pure hm hi h1 h2 h3
end
end
end Go.AM
