/- What can be read as data stands, by tree, for values of the interpreter. -/
import Derived.Test.YthkfhpiamddhoaaGreatAmDraw5
import GoSem.ClaimChange
set_option autoImplicit false
namespace Go.AM

inductive LeafK where
  | bool | int (k : IntKind) | float (k : FloatKind) | string | slice (e : TypeId)

inductive All2 {α β : Type} (r : α → β → Prop) : List α → List β → Prop
  | nil : All2 r [] []
  | cons {a : α} {b : β} {as : List α} {bs : List β} (h : r a b) (hs : All2 r as bs) : All2 r (a :: as) (b :: bs)

theorem All2.append {α β : Type} {r : α → β → Prop} {as as' : List α} {bs bs' : List β} (h : All2 r as bs) (h' : All2 r as' bs') : All2 r (as ++ as') (bs ++ bs') := by
  induction h with
  | nil => exact h'
  | cons h _ ih => exact .cons h ih
theorem All2.length {α β : Type} {r : α → β → Prop} {as : List α} {bs : List β} (h : All2 r as bs) : as.length = bs.length := by
  induction h with
  | nil => rfl
  | cons _ _ ih => simp [ih]
theorem All2.cons_inv {α β : Type} {r : α → β → Prop} {a : α} {as : List α} {bs : List β} (h : All2 r (a :: as) bs) : ∃ b bs', bs = b :: bs' ∧ r a b ∧ All2 r as bs' := by
  cases h with
  | cons h hs => exact ⟨_, _, rfl, h, hs⟩
theorem All2.nil_inv {α β : Type} {r : α → β → Prop} {bs : List β} (h : All2 r [] bs) : bs = [] := by cases h; rfl

noncomputable section
def fieldsL (E : Env) (f : TypeId → Option (List LeafK)) : List Field → Nat → Option (List LeafK)
  | [], _ => some []
  | fd :: fs, o => match Nat.beq fd.offset o, f fd.type, E.size fd.type with
    | true, some l, some n => match Nat.beq n l.length, fieldsL E f fs (o + l.length) with
      | true, some r => some (l ++ r)
      | _, _ => none
    | _, _, _ => none

def repL {α : Type} (l : List α) : Nat → List α
  | 0 => []
  | n + 1 => l ++ repL l n

/-- the cells of a type, by what is in them -/
def leavesOf (E : Env) : Nat → TypeId → Option (List LeafK)
  | 0, _ => none
  | n + 1, t => match E.desc t with
    | some .bool => some [.bool]
    | some (.int k) => some [.int k]
    | some (.float k) => some [.float k]
    | some .string => some [.string]
    | some (.slice e) => some [.slice e]
    | some (.struct fs) => match fieldsL E (leavesOf E n) fs.toList 0, E.size t with
      | some l, some m => match Nat.beq m l.length with
        | true => some l
        | false => none
      | _, _ => none
    | some (.array len e) => match leavesOf E n e, E.size e, E.size t with
      | some l, some m, some k => match Nat.beq m l.length, Nat.beq k (len * m) with
        | true, true => some (repL l len)
        | _, _ => none
      | _, _, _ => none
    | _ => none

def leafDepth : Nat := 12

def allB {α : Type} (p : α → Bool) : List α → Bool
  | [] => true
  | x :: xs => match p x with
    | true => allB p xs
    | false => false
theorem allB_mem {α : Type} {p : α → Bool} : ∀ {l : List α}, allB p l = true → ∀ x, x ∈ l → p x = true
  | [], _, x, hx => by simp at hx
  | y :: ys, h, x, hx => by
    simp only [allB] at h
    split at h
    · rename_i hy
      rcases List.mem_cons.1 hx with rfl | hx
      · exact hy
      · exact allB_mem h x hx
    · simp at h

def okLeaf (E : Env) : Nat → LeafK → Bool
  | 0, .slice _ => false
  | n + 1, .slice e => match leavesOf E leafDepth e, E.size e with
    | some (l :: ls), some m => match Nat.beq m (l :: ls).length with
      | true => allB (okLeaf E n) (l :: ls)
      | false => false
    | _, _ => false
  | _, _ => true

/-- a value of the interpreter in such a cell -/
def leafOk (E : Env) : Nat → LeafK → D → Prop
  | _, .bool, d => ∃ b, d = .v (.bool b)
  | _, .int k, d => ∃ i, d = .v (.int k i) ∧ (Lit.int k i).wf = true
  | _, .float k, d => ∃ b, d = .v (.float k b) ∧ (Lit.float k b).wf = true
  | _, .string, d => ∃ s, d = .v (.string s) ∧ s.size ≤ maxLen
  | 0, .slice _, _ => False
  | n + 1, .slice e, d => d = .v (.slice none 0 0) ∨ ∃ rows c, d = .sl rows (some c) ∧ rows.length ≤ c ∧ c ≤ maxLen ∧
      ∃ ls, leavesOf E leafDepth e = some ls ∧ ∀ r, r ∈ rows → All2 (leafOk E n) ls r

variable {E : Env} {P : Program} {H : Type} {enc : TypeId × Value → H} {w : World} {base : Nat} {sp : Nat → Bool} {held : Bool}

/-- a value in such a cell, that can be read -/
def leafRd (E : Env) (P : Program) (enc : TypeId × Value → H) (w : World) (base : Nat) (sp : Nat → Bool) (held : Bool) : LeafK → Value → Prop
  | .bool, v => ∃ b, v = .bool b
  | .int k, v => ∃ i, v = .int k i ∧ (Lit.int k i).wf = true
  | .float k, v => ∃ b, v = .float k b ∧ (Lit.float k b).wf = true
  | .string, v => ∃ s, v = .string s ∧ s.size ≤ maxLen
  | .slice e, v => v = .slice none 0 0 ∨ ∃ a len c, v = .slice (some a) len c ∧ len ≤ c ∧ c ≤ maxLen ∧
      ∀ i, i < len → ∃ cells fuel d ps, w.cells? base (a.add (i * P.cellsOf e)) (P.cellsOf e) = some cells ∧ DataW.trod enc P w base sp held fuel e cells = some (d, ps)

theorem repL_cons {α : Type} (l : List α) (n : Nat) : repL l (n + 1) = l ++ repL l n := rfl

theorem mapM_some {α β : Type} {f : α → Option β} : ∀ {l : List α} {r : List β}, l.mapM f = some r → ∀ (i : Nat) (x : α), l[i]? = some x → ∃ y, r[i]? = some y ∧ f x = some y
  | [], r, h, i, x, hx => by simp at hx
  | y :: ys, r, h, i, x, hx => by
    rw [List.mapM_cons] at h
    cases hy : f y with
    | none => rw [hy] at h; simp at h
    | some z =>
      rw [hy] at h
      cases hr' : ys.mapM f with
      | none => rw [hr'] at h; simp at h
      | some r' =>
      rw [hr'] at h
      simp at h
      subst h
      cases i with
      | zero => simp at hx; subst hx; exact ⟨z, rfl, hy⟩
      | succ i => simp at hx; obtain ⟨y', h1, h2⟩ := mapM_some hr' i x hx; exact ⟨y', by simpa using h1, h2⟩

theorem fields_rd (hE : EnvOk E P) {f : TypeId → Option (List LeafK)} {r : LeafK → Value → Prop} (cs : List Value)
    (hf : ∀ (t : TypeId) (l : List LeafK) (cs : List Value) (x : DataW H × List MemPlace), f t = some l → True → (∃ fuel, DataW.trod enc P w base sp held fuel t cs = some x) → cs.length = l.length → All2 r l cs) :
    ∀ (fs : List Field) (o : Nat) (ls : List LeafK), fieldsL E f fs o = some ls → o + ls.length = cs.length →
      (∀ fd, fd ∈ fs → ∃ fuel x, DataW.trod enc P w base sp held fuel fd.type ((cs.drop fd.offset).take (P.cellsOf fd.type)) = some x) → All2 r ls (cs.drop o)
  | [], o, ls, h, hl, _ => by
    simp [fieldsL] at h; subst h
    simp at hl
    rw [List.drop_eq_nil_of_le (by omega)]
    exact .nil
  | fd :: fs, o, ls, h, hl, ht => by
    simp only [fieldsL] at h
    split at h
    · rename_i l n ho hfl hn
      split at h
      · rename_i r' hnl hr'
        simp at h; subst h
        have ho := Nat.eq_of_beq_eq_true ho
        have hnl := Nat.eq_of_beq_eq_true hnl
        have hsz := (size_cells hE hn).1
        obtain ⟨fuel, x, hx⟩ := ht fd (by simp)
        rw [ho, hsz, hnl] at hx
        simp only [List.length_append] at hl
        have h1 := hf fd.type l _ x hfl trivial ⟨fuel, hx⟩ (by simp; omega)
        have h2 := fields_rd hE cs hf fs (o + l.length) r' hr' (by omega) (fun g hg => ht g (by simp [hg]))
        have e : cs.drop o = (cs.drop o).take l.length ++ cs.drop (o + l.length) := by
          rw [← List.drop_drop, List.take_append_drop]
        rw [e]
        exact h1.append h2
      · simp at h
    · simp at h

theorem rep_rd {r : LeafK → Value → Prop} {l : List LeafK} : ∀ (n : Nat) (cs : List Value), cs.length = n * l.length → (∀ i, i < n → All2 r l ((cs.drop (i * l.length)).take l.length)) → All2 r (repL l n) cs
  | 0, cs, h, _ => by
    simp at h; subst h; exact .nil
  | n + 1, cs, h, hi => by
    have h0 := hi 0 (by omega)
    simp at h0
    have h1 := rep_rd (r := r) (l := l) n (cs.drop l.length) (by simp [h, Nat.add_mul]) (fun i hin => by
      have := hi (i + 1) (by omega)
      rw [List.drop_drop]
      rw [Nat.add_mul, Nat.one_mul, Nat.add_comm] at this
      exact this)
    rw [repL_cons, ← List.take_append_drop l.length cs]
    exact h0.append h1

theorem range_get {n i : Nat} (h : i < n) : (List.range n)[i]? = some i := by simp [h]

theorem trod_leaves (hE : EnvOk E P) : ∀ (m : Nat) (t : TypeId) (ls : List LeafK), leavesOf E m t = some ls → ∀ (fuel : Nat) (cs : List Value) (x : DataW H × List MemPlace), DataW.trod enc P w base sp held fuel t cs = some x →
    All2 (leafRd E P enc w base sp held) ls cs
  | 0, t, ls, h, _, _, _, _ => by simp [leavesOf] at h
  | m + 1, t, ls, h, 0, cs, x, hx => by simp [DataW.trod] at hx
  | m + 1, t, ls, h, fuel + 1, cs, x, hx => by
    simp only [leavesOf] at h
    split at h
    · -- bool
      rename_i hd
      simp at h; subst h
      have hu := hE.desc hd
      simp only [DataW.trod, hu] at hx
      split at hx <;> simp_all
      rename_i b
      exact .cons ⟨b, rfl⟩ .nil
    · rename_i k hd
      simp at h; subst h
      have hu := hE.desc hd
      simp only [DataW.trod, hu] at hx
      split at hx <;> simp_all
      obtain ⟨⟨rfl, hw⟩, _⟩ := hx
      exact .cons ⟨_, rfl, hw⟩ .nil
    · rename_i k hd
      simp at h; subst h
      have hu := hE.desc hd
      simp only [DataW.trod, hu] at hx
      split at hx <;> simp_all
      obtain ⟨⟨rfl, hw⟩, _⟩ := hx
      exact .cons ⟨_, rfl, hw⟩ .nil
    · rename_i hd
      simp at h; subst h
      have hu := hE.desc hd
      simp only [DataW.trod, hu] at hx
      split at hx <;> simp_all
      exact .cons ⟨_, rfl, hx.1⟩ .nil
    · rename_i e hd
      simp at h; subst h
      have hu := hE.desc hd
      simp only [DataW.trod, hu] at hx
      split at hx
      case h_7 => exact .cons (.inl rfl) .nil
      case h_8 e' a len c heq =>
        simp at heq; subst heq
        split at hx
        · rename_i hcond
          obtain ⟨elems, he, _⟩ := Option.bind_eq_some_iff.1 hx
          refine .cons (.inr ⟨_, _, _, rfl, hcond.2.1, hcond.2.2, ?_⟩) .nil
          intro i hi
          obtain ⟨y, _, hy⟩ := mapM_some he i i (range_get hi)
          cases hc : w.cells? base (a.add (i * P.cellsOf e)) (P.cellsOf e) with
          | none => rw [hc] at hy; simp at hy
          | some cells =>
            rw [hc] at hy
            exact ⟨cells, fuel, y.1, y.2, rfl, hy⟩
        · simp at hx
      all_goals simp_all
    · rename_i fs hd
      have hu := hE.desc hd
      split at h
      · rename_i l n hl hn
        split at h
        · rename_i hnl
          simp at h; subst h
          have hnl := Nat.eq_of_beq_eq_true hnl
          simp only [DataW.trod, hu] at hx
          have hsz := (size_cells hE hn).1
          have hx' : (if cs.length = P.cellsOf t then (fs.toList.mapM fun f => DataW.trod enc P w base sp held fuel f.type ((cs.drop f.offset).take (P.cellsOf f.type))).map fun xs => ((.agg (xs.map (·.1)) : DataW H), xs.flatMap (·.2)) else none) = some x := by
            revert hx
            cases cs with
            | nil => exact id
            | cons c cs => cases cs <;> exact id
          split at hx'
          · rename_i hcl
            simp only [Option.map_eq_some_iff] at hx'
            obtain ⟨xs, hxs, _⟩ := hx'
            have := fields_rd (enc := enc) (base := base) (sp := sp) (held := held) (w := w) hE (r := leafRd E P enc w base sp held) cs (fun t l cs x hl _ ⟨fuel, hx⟩ _ => trod_leaves hE m t l hl fuel cs x hx) fs.toList 0 l hl (by omega) (fun fd hfd => by
              obtain ⟨i, hi⟩ := List.getElem?_of_mem hfd
              obtain ⟨y, _, hy⟩ := mapM_some hxs i fd hi
              exact ⟨fuel, y, hy⟩)
            simpa using this
          · simp at hx'
        · simp at h
      · simp at h
    · rename_i len e hd
      have hu := hE.desc hd
      split at h
      · rename_i l n k hl hn hk
        split at h
        · rename_i hnl hkl
          simp at h; subst h
          have hnl := Nat.eq_of_beq_eq_true hnl
          have hkl := Nat.eq_of_beq_eq_true hkl
          simp only [DataW.trod, hu] at hx
          have hsz := (size_cells hE hn).1
          have hsk := (size_cells hE hk).1
          have hx' : (if cs.length = P.cellsOf t then ((List.range len).mapM fun i => DataW.trod enc P w base sp held fuel e ((cs.drop (i * P.cellsOf e)).take (P.cellsOf e))).map fun xs => ((.agg (xs.map (·.1)) : DataW H), xs.flatMap (·.2)) else none) = some x := by
            revert hx
            cases cs with
            | nil => exact id
            | cons c cs => cases cs <;> exact id
          split at hx'
          · rename_i hcl
            simp only [Option.map_eq_some_iff] at hx'
            obtain ⟨xs, hxs, _⟩ := hx'
            refine rep_rd len cs (by rw [hcl, hsk, hkl, hnl]) (fun i hi => ?_)
            obtain ⟨y, _, hy⟩ := mapM_some hxs i i (range_get hi)
            rw [hsz, hnl] at hy
            exact trod_leaves hE m e l hl fuel _ y hy
          · simp at hx'
        · simp at h
      · simp at h
    · simp at h


theorem mapM_len {α β : Type} {f : α → Option β} : ∀ {l : List α} {r : List β}, l.mapM f = some r → r.length = l.length
  | [], r, h => by simp at h; subst h; rfl
  | y :: ys, r, h => by
    rw [List.mapM_cons] at h
    cases hy : f y with
    | none => rw [hy] at h; simp at h
    | some z =>
      rw [hy] at h
      cases hr' : ys.mapM f with
      | none => rw [hr'] at h; simp at h
      | some r' =>
        rw [hr'] at h
        simp at h
        subst h
        simp [mapM_len hr']

theorem cells_get {w : World} {base n : Nat} {a : Addr} {cs : List Value} (h : w.cells? base a n = some cs) : cs.length = n ∧ ∀ (j : Nat) (v : Value), cs[j]? = some v → w.cell? (a.add j) = some v := by
  unfold World.cells? at h
  split at h
  · have hlen : cs.length = n := by
      have := mapM_len h
      simpa using this
    refine ⟨hlen, fun j v hv => ?_⟩
    have hj : j < n := by rw [← hlen]; exact lt_of_get hv
    obtain ⟨y, h1, h2⟩ := mapM_some h j j (range_get hj)
    rw [hv] at h1
    simp at h1; subst h1; exact h2
  · simp at h

theorem cell_some {w : World} {a : Addr} {v : Value} (h : w.cell? a = some v) : a.spot = none ∧ a.block < w.heap.size := by
  unfold World.cell? at h
  split at h
  · rename_i c e f hb
    split at h
    · simp at h
    · rename_i hs
      refine ⟨by cases a with | mk b o sp => cases sp <;> simp_all, ?_⟩
      rcases Nat.lt_or_ge a.block w.heap.size with hlt | hge
      · exact hlt
      · rw [Array.getElem?_eq_none hge] at hb; simp at hb
  · simp at h

theorem all2_open {L : Lay} {s : St} {Φ : Nat → Prop} {n : Nat} {ls : List LeafK} {cs : List Value} (h : All2 (leafRd E P enc w base sp held) ls cs)
    (hl : ∀ l v, l ∈ ls → leafRd E P enc w base sp held l v → ∃ d, leafOk E n l d ∧ noIds d = true ∧ v.oneCell' = true ∧ Rel Φ L s w d v) :
    ∃ ds, All2 (leafOk E n) ls ds ∧ noIdsL ds = true ∧ (∀ v, v ∈ cs → v.oneCell' = true) ∧ RelL Φ L s w ds cs := by
  induction h with
  | nil => exact ⟨[], .nil, rfl, by simp, .nil⟩
  | @cons l v ls cs h hs ih =>
    obtain ⟨ds, h1, h2, h3, h4⟩ := ih (fun l v hm => hl l v (by simp [hm]))
    obtain ⟨d, g1, g2, g3, g4⟩ := hl l v (by simp) h
    refine ⟨d :: ds, .cons g1 h1, by simp [noIdsL, g2, h2], ?_, .cons g4 h4⟩
    intro x hx
    rcases List.mem_cons.1 hx with rfl | hx
    · exact g3
    · exact h3 x hx

theorem noIdsR_map {α : Type} {f : α → List D} : ∀ {l : List α}, (∀ x, x ∈ l → noIdsL (f x) = true) → noIdsR (l.map f) = true
  | [], _ => rfl
  | x :: xs, h => by
    simp only [List.map_cons, noIdsR, Bool.and_eq_true]
    exact ⟨h x (by simp), noIdsR_map (fun y hy => h y (by simp [hy]))⟩

theorem leaf_open (hE : EnvOk E P) {L : Lay} : ∀ (n : Nat) (l : LeafK) (v : Value), okLeaf E n l = true → leafRd E P enc w base sp held l v →
    ∃ d, leafOk E n l d ∧ noIds d = true ∧ v.oneCell' = true ∧ Rel (fun _ => False) L .empty w d v
  | n, .bool, v, _, h => by obtain ⟨b, rfl⟩ := h; exact ⟨_, by cases n <;> exact ⟨b, rfl⟩, rfl, rfl, .v rfl⟩
  | n, .int k, v, _, h => by obtain ⟨b, rfl, hw⟩ := h; exact ⟨_, by cases n <;> exact ⟨b, rfl, hw⟩, rfl, rfl, .v rfl⟩
  | n, .float k, v, _, h => by obtain ⟨b, rfl, hw⟩ := h; exact ⟨_, by cases n <;> exact ⟨b, rfl, hw⟩, rfl, rfl, .v rfl⟩
  | n, .string, v, _, h => by obtain ⟨b, rfl, hw⟩ := h; exact ⟨_, by cases n <;> exact ⟨b, rfl, hw⟩, rfl, rfl, .v rfl⟩
  | 0, .slice e, v, hok, _ => by simp [okLeaf] at hok
  | n + 1, .slice e, v, hok, h => by
    rcases h with rfl | ⟨a, len, c, rfl, hlc, hcm, hel⟩
    · exact ⟨.v (.slice none 0 0), .inl rfl, rfl, rfl, .v rfl⟩
    · simp only [okLeaf] at hok
      split at hok
      · rename_i l ls m hls hm
        split at hok
        · rename_i hml
          have hml := Nat.eq_of_beq_eq_true hml
          have hsz := (size_cells hE hm).1
          rw [hsz] at hel
          have hrow : ∀ i : Nat, ∃ r : List D, i < len → (All2 (leafOk E n) (l :: ls) r ∧ noIdsL r = true ∧ ∃ cells, w.cells? base (a.add (i * m)) m = some cells ∧ (∀ v, v ∈ cells → v.oneCell' = true) ∧ RelL (fun _ => False) L .empty w r cells) := by
            intro i
            by_cases hi : i < len
            · obtain ⟨cells, fuel, d, ps, hc, ht⟩ := hel i hi
              obtain ⟨ds, h1, h2, h3, h4⟩ := all2_open (L := L) (s := .empty) (Φ := fun _ => False) (n := n) (trod_leaves hE _ _ _ hls _ _ _ ht) (fun l v hl hv => leaf_open hE n l v (allB_mem hok l hl) hv)
              exact ⟨ds, fun _ => ⟨h1, h2, cells, hc, h3, h4⟩⟩
            · exact ⟨[], fun h => absurd h hi⟩
          let f : Nat → List D := fun i => Classical.choose (hrow i)
          have hf : ∀ i, i < len → (All2 (leafOk E n) (l :: ls) (f i) ∧ noIdsL (f i) = true ∧ ∃ cells, w.cells? base (a.add (i * m)) m = some cells ∧ (∀ v, v ∈ cells → v.oneCell' = true) ∧ RelL (fun _ => False) L .empty w (f i) cells) := fun i => Classical.choose_spec (hrow i)
          have hget : ∀ (i : Nat) (r : List D), ((List.range len).map f)[i]? = some r → i < len ∧ r = f i := by
            intro i r hr
            have hi : i < len := by have := lt_of_get hr; simpa using this
            rw [List.getElem?_map, range_get hi] at hr
            simp at hr
            exact ⟨hi, hr.symm⟩
          have hspot : 0 < len → a.spot = none ∧ a.block < w.heap.size := by
            intro h0
            obtain ⟨_, _, cells, hc, _, _⟩ := hf 0 h0
            obtain ⟨g1, g2⟩ := cells_get hc
            have hpos : 0 < m := by rw [hml]; simp
            obtain ⟨v, hv⟩ : ∃ v, cells[0]? = some v := ⟨cells[0]'(by omega), List.getElem?_eq_getElem _⟩
            have := g2 0 v hv
            simp [Addr.add] at this
            exact cell_some this
          have hcellr : ∀ (i : Nat) (r : List D), ((List.range len).map f)[i]? = some r → ∀ (j : Nat) (d : D), r[j]? = some d → ∃ y, w.cell? ⟨a.block, a.off + i * m + j, none⟩ = some y ∧ y.oneCell' = true ∧ Rel (fun _ => False) L .empty w d y := by
            intro i r hr j d hd
            obtain ⟨hi, rfl⟩ := hget i r hr
            obtain ⟨_, _, cells, hc, h3, h4⟩ := hf i hi
            obtain ⟨y, hy, hrel⟩ := h4.get hd
            have hcell := (cells_get hc).2 j y hy
            have ha : a = ⟨a.block, a.off, none⟩ := by have := (hspot (by omega)).1; cases a; simp at this; simp [this]
            rw [ha, addr_add, addr_add] at hcell
            exact ⟨y, hcell, h3 y (List.mem_of_getElem? hy), hrel⟩
          refine ⟨.sl ((List.range len).map f) (some c), .inr ⟨_, c, rfl, by simpa using hlc, hcm, _, hls, ?_⟩, rfl, rfl, ?_⟩
          · intro r hr
            obtain ⟨i, hi⟩ := List.getElem?_of_mem hr
            obtain ⟨hi', rfl⟩ := hget i r hi
            exact (hf i hi').1
          · have hpos : (List.range len).map f ≠ [] → 0 < len := by
              intro h
              rcases Nat.eq_zero_or_pos len with h0 | h0
              · subst h0; simp at h
              · exact h0
            refine .sl (n := m) (fun i j => (w.cell? ⟨a.block, a.off + i * m + j, none⟩).getD undef) (fun h => (hspot (hpos h)).1) (fun _ ho => empty_own ho) (fun h => (hspot (hpos h)).2) (by simp) hlc (by intro k hk; simpa using hk) ?_ ?_ ?_ ?_
            · intro r hr
              obtain ⟨i, hi⟩ := List.getElem?_of_mem hr
              obtain ⟨hi', rfl⟩ := hget i r hi
              rw [← (hf i hi').1.length, hml]
            · intro i r hr j d hd
              obtain ⟨y, h1, h2, h3⟩ := hcellr i r hr j d hd
              rw [h1]; exact ⟨rfl, h2⟩
            · intro i r hr j d hd
              obtain ⟨y, h1, h2, h3⟩ := hcellr i r hr j d hd
              rw [h1]; exact h3
            · exact noIdsR_map (fun i hi => (hf i (by simpa using hi)).2.1)
        · simp at hok
      · simp at hok

/-- an argument that can be read: a value of the interpreter -/
theorem arg_open (hE : EnvOk E P) {L : Lay} {n m : Nat} {t : TypeId} {ls : List LeafK} (hls : leavesOf E m t = some ls) (hok : allB (okLeaf E n) ls = true) {v : Value} {d : DataW H} {ps : List MemPlace} (h : DataW.Trod enc P w base sp held t v d ps) :
    ∃ ds, All2 (leafOk E n) ls ds ∧ noIdsL ds = true ∧ (∀ v', v' ∈ v.cells.toList → v'.oneCell' = true) ∧ RelL (fun _ => False) L .empty w ds v.cells.toList := by
  obtain ⟨fuel, h⟩ := h
  exact all2_open (trod_leaves hE _ _ _ hls _ _ _ h) (fun l v hl hv => leaf_open hE n l v (allB_mem hok l hl) hv)
#print axioms arg_open
end
end Go.AM
