/- How AM's values and store stand for the model's: 'Rel', 'R'; what a step keeps: 'Ext'. -/
import Derived.Test.YthkfhpiamddhoaaGreatAmDef
import Derived.CallsIn
import Derived.Laws.World
import Derived.Laws.Cells
import Derived.Laws.IdiomCopy
set_option autoImplicit false
namespace Go.AM

/-- where an object lies: its block, and the cell at which its first row begins -/
structure Lay where
  blk : Nat → Nat
  base : Nat → Nat
  /-- the code that a loop's record may hold -/
  ok : FuncId → Code → Prop

def Obj.live : Obj → Bool
  | .dead | .resv _ => false
  | _ => true
def Obj.st : Obj → Nat
  | .rows st _ _ | .map st _ | .loop st _ | .dfr st | .resv st => st
  | .dead => 0

/-- a stamp that has been given out for this place -/
def St.knows (s : St) (id st : Nat) : Prop := st < s.clk ∧ s.σ[id]? ≠ some (.resv st)

/-- the blocks that no by-value thing may lie in: those that are somebody else's (Φ), and those of the store -/
def own (Φ : Nat → Prop) (L : Lay) (s : St) (b : Nat) : Prop :=
  Φ b ∨ ∃ (id : Nat) (o : Obj), s.σ[id]? = some o ∧ o.live = true ∧ L.blk id = b

theorem getL_nil {α : Type} (i : Nat) : getL ([] : List α) i = none := rfl
theorem getL_zero {α : Type} (x : α) (xs : List α) : getL (x :: xs) 0 = some x := rfl
theorem getL_succ {α : Type} (x : α) (xs : List α) (n : Nat) : getL (x :: xs) (n + 1) = getL xs n := rfl
theorem setL_nil {α : Type} (i : Nat) (y : α) : setL ([] : List α) i y = [] := rfl
theorem setL_zero {α : Type} (x y : α) (xs : List α) : setL (x :: xs) 0 y = y :: xs := rfl
theorem setL_succ {α : Type} (x y : α) (xs : List α) (n : Nat) : setL (x :: xs) (n + 1) y = x :: setL xs n y := rfl
theorem getL_eq {α : Type} (l : List α) : ∀ i, getL l i = l[i]? := by
  induction l with
  | nil => intro i; simp [getL_nil]
  | cons x xs ih => intro i; cases i <;> simp [getL_zero, getL_succ, ih]
theorem setL_eq {α : Type} (l : List α) (y : α) : ∀ i, setL l i y = l.set i y := by
  induction l with
  | nil => intro i; simp [setL_nil]
  | cons x xs ih => intro i; cases i <;> simp [setL_zero, setL_succ, ih]

noncomputable def St.loopOf (s : St) (id st : Nat) : Option LoopD :=
  match getL s.σ id with
  | some (.loop st' l) => if st' == st then some l else none
  | _ => none
noncomputable def St.mapOf (s : St) (id st : Nat) : Option (List (D × D)) :=
  match getL s.σ id with
  | some (.map st' l) => if st' == st then some l else none
  | _ => none

theorem St.rowsOf_some {s : St} {id st esz : Nat} {rs : List (List D)} : s.rowsOf id st = some (rs, esz) ↔ s.σ[id]? = some (.rows st rs esz) := by
  unfold St.rowsOf
  rw [getL_eq]
  constructor
  · intro h
    split at h
    · rename_i st' rs' esz' heq
      by_cases c : st' = st
      · subst c; simp at h; rw [heq, h.1, h.2]
      · simp [c] at h
    · simp at h
  · intro h; rw [h]; simp

theorem St.loopOf_some {s : St} {id st : Nat} {l : LoopD} : s.loopOf id st = some l ↔ s.σ[id]? = some (.loop st l) := by
  unfold St.loopOf
  rw [getL_eq]
  constructor
  · intro h
    split at h
    · rename_i st' l' heq
      by_cases c : st' = st
      · subst c; simp at h; rw [heq, h]
      · simp [c] at h
    · simp at h
  · intro h; rw [h]; simp

theorem St.mapOf_some {s : St} {id st : Nat} {l : List (D × D)} : s.mapOf id st = some l ↔ s.σ[id]? = some (.map st l) := by
  unfold St.mapOf
  rw [getL_eq]
  constructor
  · intro h
    split at h
    · rename_i st' l' heq
      by_cases c : st' = st
      · subst c; simp at h; rw [heq, h]
      · simp [c] at h
    · simp at h
  · intro h; rw [h]; simp

inductive Rel (Φ : Nat → Prop) (L : Lay) (s : St) (w : World) : D → Value → Prop where
  | v {x : Value} (h : plainLeaf x = true) : Rel Φ L s w (.v x) x
  | und : Rel Φ L s w (.v (.tuple #[])) (.tuple #[])
  | sl {es : List (List D)} {cap : Option Nat} {a : Addr} {len c n : Nat} (g : Nat → Nat → Value)
      (hs : es ≠ [] → a.spot = none) (ho : es ≠ [] → ¬ own Φ L s a.block) (hb : es ≠ [] → a.block < w.heap.size) (hl : len = es.length) (hc : len ≤ c)
      (hk : ∀ k, cap = some k → c = k) (hn : ∀ r, r ∈ es → r.length = n)
      (hcell : ∀ (i : Nat) (r : List D), es[i]? = some r → ∀ (j : Nat) (d : D), r[j]? = some d → w.cell? ⟨a.block, a.off + i * n + j, none⟩ = some (g i j) ∧ (g i j).oneCell' = true)
      (hrel : ∀ (i : Nat) (r : List D), es[i]? = some r → ∀ (j : Nat) (d : D), r[j]? = some d → Rel Φ L s w d (g i j))
      (hid : noIdsR es = true) : Rel Φ L s w (.sl es cap) (.slice (some a) len c)
  | ipt {row : List D} {col b o : Nat} (g : Nat → Value) (ho : ¬ own Φ L s b) (hb : b < w.heap.size)
      (hcell : ∀ (j : Nat) (d : D), row[j]? = some d → w.cell? ⟨b, o + j, none⟩ = some (g j) ∧ (g j).oneCell' = true)
      (hrel : ∀ (j : Nat) (d : D), row[j]? = some d → Rel Φ L s w d (g j)) (hid : noIdsL row = true) :
      Rel Φ L s w (.ipt row col) (.pointer (some ⟨b, o + col, none⟩))
  | osl {id st off len c : Nat} {a : Addr} (hst : s.knows id st) (hc : len ≤ c)
      (h : ∀ (rs : List (List D)) (esz : Nat), s.σ[id]? = some (.rows st rs esz) →
        off + len ≤ rs.length ∧ rs.length ≤ off + c ∧ a.spot = none ∧ a.block = L.blk id ∧ (c = 0 ∨ a.off = L.base id + off * esz)) :
      Rel Φ L s w (.osl id st off len) (.slice (some a) len c)
  | csl {id st row col len esz' c : Nat} {a : Addr} (hst : s.knows id st) (hc : len ≤ c)
      (h : ∀ (rs : List (List D)) (esz : Nat), s.σ[id]? = some (.rows st rs esz) →
        a.spot = none ∧ a.block = L.blk id ∧ (c = 0 ∨ a.off = L.base id + row * esz + col)) :
      Rel Φ L s w (.csl id st row col len esz') (.slice (some a) len c)
  | ref {id st row col : Nat} {a : Addr} (hst : s.knows id st)
      (h : ∀ (rs : List (List D)) (esz : Nat), s.σ[id]? = some (.rows st rs esz) → a = ⟨L.blk id, L.base id + row * esz + col, none⟩) :
      Rel Φ L s w (.ref id st row col) (.pointer (some a))
  | mp {id st r : Nat} (hst : s.knows id st) (h : ∀ es, s.σ[id]? = some (.map st es) → r = L.blk id) : Rel Φ L s w (.mp id st) (.map (some r))
  | yld {id st l : Nat} (hst : s.knows id st) (h : ∀ lp, s.σ[id]? = some (.loop st lp) → l = L.blk id) : Rel Φ L s w (.yld id st) (.func (.yield l) #[] #[])
  | fn {f : FuncId} {a b : List D} {xs ys : Array Value} (ha : a.length = xs.size) (hb : b.length = ys.size)
      (hra : ∀ (i : Nat) (d : D) (x : Value), a[i]? = some d → xs[i]? = some x → Rel Φ L s w d x)
      (hrb : ∀ (i : Nat) (d : D) (x : Value), b[i]? = some d → ys[i]? = some x → Rel Φ L s w d x) : Rel Φ L s w (.fn f a b) (.func (.func f) xs ys)
  | ifc {t : TypeId} {d : D} {x : Value} (h : Rel Φ L s w d x) : Rel Φ L s w (.ifc t d) (.iface t x)
  | agg {cs : List D} {xs : Array Value} (hn : cs.length = xs.size) (h1 : ∀ x ∈ xs.toList, x.oneCell' = true)
      (h : ∀ (i : Nat) (d : D) (x : Value), cs[i]? = some d → xs[i]? = some x → Rel Φ L s w d x) : Rel Φ L s w (.agg cs) (.agg xs)
  | tup {cs : List D} {xs : Array Value} (hn : cs.length = xs.size)
      (h : ∀ (i : Nat) (d : D) (x : Value), cs[i]? = some d → xs[i]? = some x → Rel Φ L s w d x) : Rel Φ L s w (.tup cs) (.tuple xs)

/-- rows of two lists -/
def RelL (Φ : Nat → Prop) (L : Lay) (s : St) (w : World) (ds : List D) (xs : List Value) : Prop :=
  ds.length = xs.length ∧ ∀ (i : Nat) (d : D) (x : Value), ds[i]? = some d → xs[i]? = some x → Rel Φ L s w d x

/-- what one object of the store stands for -/
def ObjOk (Φ : Nat → Prop) (L : Lay) (s : St) (w : World) (id : Nat) : Obj → Prop
  | .rows _ rs esz => (∀ r, r ∈ rs → r.length = esz) ∧
      (∃ T n, w.shape? (L.blk id) = some (T, n) ∧ L.base id + rs.length * esz ≤ n ∧ ∀ off, off < n → w.frozen? ⟨L.blk id, off, none⟩ = false) ∧
      ∀ (i : Nat) (r : List D), rs[i]? = some r → ∀ (j : Nat) (d : D), r[j]? = some d → ∃ x, w.cell? ⟨L.blk id, L.base id + i * esz + j, none⟩ = some x ∧ x.oneCell' = true ∧ Rel Φ L s w d x
  | .map _ es => ∃ entries clock, w.heap[L.blk id]? = some (.map entries clock) ∧ entries.size = es.length ∧
      ∀ (i : Nat) (p : D × D) (e : MapEntry), es[i]? = some p → entries[i]? = some e → Rel Φ L s w p.1 e.key ∧ Rel Φ L s w p.2 e.val
  | .loop _ l => ∃ lp : Loop, w.heap[L.blk id]? = some (.loop lp) ∧ lp.state = l.state ∧ lp.pending = l.pending ∧ lp.params.toList = l.params ∧ lp.assign = l.assign ∧ lp.body = l.body ∧ (L.ok l.fn l.assign ∧ L.ok l.fn l.body) ∧ RelL Φ L s w l.tmps lp.tmps.toList
  | .dfr _ => w.heap[L.blk id]? = some (.deferred (some []))
  | .dead => True
  | .resv st => st < s.clk

structure R (Φ : Nat → Prop) (L : Lay) (s : St) (w : World) : Prop where
  obj : ∀ (id : Nat) (o : Obj), s.σ[id]? = some o → ObjOk Φ L s w id o
  inj : ∀ (id id' : Nat) (o o' : Obj), s.σ[id]? = some o → s.σ[id']? = some o' → o.live = true → o'.live = true → L.blk id = L.blk id' → id = id'
  out : ∀ (id : Nat) (o : Obj), s.σ[id]? = some o → o.live = true → L.blk id < w.heap.size ∧ (s.mine id = true → ¬ Φ (L.blk id)) ∧ o.st < s.clk
  fresh : ∀ b, Φ b → b < w.heap.size

/-- a block reads as it did -/
def sameCells (w w' : World) (b : Nat) : Prop := w'.heap[b]? = w.heap[b]?
theorem sameCells.cell {w w' : World} {b : Nat} (h : sameCells w w' b) {a : Addr} (ha : a.block = b) : w'.cell? a = w.cell? a := by
  subst ha
  have h' : w'.heap[a.block]? = w.heap[a.block]? := h
  simp only [World.cell?, h']

/-- one kind of object, of one shape -/
def Obj.alike : Obj → Obj → Prop
  | .rows st rs esz, .rows st' rs' esz' => st = st' ∧ rs.length = rs'.length ∧ esz = esz'
  | .map st _, .map st' _ => st = st'
  | .loop st _, .loop st' _ => st = st'
  | .dfr st, .dfr st' => st = st'
  | _, _ => False

structure Ext (Φ : Nat → Prop) (L : Lay) (s : St) (w : World) (L' : Lay) (s' : St) (w' : World) : Prop where
  size : w.heap.size ≤ w'.heap.size
  cells : ∀ b, b < w.heap.size → ¬ own Φ L s b → sameCells w w' b
  kept : ∀ b, Φ b → w'.heap[b]? = w.heap[b]?
  owns : ∀ b, own Φ L' s' b → own Φ L s b ∨ w.heap.size ≤ b
  clk : s.clk ≤ s'.clk
  knows : ∀ id st, s.knows id st → s'.knows id st
  ok : L'.ok = L.ok
  old : ∀ (id : Nat) (o' : Obj), s'.σ[id]? = some o' → o'.live = true → s.knows id o'.st →
    ∃ o, s.σ[id]? = some o ∧ o.live = true ∧ o.alike o' ∧ L'.blk id = L.blk id ∧ L'.base id = L.base id
  mine : ∀ id, s'.mine id = s.mine id
  new : ∀ (id : Nat) (o' : Obj), s'.σ[id]? = some o' → o'.live = true → (∃ o, s.σ[id]? = some o ∧ o.live = true ∧ L.blk id = L'.blk id) ∨ ¬ Φ (L'.blk id)
  os : w'.os = w.os
  tape : w'.tape = w.tape
  output : w'.output = w.output

theorem Obj.alike_refl {o : Obj} (h : o.live = true) : o.alike o := by
  cases o <;> simp_all [Obj.alike, Obj.live]
theorem Obj.alike_trans {a b c : Obj} (h : a.alike b) (h' : b.alike c) : a.alike c := by
  cases a <;> cases b <;> simp [Obj.alike] at h <;> cases c <;> simp [Obj.alike] at h' ⊢ <;> simp_all
theorem Obj.alike_st {a b : Obj} (h : a.alike b) : a.st = b.st := by
  cases a <;> cases b <;> simp_all [Obj.alike, Obj.st]

theorem Ext.refl (Φ : Nat → Prop) (L : Lay) (s : St) (w : World) : Ext Φ L s w L s w where
  size := Nat.le_refl _
  cells := fun _ _ _ => rfl
  kept := fun _ _ => rfl
  owns := fun _ h => .inl h
  clk := Nat.le_refl _
  knows := fun _ _ h => h
  ok := rfl
  old := fun _ o' h hl _ => ⟨o', h, hl, Obj.alike_refl hl, rfl, rfl⟩
  mine := fun _ => rfl
  new := fun _ o h hl => .inl ⟨o, h, hl, rfl⟩
  os := rfl
  tape := rfl
  output := rfl

theorem Ext.trans {Φ : Nat → Prop} {L L' L'' : Lay} {s s' s'' : St} {w w' w'' : World} (h : Ext Φ L s w L' s' w') (h' : Ext Φ L' s' w' L'' s'' w'') :
    Ext Φ L s w L'' s'' w'' where
  size := Nat.le_trans h.size h'.size
  cells := by
    intro b hb ho
    refine (h'.cells b (Nat.lt_of_lt_of_le hb h.size) ?_).trans (h.cells b hb ho)
    intro hc
    rcases h.owns b hc with hc | hc
    · exact ho hc
    · omega
  kept := fun b hb => (h'.kept b hb).trans (h.kept b hb)
  owns := by
    intro b hb
    rcases h'.owns b hb with hc | hc
    · exact h.owns b hc
    · exact .inr (Nat.le_trans h.size hc)
  clk := Nat.le_trans h.clk h'.clk
  knows := fun id st hk => h'.knows id st (h.knows id st hk)
  ok := h'.ok.trans h.ok
  old := by
    intro id o'' ho hl hst
    obtain ⟨o', h1, h2, h3, h4, h5⟩ := h'.old id o'' ho hl (h.knows _ _ hst)
    obtain ⟨o, g1, g2, g3, g4, g5⟩ := h.old id o' h1 h2 (by rw [Obj.alike_st h3]; exact hst)
    exact ⟨o, g1, g2, Obj.alike_trans g3 h3, h4.trans g4, h5.trans g5⟩
  mine := fun id => (h'.mine id).trans (h.mine id)
  new := by
    intro id o'' ho hl
    rcases h'.new id o'' ho hl with ⟨o', h1, h2, h3⟩ | h1
    · rcases h.new id o' h1 h2 with ⟨o, g1, g2, g3⟩ | g1
      · exact .inl ⟨o, g1, g2, g3.trans h3⟩
      · exact .inr (h3 ▸ g1)
    · exact .inr h1
  os := h'.os.trans h.os
  tape := h'.tape.trans h.tape
  output := h'.output.trans h.output

mutual
theorem noIdsL_get : ∀ (l : List D), noIdsL l = true → ∀ (i : Nat) (d : D), l[i]? = some d → noIds d = true
  | [], _, i, d, h => by simp at h
  | x :: xs, hl, 0, d, h => by simp [noIdsL] at hl; simp at h; rw [← h]; exact hl.1
  | x :: xs, hl, i + 1, d, h => by simp [noIdsL] at hl; simp at h; exact noIdsL_get xs hl.2 i d h
end
theorem noIdsR_get : ∀ (l : List (List D)), noIdsR l = true → ∀ (i : Nat) (r : List D), l[i]? = some r → noIdsL r = true
  | [], _, i, d, h => by simp at h
  | x :: xs, hl, 0, d, h => by simp [noIdsR] at hl; simp at h; rw [← h]; exact hl.1
  | x :: xs, hl, i + 1, d, h => by simp [noIdsR] at hl; simp at h; exact noIdsR_get xs hl.2 i d h

/-- what a value asks of a later store and memory to go on standing -/
structure Keeps (Φ : Nat → Prop) (L : Lay) (s : St) (w : World) (Φ' : Nat → Prop) (L' : Lay) (s' : St) (w' : World) : Prop where
  size : w.heap.size ≤ w'.heap.size
  cells : ∀ b, b < w.heap.size → ¬ own Φ L s b → sameCells w w' b
  owns : ∀ b, b < w.heap.size → own Φ' L' s' b → own Φ L s b
  knows : ∀ id st, s.knows id st → s'.knows id st
  old : ∀ (id : Nat) (o' : Obj), s'.σ[id]? = some o' → o'.live = true → s.knows id o'.st →
    ∃ o, s.σ[id]? = some o ∧ o.live = true ∧ o.alike o' ∧ L'.blk id = L.blk id ∧ L'.base id = L.base id

theorem Ext.keeps {Φ : Nat → Prop} {L L' : Lay} {s s' : St} {w w' : World} (hx : Ext Φ L s w L' s' w') : Keeps Φ L s w Φ L' s' w' where
  size := hx.size
  cells := hx.cells
  owns := fun b hb h => (hx.owns b h).elim id (fun h => by omega)
  knows := hx.knows
  old := hx.old

theorem ne_nil_of_get {α : Type} {l : List α} {i : Nat} {x : α} (h : l[i]? = some x) : l ≠ [] := fun e => by rw [e] at h; simp at h

/-- a value goes on standing where memory has gone on -/
theorem Rel.keep {Φ Φ' : Nat → Prop} {L L' : Lay} {s s' : St} {w w' : World} (hx : Keeps Φ L s w Φ' L' s' w') {d : D} {x : Value} (h : Rel Φ L s w d x) : Rel Φ' L' s' w' d x := by
  have hno : ∀ b, b < w.heap.size → ¬ own Φ L s b → ¬ own Φ' L' s' b := fun b hb h1 h2 => h1 (hx.owns b hb h2)
  induction h with
  | v h => exact .v h
  | und => exact .und
  | sl g hs ho hb hl hc hk hn hcell hrel hid ih =>
    refine .sl g hs (fun h => hno _ (hb h) (ho h)) (fun h => Nat.lt_of_lt_of_le (hb h) hx.size) hl hc hk hn ?_ ih hid
    intro i r hr j d hd
    have hne := ne_nil_of_get hr
    rw [(hx.cells _ (hb hne) (ho hne)).cell (a := ⟨_, _, none⟩) rfl]
    exact hcell i r hr j d hd
  | ipt g ho hb hcell hrel hid ih =>
    refine .ipt g (hno _ hb ho) (Nat.lt_of_lt_of_le hb hx.size) ?_ ih hid
    intro j d hd
    rw [(hx.cells _ hb ho).cell (a := ⟨_, _, none⟩) rfl]
    exact hcell j d hd
  | @osl id st off len c a hst hc h =>
    refine .osl (hx.knows _ _ hst) hc ?_
    intro rs esz ho
    obtain ⟨o, h1, h2, h3, h4, h5⟩ := hx.old id _ ho rfl hst
    cases o <;> simp [Obj.alike] at h3
    obtain ⟨rfl, h6, rfl⟩ := h3
    have := h _ _ h1
    rw [h4, h5, ← h6]; exact this
  | @csl id st row col len esz' c a hst hc h =>
    refine .csl (hx.knows _ _ hst) hc ?_
    intro rs esz ho
    obtain ⟨o, h1, h2, h3, h4, h5⟩ := hx.old id _ ho rfl hst
    cases o <;> simp [Obj.alike] at h3
    obtain ⟨rfl, h6, rfl⟩ := h3
    have := h _ _ h1
    rw [h4, h5]; exact this
  | @ref id st row col a hst h =>
    refine .ref (hx.knows _ _ hst) ?_
    intro rs esz ho
    obtain ⟨o, h1, h2, h3, h4, h5⟩ := hx.old id _ ho rfl hst
    cases o <;> simp [Obj.alike] at h3
    obtain ⟨rfl, h6, rfl⟩ := h3
    have := h _ _ h1
    rw [h4, h5]; exact this
  | @mp id st r hst h =>
    refine .mp (hx.knows _ _ hst) ?_
    intro es ho
    obtain ⟨o, h1, h2, h3, h4, h5⟩ := hx.old id _ ho rfl hst
    cases o <;> simp [Obj.alike] at h3
    subst h3
    rw [h4]; exact h _ h1
  | @yld id st l hst h =>
    refine .yld (hx.knows _ _ hst) ?_
    intro es ho
    obtain ⟨o, h1, h2, h3, h4, h5⟩ := hx.old id _ ho rfl hst
    cases o <;> simp [Obj.alike] at h3
    subst h3
    rw [h4]; exact h _ h1
  | fn ha hb _ _ iha ihb => exact .fn ha hb iha ihb
  | ifc _ ih => exact .ifc ih
  | agg hn h1 _ ih => exact .agg hn h1 ih
  | tup hn _ ih => exact .tup hn ih

theorem Rel.ext {Φ : Nat → Prop} {L L' : Lay} {s s' : St} {w w' : World} (hx : Ext Φ L s w L' s' w') {d : D} {x : Value} (h : Rel Φ L s w d x) : Rel Φ L' s' w' d x := h.keep hx.keeps

/-- what has no address of the store in it stands beside any store, where its blocks are nobody's -/
theorem Rel.move {Φ Φ' : Nat → Prop} {L L' : Lay} {s s' : St} {w w' : World} (hsz : w.heap.size ≤ w'.heap.size) (hc : ∀ b, b < w.heap.size → ¬ own Φ L s b → sameCells w w' b)
    (ho : ∀ b, b < w.heap.size → own Φ' L' s' b → own Φ L s b) {d : D} {x : Value} (h : Rel Φ L s w d x) : noIds d = true → Rel Φ' L' s' w' d x := by
  induction h with
  | v h => exact fun _ => .v h
  | und => exact fun _ => .und
  | sl g hs ho' hb hl hc' hk hn hcell hrel hid ih =>
    intro _
    refine .sl g hs (fun hn h => ho' hn (ho _ (hb hn) h)) (fun hn => Nat.lt_of_lt_of_le (hb hn) hsz) hl hc' hk hn ?_ (fun i r hr j d hd => ih i r hr j d hd ?_) hid
    · intro i r hr j d hd
      have hne := ne_nil_of_get hr
      rw [(hc _ (hb hne) (ho' hne)).cell (a := ⟨_, _, none⟩) rfl]
      exact hcell i r hr j d hd
    · exact noIdsL_get _ (noIdsR_get _ hid _ _ hr) _ _ hd
  | ipt g ho' hb hcell hrel hid ih =>
    intro _
    refine .ipt g (fun h => ho' (ho _ hb h)) (Nat.lt_of_lt_of_le hb hsz) ?_ (fun j d hd => ih j d hd (noIdsL_get _ hid _ _ hd)) hid
    intro j d hd
    rw [(hc _ hb ho').cell (a := ⟨_, _, none⟩) rfl]
    exact hcell j d hd
  | osl _ _ _ => intro h; simp [noIds] at h
  | csl _ _ _ => intro h; simp [noIds] at h
  | ref _ _ => intro h; simp [noIds] at h
  | mp _ _ => intro h; simp [noIds] at h
  | yld _ _ => intro h; simp [noIds] at h
  | fn ha hb _ _ iha ihb =>
    intro h
    simp [noIds] at h
    exact .fn ha hb (fun i d x h1 h2 => iha i d x h1 h2 (noIdsL_get _ h.1 _ _ h1)) (fun i d x h1 h2 => ihb i d x h1 h2 (noIdsL_get _ h.2 _ _ h1))
  | ifc _ ih => intro h; simp [noIds] at h; exact .ifc (ih h)
  | agg hn h1 _ ih => intro h; simp [noIds] at h; exact .agg hn h1 (fun i d x g1 g2 => ih i d x g1 g2 (noIdsL_get _ h _ _ g1))
  | tup hn _ ih => intro h; simp [noIds] at h; exact .tup hn (fun i d x g1 g2 => ih i d x g1 g2 (noIdsL_get _ h _ _ g1))

theorem RelL.keep {Φ Φ' : Nat → Prop} {L L' : Lay} {s s' : St} {w w' : World} (hx : Keeps Φ L s w Φ' L' s' w') {ds : List D} {xs : List Value} (h : RelL Φ L s w ds xs) : RelL Φ' L' s' w' ds xs :=
  ⟨h.1, fun i d x h1 h2 => (h.2 i d x h1 h2).keep hx⟩
theorem RelL.ext {Φ : Nat → Prop} {L L' : Lay} {s s' : St} {w w' : World} (hx : Ext Φ L s w L' s' w') {ds : List D} {xs : List Value} (h : RelL Φ L s w ds xs) : RelL Φ L' s' w' ds xs :=
  ⟨h.1, fun i d x h1 h2 => (h.2 i d x h1 h2).ext hx⟩

theorem RelL.nil {Φ : Nat → Prop} {L : Lay} {s : St} {w : World} : RelL Φ L s w [] [] := ⟨rfl, fun i d x h => by simp at h⟩
theorem RelL.cons {Φ : Nat → Prop} {L : Lay} {s : St} {w : World} {d : D} {ds : List D} {x : Value} {xs : List Value} (h : Rel Φ L s w d x) (hs : RelL Φ L s w ds xs) : RelL Φ L s w (d :: ds) (x :: xs) := by
  refine ⟨by simp [hs.1], ?_⟩
  intro i e y h1 h2
  cases i with
  | zero => simp at h1 h2; subst h1; subst h2; exact h
  | succ i => simp at h1 h2; exact hs.2 i e y h1 h2
theorem RelL.append {Φ : Nat → Prop} {L : Lay} {s : St} {w : World} {ds es : List D} {xs ys : List Value} (h : RelL Φ L s w ds xs) (hs : RelL Φ L s w es ys) : RelL Φ L s w (ds ++ es) (xs ++ ys) := by
  refine ⟨by simp [hs.1, h.1], ?_⟩
  intro i e y h1 h2
  by_cases c : i < ds.length
  · rw [List.getElem?_append_left c] at h1
    rw [List.getElem?_append_left (by rw [← h.1]; exact c)] at h2
    exact h.2 i e y h1 h2
  · rw [List.getElem?_append_right (by omega)] at h1
    rw [List.getElem?_append_right (by rw [← h.1]; omega)] at h2
    rw [← h.1] at h2
    exact hs.2 _ e y h1 h2
theorem RelL.get {Φ : Nat → Prop} {L : Lay} {s : St} {w : World} {ds : List D} {xs : List Value} (h : RelL Φ L s w ds xs) {i : Nat} {d : D} (hi : ds[i]? = some d) : ∃ x, xs[i]? = some x ∧ Rel Φ L s w d x := by
  have hlt : i < ds.length := by
    rcases Nat.lt_or_ge i ds.length with h | h
    · exact h
    · simp [List.getElem?_eq_none h] at hi
  have : i < xs.length := by rw [← h.1]; exact hlt
  exact ⟨xs[i], List.getElem?_eq_getElem this, h.2 i d _ hi (List.getElem?_eq_getElem this)⟩
theorem RelL.set {Φ : Nat → Prop} {L : Lay} {s : St} {w : World} {ds : List D} {xs : List Value} (h : RelL Φ L s w ds xs) (i : Nat) {d : D} {x : Value} (hd : Rel Φ L s w d x) : RelL Φ L s w (ds.set i d) (xs.set i x) := by
  refine ⟨by simp [h.1], ?_⟩
  intro j e y h1 h2
  rw [List.getElem?_set] at h1 h2
  by_cases c : i = j
  · subst c
    simp only [if_true] at h1 h2
    split at h1 <;> simp at h1
    split at h2 <;> simp at h2
    subst h1; subst h2; exact hd
  · simp only [c, if_false] at h1 h2
    exact h.2 j e y h1 h2
theorem Rel.agg' {Φ : Nat → Prop} {L : Lay} {s : St} {w : World} {cs : List D} {xs : List Value} (h : RelL Φ L s w cs xs) (h1 : ∀ x ∈ xs, x.oneCell' = true) : Rel Φ L s w (.agg cs) (.agg xs.toArray) :=
  .agg (by simpa using h.1) (by simpa using h1) (fun i d x g1 g2 => h.2 i d x g1 (by simpa using g2))

#print axioms Rel.move
end Go.AM
