/- Steps of the store: an object is changed in place; a new one is laid. Loads, stores, operands. -/
import Derived.Test.YthkfhpiamddhoaaGreatAmRel
import Derived.Laws.LoneSync
set_option autoImplicit false
namespace Go.AM

theorem addr_add (b o i : Nat) : (⟨b, o, none⟩ : Addr).add i = ⟨b, o + i, none⟩ := by
  unfold Addr.add; split <;> simp_all

theorem setCells_size (b : Nat) : ∀ (vs : List Value) (o : Nat) (w : World), (w.setCells b o vs).heap.size = w.heap.size
  | [], _, _ => rfl
  | v :: r, o, w => by rw [World.setCells, setCells_size b r]; simp
theorem setCell_heap_ne (w : World) (a : Addr) (v : Value) (k : Nat) (h : k ≠ a.block) : (w.setCell a v).heap[k]? = w.heap[k]? := by
  simp only [World.setCell]
  rw [Array.getElem?_modify]
  simp [Ne.symm h]
theorem setCells_heap_ne (b : Nat) : ∀ (vs : List Value) (o : Nat) (w : World) (k : Nat), k ≠ b → (w.setCells b o vs).heap[k]? = w.heap[k]?
  | [], _, _, _, _ => rfl
  | v :: r, o, w, k, h => by rw [World.setCells, setCells_heap_ne b r _ _ _ h, setCell_heap_ne _ _ _ _ h]
theorem setCell_shape (w : World) (a : Addr) (v : Value) (k : Nat) : (w.setCell a v).shape? k = w.shape? k := by
  simp only [World.shape?, World.setCell]
  rw [Array.getElem?_modify]
  by_cases h : a.block = k
  · subst h
    simp only [if_true]
    cases hq : w.heap[a.block]? with
    | none => simp
    | some o => cases o <;> simp <;> split <;> simp
  · simp [h]
theorem setCells_shape (b : Nat) : ∀ (vs : List Value) (o : Nat) (w : World) (k : Nat), (w.setCells b o vs).shape? k = w.shape? k
  | [], _, _, _ => rfl
  | v :: r, o, w, k => by rw [World.setCells, setCells_shape b r, setCell_shape]
theorem setCells_os (b : Nat) : ∀ (vs : List Value) (o : Nat) (w : World), (w.setCells b o vs).os = w.os ∧ (w.setCells b o vs).tape = w.tape ∧ (w.setCells b o vs).output = w.output
  | [], _, _ => ⟨rfl, rfl, rfl⟩
  | v :: r, o, w => by rw [World.setCells]; exact setCells_os b r (o + 1) (w.setCell ⟨b, o, none⟩ v)

variable {Φ : Nat → Prop} {L : Lay} {s : St} {w : World}

theorem lt_of_get {α : Type} {l : List α} {i : Nat} {x : α} (h : l[i]? = some x) : i < l.length := by
  rcases Nat.lt_or_ge i l.length with h' | h'
  · exact h'
  · simp [List.getElem?_eq_none h'] at h

/-- the store with one object changed in place -/
theorem own_update {id : Nat} {o o' : Obj} (ho : s.σ[id]? = some o) (hl : o.live = true) {b : Nat} {s' : St} (hs : s'.σ = s.σ.set id o') (h : own Φ L s' b) : own Φ L s b := by
  rcases h with h | ⟨k, p, hk, hpl, hb⟩
  · exact .inl h
  · rw [hs, List.getElem?_set] at hk
    by_cases c : id = k
    · subst c; exact .inr ⟨id, o, ho, hl, hb⟩
    · simp [c] at hk; exact .inr ⟨k, p, hk, hpl, hb⟩

theorem Ext.update (hR : R Φ L s w) {id : Nat} {o o' : Obj} (ho : s.σ[id]? = some o) (ha : o.alike o') (hro : s.mine id = true) {w' : World} {s' : St} (hs : s'.σ = s.σ.set id o') (hclk : s'.clk = s.clk) (hsro : ∀ id, s'.mine id = s.mine id)
    (hsz : w'.heap.size = w.heap.size) (hw : ∀ b, b ≠ L.blk id → w'.heap[b]? = w.heap[b]?) (hos : w'.os = w.os ∧ w'.tape = w.tape ∧ w'.output = w.output) : Ext Φ L s w L s' w' := by
  have hl : o.live = true := by cases o <;> cases o' <;> simp_all [Obj.alike, Obj.live]
  have hl' : o'.live = true := by cases o <;> cases o' <;> simp_all [Obj.alike, Obj.live]
  refine ⟨by omega, ?_, ?_, ?_, by omega, ?_, rfl, ?_, hsro, ?_, hos.1, hos.2.1, hos.2.2⟩
  · intro b _ hno
    refine hw b (fun hb => hno (.inr ⟨id, o, ho, hl, hb.symm⟩))
  · intro b hb
    refine hw b (fun e => ?_)
    exact (hR.out id o ho hl).2.1 hro (e ▸ hb)
  · intro b hb
    exact .inl (own_update ho hl hs hb)
  · intro k st hk
    refine ⟨by rw [hclk]; exact hk.1, fun e => hk.2 ?_⟩
    rw [hs, List.getElem?_set] at e
    by_cases c : id = k
    · subst c
      simp only [if_true] at e
      split at e <;> simp at e
      subst e; simp [Obj.live] at hl'
    · simpa [c] using e
  · intro k p hk hpl _
    rw [hs, List.getElem?_set] at hk
    by_cases c : id = k
    · subst c
      simp only [if_true] at hk
      split at hk <;> simp at hk
      subst hk
      exact ⟨o, ho, hl, ha, rfl, rfl⟩
    · simp [c] at hk
      exact ⟨p, hk, hpl, Obj.alike_refl hpl, rfl, rfl⟩
  · intro k p hk hpl
    rw [hs, List.getElem?_set] at hk
    by_cases c : id = k
    · subst c; exact .inl ⟨o, ho, hl, rfl⟩
    · simp [c] at hk; exact .inl ⟨p, hk, hpl, rfl⟩

/-- what an object stands for hangs on its own block alone -/
theorem ObjOk.carry {id : Nat} {o : Obj} {s' : St} {w' : World} {L' : Lay} (h : ObjOk Φ L s w id o) (hx : Ext Φ L s w L' s' w') (hb : L'.blk id = L.blk id) (hbase : L'.base id = L.base id) (hw : w'.heap[L.blk id]? = w.heap[L.blk id]?) : ObjOk Φ L' s' w' id o := by
  cases o with
  | rows st rs esz =>
    obtain ⟨h1, ⟨T, n, h2, h3, h4⟩, h5⟩ := h
    refine ⟨h1, ⟨T, n, ?_, ?_, ?_⟩, ?_⟩
    · rw [hb]; simpa [World.shape?, hw] using h2
    · rw [hbase]; exact h3
    · intro off ho; rw [hb]; have := h4 off ho; simpa [World.frozen?, hw] using this
    · intro i r hr j d hd
      obtain ⟨x, hx1, hx2, hx3⟩ := h5 i r hr j d hd
      refine ⟨x, ?_, hx2, hx3.ext hx⟩
      rw [hb, hbase]; simpa [World.cell?, hw] using hx1
  | map st es =>
    obtain ⟨en, ck, h1, h2, h3⟩ := h
    exact ⟨en, ck, by rw [hb, hw]; exact h1, h2, fun i p e hp he => ⟨(h3 i p e hp he).1.ext hx, (h3 i p e hp he).2.ext hx⟩⟩
  | loop st l =>
    obtain ⟨lp, h1, h2, h3, h4, h5, h6, h7, h8⟩ := h
    exact ⟨lp, by rw [hb, hw]; exact h1, h2, h3, h4, h5, h6, by rw [hx.ok]; exact h7, h8.ext hx⟩
  | dfr st => show w'.heap[L'.blk id]? = _; rw [hb, hw]; exact h
  | dead => trivial
  | resv st => exact Nat.lt_of_lt_of_le h hx.clk

theorem ObjOk.carry_dull {id : Nat} {o : Obj} {s' : St} {w' : World} {L' : Lay} (h : ObjOk Φ L s w id o) (hx : Ext Φ L s w L' s' w') (hd : o.live = false) : ObjOk Φ L' s' w' id o := by
  cases o <;> simp [Obj.live] at hd
  · trivial
  · exact Nat.lt_of_lt_of_le h hx.clk

theorem R.update (hR : R Φ L s w) {id : Nat} {o o' : Obj} (ho : s.σ[id]? = some o) (ha : o.alike o') {w' : World} {s' : St} (hs : s'.σ = s.σ.set id o')
    (hsz : w'.heap.size = w.heap.size) (hw : ∀ b, b ≠ L.blk id → w'.heap[b]? = w.heap[b]?) (hx : Ext Φ L s w L s' w') (hok : ObjOk Φ L s' w' id o') : R Φ L s' w' := by
  have hl : o.live = true := by cases o <;> cases o' <;> simp_all [Obj.alike, Obj.live]
  have hl' : o'.live = true := by cases o <;> cases o' <;> simp_all [Obj.alike, Obj.live]
  have get : ∀ k p, s'.σ[k]? = some p → (k = id ∧ p = o') ∨ (k ≠ id ∧ s.σ[k]? = some p) := by
    intro k p hk
    rw [hs, List.getElem?_set] at hk
    by_cases c : id = k
    · subst c
      simp only [if_true] at hk
      split at hk <;> simp at hk
      exact .inl ⟨rfl, hk.symm⟩
    · simp [c] at hk; exact .inr ⟨fun e => c e.symm, hk⟩
  refine ⟨?_, ?_, ?_, ?_⟩
  · intro k p hk
    rcases get k p hk with ⟨rfl, rfl⟩ | ⟨c, hk'⟩
    · exact hok
    · by_cases hpl : p.live = true
      · exact (hR.obj k p hk').carry hx rfl rfl (hw _ (fun e => c (hR.inj k id p o hk' ho hpl hl e)))
      · exact (hR.obj k p hk').carry_dull hx (by simpa using hpl)
  · intro k k' p p' hk hk' hpl hpl' e
    have h1 : ∃ q, s.σ[k]? = some q ∧ q.live = true := by
      rcases get k p hk with ⟨rfl, rfl⟩ | ⟨c, h⟩
      · exact ⟨o, ho, hl⟩
      · exact ⟨p, h, hpl⟩
    have h2 : ∃ q, s.σ[k']? = some q ∧ q.live = true := by
      rcases get k' p' hk' with ⟨rfl, rfl⟩ | ⟨c, h⟩
      · exact ⟨o, ho, hl⟩
      · exact ⟨p', h, hpl'⟩
    obtain ⟨q, h3, h4⟩ := h1
    obtain ⟨q', h5, h6⟩ := h2
    exact hR.inj k k' q q' h3 h5 h4 h6 e
  · intro k p hk hpl
    rcases get k p hk with ⟨rfl, rfl⟩ | ⟨c, hk'⟩
    · have := hR.out k o ho hl
      exact ⟨by omega, by rw [hx.mine]; exact this.2.1, by rw [← Obj.alike_st ha]; exact Nat.lt_of_lt_of_le this.2.2 hx.clk⟩
    · have := hR.out k p hk' hpl
      exact ⟨by omega, by rw [hx.mine]; exact this.2.1, Nat.lt_of_lt_of_le this.2.2 hx.clk⟩
  · intro b hb
    have := hR.fresh b hb
    omega

/-- the layout with one more object -/
def Lay.add (L : Lay) (id b base : Nat) : Lay := ⟨fun i => if i = id then b else L.blk i, fun i => if i = id then base else L.base i, L.ok⟩

@[simp] theorem Lay.add_blk (L : Lay) (id b base : Nat) : (L.add id b base).blk id = b := by simp [Lay.add]
@[simp] theorem Lay.add_base (L : Lay) (id b base : Nat) : (L.add id b base).base id = base := by simp [Lay.add]
theorem Lay.add_blk_ne (L : Lay) {id b base i : Nat} (h : i ≠ id) : (L.add id b base).blk i = L.blk i := by simp [Lay.add, h]
theorem Lay.add_base_ne (L : Lay) {id b base i : Nat} (h : i ≠ id) : (L.add id b base).base i = L.base i := by simp [Lay.add, h]

theorem push_get {o : Nat → Obj} {k : Nat} {p : Obj} (h : (s.push o).σ[k]? = some p) : (k = s.σ.length ∧ p = o s.clk) ∨ (k < s.σ.length ∧ s.σ[k]? = some p) := by
  simp only [St.push] at h
  by_cases c : k < s.σ.length
  · rw [List.getElem?_append_left c] at h; exact .inr ⟨c, h⟩
  · rw [List.getElem?_append_right (by omega)] at h
    by_cases e : k = s.σ.length
    · subst e; simp at h; exact .inl ⟨rfl, h.symm⟩
    · rw [List.getElem?_eq_none (by simp; omega)] at h; simp at h

theorem Ext.push (hR : R Φ L s w) (o : Nat → Obj) (ob : Go.Obj) (base : Nat) (hst : (o s.clk).st = s.clk) : Ext Φ L s w (L.add s.σ.length w.heap.size base) (s.push o) (w.alloc ob) := by
  refine ⟨by simp, ?_, ?_, ?_, by simp [St.push], ?_, rfl, ?_, fun _ => rfl, ?_, rfl, rfl, rfl⟩
  · intro b hb _
    show (w.alloc ob).heap[b]? = _
    simp only [World.alloc]
    rw [Array.getElem?_push_lt hb, Array.getElem?_eq_getElem hb]
  · intro b hb
    have hb := hR.fresh b hb
    simp only [World.alloc]
    rw [Array.getElem?_push_lt hb, Array.getElem?_eq_getElem hb]
  · intro b hb
    rcases hb with hb | ⟨k, p, hk, hpl, hb⟩
    · exact .inl (.inl hb)
    · rcases push_get hk with ⟨rfl, rfl⟩ | ⟨c, hk'⟩
      · simp at hb; exact .inr (by omega)
      · rw [Lay.add_blk_ne _ (by omega)] at hb
        exact .inl (.inr ⟨k, p, hk', hpl, hb⟩)
  · intro k st hk
    refine ⟨by simp only [St.push]; have := hk.1; omega, fun e => ?_⟩
    rcases push_get e with ⟨rfl, h⟩ | ⟨c, hk'⟩
    · have h1 := hk.1
      rw [← h] at hst
      have h2 : st = s.clk := hst
      omega
    · exact hk.2 hk'
  · intro k p hk hpl hps
    rcases push_get hk with ⟨rfl, rfl⟩ | ⟨c, hk'⟩
    · have := hps.1
      rw [hst] at this
      omega
    · exact ⟨p, hk', hpl, Obj.alike_refl hpl, Lay.add_blk_ne _ (by omega), Lay.add_base_ne _ (by omega)⟩
  · intro k p hk hpl
    rcases push_get hk with ⟨rfl, rfl⟩ | ⟨c, hk'⟩
    · refine .inr (fun h => ?_)
      rw [Lay.add_blk] at h
      have := hR.fresh _ h
      omega
    · exact .inl ⟨p, hk', hpl, (Lay.add_blk_ne _ (by omega)).symm⟩

theorem R.push (hR : R Φ L s w) (o : Nat → Obj) (ob : Go.Obj) (base : Nat) (hst : (o s.clk).st = s.clk)
    (hok : ObjOk Φ (L.add s.σ.length w.heap.size base) (s.push o) (w.alloc ob) s.σ.length (o s.clk)) : R Φ (L.add s.σ.length w.heap.size base) (s.push o) (w.alloc ob) := by
  have hx := Ext.push hR o ob base hst
  refine ⟨?_, ?_, ?_, ?_⟩
  · intro k p hk
    rcases push_get hk with ⟨rfl, rfl⟩ | ⟨c, hk'⟩
    · exact hok
    · by_cases hpl : p.live = true
      · refine (hR.obj k p hk').carry hx (Lay.add_blk_ne _ (by omega)) (Lay.add_base_ne _ (by omega)) ?_
        have := (hR.out k p hk' hpl).1
        simp only [World.alloc]
        rw [Array.getElem?_push_lt this, Array.getElem?_eq_getElem this]
      · exact (hR.obj k p hk').carry_dull hx (by simpa using hpl)
  · intro k k' p p' hk hk' hpl hpl' e
    rcases push_get hk with ⟨rfl, rfl⟩ | ⟨c, h1⟩
    · rcases push_get hk' with ⟨rfl, rfl⟩ | ⟨c', h2⟩
      · rfl
      · rw [Lay.add_blk, Lay.add_blk_ne _ (by omega)] at e
        have := (hR.out k' p' h2 hpl').1
        omega
    · rcases push_get hk' with ⟨rfl, rfl⟩ | ⟨c', h2⟩
      · rw [Lay.add_blk, Lay.add_blk_ne _ (by omega)] at e
        have := (hR.out k p h1 hpl).1
        omega
      · rw [Lay.add_blk_ne _ (by omega), Lay.add_blk_ne _ (by omega)] at e
        exact hR.inj k k' p p' h1 h2 hpl hpl' e
  · intro k p hk hpl
    rcases push_get hk with ⟨rfl, rfl⟩ | ⟨c, h1⟩
    · refine ⟨by simp, fun _ hΦ => ?_, by rw [hst]; simp [St.push]⟩
      rw [Lay.add_blk] at hΦ
      have := hR.fresh _ hΦ
      omega
    · have := hR.out k p h1 hpl
      refine ⟨?_, ?_, ?_⟩
      · rw [Lay.add_blk_ne _ (by omega)]; simp; omega
      · rw [Lay.add_blk_ne _ (by omega)]; exact this.2.1
      · simp only [St.push]; omega
  · intro b hb
    have := hR.fresh b hb
    simp; omega
/-- memory has gone on; of what the store's objects lie in, nothing has changed -/
theorem Ext.still (hR : R Φ L s w) {w' : World} (hsz : w.heap.size ≤ w'.heap.size) (hs : ∀ b, b < w.heap.size → w'.heap[b]? = w.heap[b]?) (hos : w'.os = w.os ∧ w'.tape = w.tape ∧ w'.output = w.output) : Ext Φ L s w L s w' where
  size := hsz
  cells := fun b hb _ => hs b hb
  kept := fun b hb => hs b (hR.fresh b hb)
  owns := fun b hb => .inl hb
  clk := Nat.le_refl _
  knows := fun _ _ h => h
  ok := rfl
  old := fun _ o ho hl _ => ⟨o, ho, hl, Obj.alike_refl hl, rfl, rfl⟩
  mine := fun _ => rfl
  new := fun _ o ho hl => .inl ⟨o, ho, hl, rfl⟩
  os := hos.1
  tape := hos.2.1
  output := hos.2.2

theorem R.still (hR : R Φ L s w) {w' : World} (hx : Ext Φ L s w L s w') (hs : ∀ (id : Nat) (o : Obj), s.σ[id]? = some o → o.live = true → w'.heap[L.blk id]? = w.heap[L.blk id]?) : R Φ L s w' where
  obj := by
    intro id o ho
    by_cases hl : o.live = true
    · exact (hR.obj id o ho).carry hx rfl rfl (hs id o ho hl)
    · exact (hR.obj id o ho).carry_dull hx (by simpa using hl)
  inj := hR.inj
  out := by
    intro id o ho hl
    have := hR.out id o ho hl
    exact ⟨Nat.lt_of_lt_of_le this.1 hx.size, this.2⟩
  fresh := fun b hb => Nat.lt_of_lt_of_le (hR.fresh b hb) hx.size
#print axioms R.push
end Go.AM
