/- What the model's operations do is what AM's do. -/
import Derived.Test.YthkfhpiamddhoaaGreatAmBase
set_option autoImplicit false
namespace Go.AM

structure EnvOk (E : Env) (P : Program) : Prop where
  fn : ∀ (f : FuncId) (fn : Func), E.fn f = some fn → P.funcs[f]? = some fn
  info : ∀ (t : TypeId) (i : TypeInfo), E.info t = some i → P.info? t = some i
  ext : ∀ (g : FuncId) (h : List D → Option D), E.ext g = some h → ∀ (args : List D) (xs : List Value) (d : D), h args = some d →
    ∀ (Φ : Nat → Prop) (L : Lay) (s : St) (w : World), RelL Φ L s w args xs → ∃ x, (callFunc g xs.toArray).run P w = .ok (.value x) w ∧ Rel Φ L s w d x

variable {E : Env} {P : Program} {Φ : Nat → Prop} {L : Lay} {s : St} {w : World}

theorem EnvOk.desc (hE : EnvOk E P) {t : TypeId} {d : TypeDesc} (h : E.desc t = some d) : P.underlying t = some d := by
  unfold Env.desc at h
  unfold Program.underlying
  cases hi0 : E.info t with
  | none => rw [hi0] at h; simp at h
  | some i =>
    rw [hE.info t i hi0]
    rw [hi0] at h
    obtain ⟨q, _, _, _, _, _, _, _, _, _⟩ := i
    cases q <;> simp at h ⊢ <;> try exact h
    obtain ⟨i, h1, h2⟩ := h
    exact ⟨i, hE.info _ _ h1, h2⟩
theorem run_und (hE : EnvOk E P) {t : TypeId} {d : TypeDesc} (h : E.desc t = some d) (w : World) : (underlying t).run P w = .ok d w :=
  run_underlying (hE.desc h) w
theorem run_size (hE : EnvOk E P) {t : TypeId} {n : Nat} (h : E.size t = some n) (w : World) : (sizeOf t).run P w = .ok n w := by
  unfold Env.size at h
  cases hi0 : E.info t with
  | none => simp [hi0] at h
  | some i => have hi := hE.info t i hi0; simp [hi0] at h; simp [sizeOf, typeInfo, hi, h]
theorem run_agg (hE : EnvOk E P) {t : TypeId} {g : Bool} (h : E.agg t = some g) (w : World) : (isAgg t).run P w = .ok g w := by
  unfold Env.agg at h
  cases hd : E.desc t with
  | none => simp [hd] at h
  | some d =>
    have := run_und hE hd w
    cases d <;> simp [hd] at h <;> subst h <;> simp [isAgg, this]

theorem plain_one {x : Value} (h : plainLeaf x = true) : x.oneCell' = true := by
  cases x <;> simp_all [plainLeaf, Value.oneCell']

theorem ofCells_rel : ∀ (l : List Value) (ds : List D), ofCells l = some ds → RelL Φ L s w ds l ∧ (∀ x ∈ l, x.oneCell' = true) ∧ noIdsL ds = true
  | [], ds, h => by simp [ofCells] at h; subst h; exact ⟨RelL.nil, by simp, rfl⟩
  | x :: xs, ds, h => by
    simp only [ofCells] at h
    split at h
    · rename_i hp
      cases hq : ofCells xs with
      | none => simp [hq] at h
      | some l =>
        simp [hq] at h
        subst h
        obtain ⟨h1, h2, h3⟩ := ofCells_rel xs l hq
        refine ⟨h1.cons (.v hp), ?_, by simp [noIdsL, noIds, h3]⟩
        intro y hy
        simp at hy
        rcases hy with rfl | hy
        · exact plain_one hp
        · exact h2 y hy
    · simp at h

theorem ofValue_rel {x : Value} {d : D} (h : ofValue x = some d) : Rel Φ L s w d x ∧ noIds d = true := by
  unfold ofValue at h
  split at h
  · rename_i cs
    cases hq : ofCells cs.toList with
    | none => simp [hq] at h
    | some l =>
      simp [hq] at h
      subst h
      obtain ⟨h1, h2, h3⟩ := ofCells_rel (Φ := Φ) (L := L) (s := s) (w := w) _ _ hq
      exact ⟨by simpa using Rel.agg' h1 h2, by simp [noIds, h3]⟩
  · simp at h; subst h
    exact ⟨.fn rfl rfl (fun i d x h => by simp at h) (fun i d x h => by simp at h), by simp [noIds, noIdsL]⟩
  · simp at h; subst h; exact ⟨.und, by simp [und, noIds]⟩
  · split at h
    · rename_i hp
      simp at h; subst h; exact ⟨.v hp, by simp [noIds]⟩
    · simp at h

theorem run_zero (hE : EnvOk E P) {t : TypeId} {z : D} (h : E.zero t = some z) : ∃ x, (∀ w, (zeroValue t).run P w = .ok x w) ∧ ofValue x = some z := by
  unfold Env.zero at h
  cases hi0 : E.info t with
  | none => simp [hi0] at h
  | some i =>
    have hi := hE.info t i hi0
    simp [hi0] at h
    cases hz : i.zero with
    | none => simp [hz] at h
    | some x =>
      simp [hz] at h
      exact ⟨x, fun w => by simp [zeroValue, typeInfo, hi, hz], h⟩

theorem Rel.cells {d : D} {x : Value} (h : Rel Φ L s w d x) : RelL Φ L s w d.cells x.cells.toList := by
  cases h with
  | agg hn h1 h => exact ⟨by simpa [D.cells, Value.cells] using hn, fun i d x g1 g2 => h i d x g1 (by simpa [Value.cells] using g2)⟩
  | v h' =>
    cases x <;> simp [plainLeaf] at h' <;> exact RelL.nil.cons (.v (by simp [plainLeaf, *]))
  | und => exact RelL.nil.cons .und
  | sl g hs ho hb hl hc hk hn hcell hrel hid => exact RelL.nil.cons (.sl g hs ho hb hl hc hk hn hcell hrel hid)
  | ipt g ho hb hcell hrel hid => exact RelL.nil.cons (.ipt g ho hb hcell hrel hid)
  | osl a b c => exact RelL.nil.cons (.osl a b c)
  | csl a b c => exact RelL.nil.cons (.csl a b c)
  | ref a b => exact RelL.nil.cons (.ref a b)
  | mp a b => exact RelL.nil.cons (.mp a b)
  | yld a b => exact RelL.nil.cons (.yld a b)
  | fn a b c d => exact RelL.nil.cons (.fn a b c d)
  | ifc a => exact RelL.nil.cons (.ifc a)
  | tup a b => exact RelL.nil.cons (.tup a b)

theorem Rel.storable {d : D} {x : Value} (h : Rel Φ L s w d x) (hs : d.storable = true) : ∀ y ∈ x.cells.toList, y.oneCell' = true := by
  cases h with
  | agg hn h1 h => simpa [Value.cells] using h1
  | und => simp [D.storable, D.leaf] at hs
  | v h' =>
    have := plain_one h'
    cases x <;> simp [plainLeaf] at h' <;> simp [Value.cells, Value.oneCell']
  | tup a b => simp [D.storable, D.leaf] at hs
  | sl => simp [Value.cells, Value.oneCell']
  | ipt => simp [Value.cells, Value.oneCell']
  | osl => simp [Value.cells, Value.oneCell']
  | csl => simp [Value.cells, Value.oneCell']
  | ref => simp [Value.cells, Value.oneCell']
  | mp => simp [Value.cells, Value.oneCell']
  | yld => simp [Value.cells, Value.oneCell']
  | fn => simp [Value.cells, Value.oneCell']
  | ifc => simp [Value.cells, Value.oneCell']

/-- what is picked out of a row of cells -/
theorem loadVar_run (hE : EnvOk E P) {t : TypeId} {n : Nat} {g : Bool} (hn : E.size t = some n) (hg : E.agg t = some g) {b o : Nat} {row : List D}
    (hcell : ∀ (j : Nat) (d : D), row[j]? = some d → ∃ x, w.cell? ⟨b, o + j, none⟩ = some x ∧ x.oneCell' = true ∧ Rel Φ L s w d x) {d : D} (hp : pick g n row = some d) :
    ∃ x, (loadVar t ⟨b, o, none⟩).run P w = .ok x w ∧ Rel Φ L s w d x := by
  unfold pick at hp
  cases g with
  | true =>
    simp only [if_true] at hp
    split at hp
    · rename_i hle
      simp at hp
      subst hp
      have hf : ∀ j, j < n → w.cell? ((⟨b, o, none⟩ : Addr).add j) = some ((w.cell? ⟨b, o + j, none⟩).getD undef) := by
        intro j hj
        obtain ⟨x, hx, _⟩ := hcell j _ (List.getElem?_eq_getElem (by omega))
        rw [addr_add, hx]; rfl
      refine ⟨_, ?_, Rel.agg' (xs := (List.range n).map fun j => (w.cell? ⟨b, o + j, none⟩).getD undef) ⟨?_, ?_⟩ ?_⟩
      · simp only [loadVar, Sem.run_bind, run_agg hE hg, Result.andThen_ok, if_true, run_size hE hn, run_loadCells w _ n _ hf, Sem.run_pure]
      · simp; omega
      · intro j e x h1 h2
        have hj : j < n := by
          have := lt_of_get h2
          simpa using this
        rw [List.getElem?_take_of_lt hj] at h1
        obtain ⟨y, hy, _, hr⟩ := hcell j e h1
        simp [hj, hy] at h2
        subst h2; exact hr
      · intro x hx
        simp at hx
        obtain ⟨j, hj, rfl⟩ := hx
        obtain ⟨y, hy, h1, _⟩ := hcell j _ (List.getElem?_eq_getElem (by omega))
        rw [hy]; exact h1
    · simp at hp
  | false =>
    simp at hp
    cases row with
    | nil => simp at hp
    | cons e r =>
      simp at hp
      subst hp
      obtain ⟨x, hx, _, hr⟩ := hcell 0 e (by simp)
      refine ⟨x, ?_, hr⟩
      simp at hx
      simp [loadVar, run_agg hE hg, hx]

theorem get_drop {α : Type} {r : List α} {col j : Nat} {d : α} (h : (r.drop col)[j]? = some d) : r[col + j]? = some d := by
  rw [List.getElem?_drop] at h; exact h

theorem load_sound (hE : EnvOk E P) (hR : R Φ L s w) {t : TypeId} {a d : D} {x : Value} (ha : Rel Φ L s w a x) (h : loadAt E s t a = some d) :
    ∃ y, (Instr.loadAt t x).run P w = .ok y w ∧ Rel Φ L s w d y := by
  unfold loadAt at h
  split at h
  · rename_i n g hn hg
    cases ha with
    | @ref id st row col adr hst hadr =>
      simp only at h
      split at h
      · rename_i rs esz hrs
        rw [St.rowsOf_some] at hrs
        split at h
        · rename_i r hr
          rw [getL_eq] at hr
          obtain ⟨h1, _, h5⟩ := hR.obj _ _ hrs
          have := hadr _ _ hrs
          subst this
          obtain ⟨y, hy, hry⟩ := loadVar_run (L := L) (Φ := Φ) (s := s) hE hn hg (row := r.drop col) (b := L.blk id) (o := L.base id + row * esz + col) (w := w) (fun j e he => by
            have := h5 _ _ hr (col + j) e (get_drop he)
            rwa [← Nat.add_assoc] at this) h
          exact ⟨y, by simp [Instr.loadAt, Instr.sureAddr, hy], hry⟩
        · simp at h
      · simp at h
    | @ipt row col b o g' ho hb hcell hrel hid =>
      simp only at h
      obtain ⟨y, hy, hry⟩ := loadVar_run (L := L) (Φ := Φ) (s := s) hE hn hg (row := row.drop col) (b := b) (o := o + col) (w := w) (fun j e he => by
        have h1 := hcell (col + j) e (get_drop he)
        exact ⟨g' (col + j), by rw [Nat.add_assoc]; exact h1.1, h1.2, hrel _ _ (get_drop he)⟩) h
      exact ⟨y, by simp [Instr.loadAt, Instr.sureAddr, hy], hry⟩
    | _ => simp at h
  · simp at h

theorem splice_len : ∀ (r : List D) (col : Nat) (cs : List D), (spliceL r col cs).length = r.length
  | r, _, [] => by cases r <;> simp [spliceL]
  | [], 0, c :: cs => by simp [spliceL]
  | [], n + 1, c :: cs => by simp [spliceL]
  | x :: xs, 0, c :: cs => by simp [spliceL, splice_len xs 0 cs]
  | x :: xs, n + 1, c :: cs => by simp [spliceL, splice_len xs n (c :: cs)]
theorem splice_get : ∀ (r : List D) (col : Nat) (cs : List D) (j : Nat), j < r.length → (spliceL r col cs)[j]? = if col ≤ j ∧ j < col + cs.length then cs[j - col]? else r[j]?
  | r, col, [], j, _ => by
    rw [if_neg (by simp <;> omega)]
    cases r <;> simp [spliceL]
  | [], _, _ :: _, j, h => by simp at h
  | x :: xs, 0, c :: cs, 0, _ => by simp [spliceL]
  | x :: xs, 0, c :: cs, j + 1, h => by
    have := splice_get xs 0 cs j (by simpa using h)
    simp [spliceL, this]
  | x :: xs, n + 1, c :: cs, 0, _ => by simp [spliceL]
  | x :: xs, n + 1, c :: cs, j + 1, h => by
    have := splice_get xs n (c :: cs) j (by simpa using h)
    simp only [spliceL, List.getElem?_cons_succ, this]
    by_cases e : n ≤ j ∧ j < n + (c :: cs).length
    · rw [if_pos e, if_pos (by simp at e ⊢; omega)]
      congr 1; omega
    · rw [if_neg e, if_neg (by simp at e ⊢; omega)]

theorem store_sound (hE : EnvOk E P) (hR : R Φ L s w) {t : TypeId} {a e : D} {x y : Value} (ha : Rel Φ L s w a x) (he : Rel Φ L s w e y) {s' : St} (h : storeAt E s t a e = some s') :
    ∃ w', (Instr.storeAt t x y).run P w = .ok () w' ∧ R Φ L s' w' ∧ Ext Φ L s w L s' w' := by
  unfold storeAt at h
  split at h
  · rename_i n id st row col hn
    split at h
    · rename_i rs esz hrs
      rw [St.rowsOf_some] at hrs
      split at h
      · rename_i r hr
        rw [getL_eq] at hr
        split at h
        · rename_i hc
          obtain ⟨hlen, hsto, hfit, hro⟩ := hc
          simp at h
          subst h
          cases ha with
          | ref hst hadr =>
            have := hadr _ _ hrs
            subst this
            obtain ⟨h1, ⟨T, n', h2, h3, h4⟩, h5⟩ := hR.obj _ _ hrs
            have hcs := he.cells
            have hone := he.storable hsto
            have hrl : r.length = esz := h1 r (List.mem_of_getElem? hr)
            have hrow : row < rs.length := lt_of_get hr
            have hyl : y.cells.toList.length = n := by rw [← hcs.1]; exact hlen
            have hbound : ∀ j, j < n → L.base id + row * esz + col + j < n' := by
              intro j hj
              have : (row + 1) * esz ≤ rs.length * esz := Nat.mul_le_mul_right _ hrow
              rw [Nat.add_mul, Nat.one_mul] at this
              omega
            have hcell : ∀ j, j < y.cells.toList.length → (w.cell? ⟨L.blk id, L.base id + row * esz + col + 0 + j, none⟩).isSome = true := by
              intro j hj
              obtain ⟨x, hx, _⟩ := h5 row r hr (col + j) _ (List.getElem?_eq_getElem (by omega))
              rw [Nat.add_zero, Nat.add_assoc, hx]; rfl
            have hrun := run_storeCells_cells (P := P) (L.blk id) (L.base id + row * esz + col) y.cells.toList 0 w hcell
              (fun j hj => by rw [Nat.add_zero]; exact h4 _ (hbound j (by omega))) hone
            rw [Nat.add_zero] at hrun
            have hal : Obj.alike (.rows st rs esz) (.rows st (rs.set row (spliceL r col e.cells)) esz) := by simp [Obj.alike]
            have hsz := setCells_size (L.blk id) y.cells.toList (L.base id + row * esz + col) w
            have hne := fun b (hb : b ≠ L.blk id) => setCells_heap_ne (L.blk id) y.cells.toList (L.base id + row * esz + col) w b hb
            have hσ : (s.setRows id st (setL rs row (spliceL r col e.cells)) esz).σ = s.σ.set id (.rows st (rs.set row (spliceL r col e.cells)) esz) := by
              simp [St.setRows, setL_eq]
            have hx := Ext.update hR hrs hal hro (s' := s.setRows id st (setL rs row (spliceL r col e.cells)) esz) hσ rfl (fun _ => rfl) hsz hne (setCells_os _ _ _ _)
            refine ⟨w.setCells (L.blk id) (L.base id + row * esz + col) y.cells.toList, ?_, ?_, hx⟩
            · have hsize : (y.cells.size ≠ n) = False := by
                have : y.cells.toList.length = y.cells.size := by simp
                rw [← this, hyl]; simp
              simp [Instr.storeAt, Instr.sureAddr, storeVar, run_size hE hn, hsize, hrun]
            · refine hR.update hrs hal hσ hsz hne hx ⟨?_, ⟨T, n', ?_, ?_, ?_⟩, ?_⟩
              · intro r' hr'
                rcases List.mem_or_eq_of_mem_set hr' with h | h
                · exact h1 r' h
                · rw [h, splice_len]; exact hrl
              · rw [setCells_shape]; exact h2
              · simpa using h3
              · intro off ho; rw [World.frozen?_setCells]; exact h4 off ho
              · intro i r' hr' j d hd
                rw [List.getElem?_set] at hr'
                by_cases c : row = i
                · subst c
                  simp [hrow] at hr'
                  subst hr'
                  have hj : j < r.length := by have := lt_of_get hd; rwa [splice_len] at this
                  rw [splice_get _ _ _ _ hj] at hd
                  split at hd
                  · rename_i hc
                    have hj' : j - col < y.cells.toList.length := by rw [hyl]; omega
                    refine ⟨y.cells.toList[j - col], ?_, hone _ (List.getElem_mem _), (hcs.2 _ _ _ hd (List.getElem?_eq_getElem hj')).ext hx⟩
                    have := World.cell?_setCells_in (L.blk id) y.cells.toList (L.base id + row * esz + col) w (by simpa using hcell) (j - col) hj'
                    rwa [show L.base id + row * esz + col + (j - col) = L.base id + row * esz + j from by omega] at this
                  · rename_i hc
                    obtain ⟨x, hx1, hx2, hx3⟩ := h5 row r hr j d hd
                    refine ⟨x, ?_, hx2, hx3.ext hx⟩
                    rw [World.cell?_setCells_out _ _ _ _ _ (fun _ _ => by simp only; omega)]
                    exact hx1
                · simp [c] at hr'
                  obtain ⟨x, hx1, hx2, hx3⟩ := h5 i r' hr' j d hd
                  refine ⟨x, ?_, hx2, hx3.ext hx⟩
                  have hjl : j < esz := by rw [← h1 r' (List.mem_of_getElem? hr')]; exact lt_of_get hd
                  rw [World.cell?_setCells_out _ _ _ _ _ (fun _ _ => ?_)]
                  · exact hx1
                  · simp only
                    rcases Nat.lt_or_gt_of_ne c with hlt | hgt
                    · right
                      have : (row + 1) * esz ≤ i * esz := Nat.mul_le_mul_right _ hlt
                      rw [Nat.add_mul, Nat.one_mul] at this
                      omega
                    · left
                      have : (i + 1) * esz ≤ row * esz := Nat.mul_le_mul_right _ hgt
                      rw [Nat.add_mul, Nat.one_mul] at this
                      omega
        · simp at h
      · simp at h
    · simp at h
  · simp at h
#print axioms store_sound
end Go.AM
