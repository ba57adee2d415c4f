/- Operations, one by one: composite values, new memory. -/
import Derived.Test.YthkfhpiamddhoaaGreatAmOps5
set_option autoImplicit false
namespace Go.AM

variable {E : Env} {P : Program} {Φ : Nat → Prop} {L : Lay} {s : St} {w : World}

/-- the cells of a part go over those of a whole -/
theorem fold_rel {cells ds : List D} {xs : Array Value} {l : List Value} {off : Nat} (hr : RelL Φ L s w cells xs.toList) (h1 : ∀ y ∈ xs.toList, y.oneCell' = true) (hd : RelL Φ L s w ds l) (hd1 : ∀ y ∈ l, y.oneCell' = true) (_hle : off + ds.length ≤ cells.length) :
    RelL Φ L s w (spliceL cells off ds) ((l.zipIdx 0).foldl (fun cs (x : Value × Nat) => cs.setIfInBounds (off + x.2) x.1) xs).toList ∧
      (∀ y ∈ ((l.zipIdx 0).foldl (fun cs (x : Value × Nat) => cs.setIfInBounds (off + x.2) x.1) xs).toList, y.oneCell' = true) ∧
      ((l.zipIdx 0).foldl (fun cs (x : Value × Nat) => cs.setIfInBounds (off + x.2) x.1) xs).size = xs.size := by
  obtain ⟨hs, hk⟩ := Great.foldl_set off l 0 xs
  have hlen := hr.1
  have hlen2 : cells.length = xs.size := by rw [hlen]; simp
  refine ⟨⟨by rw [splice_len, hlen]; simp [hs], ?_⟩, ?_, hs⟩
  · intro i d x h1' h2
    have hi : i < cells.length := by have := lt_of_get h1'; rwa [splice_len] at this
    rw [splice_get _ _ _ _ hi] at h1'
    rw [Array.getElem?_toList, hk i] at h2
    simp only [Nat.add_zero] at h2
    by_cases c : off ≤ i ∧ i < off + ds.length
    · rw [if_pos c] at h1'
      rw [if_pos ⟨c.1, by rw [← hd.1]; exact c.2, by omega⟩] at h2
      exact hd.2 _ d x h1' h2
    · rw [if_neg c] at h1'
      rw [if_neg (by rw [← hd.1]; omega)] at h2
      exact hr.2 i d x h1' (by rw [Array.getElem?_toList]; exact h2)
  · intro y hy
    obtain ⟨i, hi⟩ := List.getElem?_of_mem hy
    rw [Array.getElem?_toList, hk i] at hi
    split at hi
    · exact hd1 y (List.mem_of_getElem? hi)
    · exact h1 y (List.mem_of_getElem? (by rw [Array.getElem?_toList]; exact hi))

def PartsRel (Φ : Nat → Prop) (L : Lay) (s : St) (w : World) : List (Nat × D) → List (Nat × Value) → Prop
  | [], [] => True
  | (i, d) :: ds, (j, x) :: xs => i = j ∧ Rel Φ L s w d x ∧ PartsRel Φ L s w ds xs
  | _, _ => False

theorem fill_sound {pl : Nat → Option (Nat × Nat)} : ∀ (parts : List (Nat × D)) (vparts : List (Nat × Value)) (cells : List D) (xs : Array Value) (cells' : List D), PartsRel Φ L s w parts vparts →
    RelL Φ L s w cells xs.toList → (∀ y ∈ xs.toList, y.oneCell' = true) → fillParts pl cells parts = some cells' →
    ∃ ys, Instr.fill pl xs vparts = some ys ∧ RelL Φ L s w cells' ys.toList ∧ (∀ y ∈ ys.toList, y.oneCell' = true)
  | [], [], cells, xs, cells', _, hr, h1, h => by
    simp [fillParts] at h; subst h
    exact ⟨xs, by simp [Instr.fill], hr, h1⟩
  | [], _ :: _, _, _, _, hp, _, _, _ => by simp [PartsRel] at hp
  | _ :: _, [], _, _, _, hp, _, _, _ => by simp [PartsRel] at hp
  | (i, d) :: ds, (j, x) :: vs, cells, xs, cells', hp, hr, h1, h => by
    obtain ⟨rfl, hd, hp⟩ := hp
    simp only [fillParts] at h
    split at h
    · simp at h
    · rename_i off size hpl
      split at h
      · rename_i hc
        obtain ⟨hlen, hle, hsto⟩ := hc
        have hdc := hd.cells
        have hd1 := hd.storable hsto
        have hxl : x.cells.size = size := by
          have : x.cells.toList.length = size := by rw [← hdc.1]; exact hlen
          simpa using this
        obtain ⟨g1, g2, g3⟩ := fold_rel (off := off) hr h1 hdc hd1 (by omega)
        obtain ⟨ys, e1, e2, e3⟩ := fill_sound ds vs _ _ cells' hp g1 g2 h
        refine ⟨ys, ?_, e2, e3⟩
        unfold Instr.fill
        rw [hpl]
        have hcl : cells.length = xs.size := by rw [hr.1]; simp
        simp only
        rw [if_neg (by simp; omega)]
        rw [← e1]
        congr 1
        rw [← Array.foldl_toList, Array.toList_zipIdx]
      · simp at h

theorem places_run (hE : EnvOk E P) : ∀ (fs : List Field) (ps : List (Nat × Nat)), placesOf E fs = some ps → ∀ w, (fs.mapM fun f => (do pure (f.offset, ← sizeOf f.type) : Sem (Nat × Nat))).run P w = .ok ps w
  | [], ps, h, w => by simp [placesOf] at h; subst h; simp
  | f :: fs, ps, h, w => by
    simp only [placesOf] at h
    split at h
    · rename_i n ps' hn hps
      simp at h; subst h
      have ih := places_run hE fs ps' hps w
      rw [List.mapM_cons]
      simp only [Sem.run_bind, run_size hE hn, Result.andThen_ok, Sem.run_pure]
      rw [ih]
      simp
    · simp at h

theorem build_sound (hE : EnvOk E P) {t : TypeId} {parts : List (Nat × D)} {vparts : Array (Nat × Value)} {d : D} (h : buildOp E t parts = some d) (hp : PartsRel Φ L s w parts vparts.toList) :
    ∃ v, (Instr.build t vparts).run P w = .ok v w ∧ Rel Φ L s w d v := by
  unfold buildOp at h
  split at h
  · rename_i z fs hz hd
    split at h
    · rename_i ps hps
      simp only [Option.map_eq_some_iff] at h
      obtain ⟨cells, hf, rfl⟩ := h
      obtain ⟨vz, hrun, hov⟩ := run_zero hE hz
      obtain ⟨hrz, _⟩ := ofValue_rel (Φ := Φ) (L := L) (s := s) (w := w) hov
      obtain ⟨xs, rfl, hrx, hx1⟩ := hrz.agg_inv
      obtain ⟨ys, e1, e2, e3⟩ := fill_sound (pl := getL ps) _ _ _ _ _ hp hrx hx1 hf
      have e0 : (fun x => ps.toArray[x]?) = getL ps := by funext x; rw [getL_eq]; simp
      refine ⟨.agg ys, ?_, by simpa using Rel.agg' e2 e3⟩
      have hpl := places_run hE fs.toList ps hps w
      simp only [Instr.build, Sem.run_bind, hrun, Result.andThen_ok, run_und hE hd]
      rw [show fs = fs.toList.toArray from rfl, List.mapM_toArray]
      simp only [Sem.run_map] at hpl ⊢
      rw [hpl]
      simp only [Result.andThen_ok, Value.cells]
      rw [e0, e1]
      simp
    · simp at h
  · rename_i z n elem hz hd
    split at h
    · rename_i sz hsz
      simp only [Option.map_eq_some_iff] at h
      obtain ⟨cells, hf, rfl⟩ := h
      obtain ⟨vz, hrun, hov⟩ := run_zero hE hz
      obtain ⟨hrz, _⟩ := ofValue_rel (Φ := Φ) (L := L) (s := s) (w := w) hov
      obtain ⟨xs, rfl, hrx, hx1⟩ := hrz.agg_inv
      obtain ⟨ys, e1, e2, e3⟩ := fill_sound _ _ _ _ _ hp hrx hx1 hf
      refine ⟨.agg ys, ?_, by simpa using Rel.agg' e2 e3⟩
      simp only [Instr.build, Sem.run_bind, hrun, Result.andThen_ok, run_und hE hd, run_size hE hsz, Value.cells]
      rw [e1]
      simp
    · simp at h
  · simp at h

def StepOk (P : Program) (Φ : Nat → Prop) (L : Lay) (s : St) (w : World) (m : Sem Value) (d : D) (s' : St) : Prop :=
  ∃ x w' L', m.run P w = .ok x w' ∧ R Φ L' s' w' ∧ Ext Φ L s w L' s' w' ∧ Rel Φ L' s' w' d x

/-- one row of cells, newly laid -/
theorem newRow_ok (hR : R Φ L s w) {cs : List D} {xs : Array Value} (T : TypeId) (hr : RelL Φ L s w cs xs.toList) (h1 : ∀ y ∈ xs.toList, y.oneCell' = true) :
    R Φ (L.add s.σ.length w.heap.size 0) (s.push (.rows · [cs] cs.length)) (w.alloc (.cells xs T)) ∧ Ext Φ L s w (L.add s.σ.length w.heap.size 0) (s.push (.rows · [cs] cs.length)) (w.alloc (.cells xs T)) ∧
      Rel Φ (L.add s.σ.length w.heap.size 0) (s.push (.rows · [cs] cs.length)) (w.alloc (.cells xs T)) (.ref s.σ.length s.clk 0 0) (.pointer (some ⟨w.heap.size, 0, none⟩)) := by
  have hx := Ext.push hR (.rows · [cs] cs.length) (.cells xs T) 0 rfl
  have hlen : cs.length = xs.size := by rw [hr.1]; simp
  refine ⟨?_, hx, ?_⟩
  · refine R.push hR (.rows · [cs] cs.length) (.cells xs T) 0 rfl ?_
    refine ⟨by simp, ⟨T, xs.size, ?_, by simp [hlen], ?_⟩, ?_⟩
    · rw [Lay.add_blk]; simp only [World.shape?, World.alloc, Array.getElem?_push_size]
    · intro off ho; rw [Lay.add_blk]; simp
    · intro i r hi j d hd
      cases i with
      | succ i => simp at hi
      | zero =>
        simp at hi; subst hi
        obtain ⟨y, hy, hry⟩ := hr.get hd
        refine ⟨y, ?_, h1 y (List.mem_of_getElem? hy), hry.ext hx⟩
        rw [Lay.add_blk, Lay.add_base]
        simp only [Nat.zero_mul, Nat.zero_add]
        rw [World.cell?_alloc_new]
        rw [Array.getElem?_toList] at hy
        exact hy
  · refine .ref (by simp [St.push, St.knows]) (fun rs esz h => ?_)
    simp

theorem alloc_sound (hE : EnvOk E P) (hR : R Φ L s w) {t : TypeId} {z : D} (hz : E.zero t = some z) (hsz : z.storable = true) :
    StepOk P Φ L s w (Instr.alloc t true (.tuple #[])) (.ref s.σ.length s.clk 0 0) (s.push (.rows · [z.cells] z.cells.length)) := by
  obtain ⟨vz, hrun, hov⟩ := run_zero hE hz
  obtain ⟨hrz, _⟩ := ofValue_rel (Φ := Φ) (L := L) (s := s) (w := w) hov
  obtain ⟨h1, h2, h3⟩ := newRow_ok hR t hrz.cells (hrz.storable hsz)
  refine ⟨_, _, _, ?_, h1, h2, h3⟩
  simp [Instr.alloc, hrun, newVar, newRow]

theorem box_sound (hR : R Φ L s w) {t : TypeId} {d : D} {x : Value} (hd : Rel Φ L s w d x) (hs : d.storable = true) :
    StepOk P Φ L s w (Instr.box t x) (.ref s.σ.length s.clk 0 0) (s.push (.rows · [d.cells] d.cells.length)) := by
  obtain ⟨h1, h2, h3⟩ := newRow_ok hR t hd.cells (hd.storable hs)
  refine ⟨_, _, _, ?_, h1, h2, h3⟩
  simp [Instr.box, newVar, newRow]

theorem PartsRel.zip : ∀ (parts : List (Nat × D)) (vparts : List (Nat × Value)), PartsRel Φ L s w parts vparts → parts.length = vparts.length
  | [], [], _ => rfl
  | [], _ :: _, h => by simp [PartsRel] at h
  | _ :: _, [], h => by simp [PartsRel] at h
  | (_, _) :: ds, (_, _) :: vs, h => by simp [PartsRel.zip ds vs h.2.2]

/-- parts in order, each of one size: rows -/
theorem rowsOfParts_sound {sz : Nat} : ∀ (parts : List (Nat × D)) (k : Nat) (vparts : List (Nat × Value)) (rs : List (List D)), rowsOfParts sz k parts = some rs → PartsRel Φ L s w parts vparts →
    ∃ vs : List Value, vparts = (vs.zipIdx k).map (fun x => (x.2, x.1)) ∧ vs.length = rs.length ∧ (∀ v ∈ vs, v.cells.size = sz) ∧ (∀ r ∈ rs, r.length = sz) ∧
      ∀ (i : Nat) (r : List D), rs[i]? = some r → ∃ v, vs[i]? = some v ∧ RelL Φ L s w r v.cells.toList ∧ ∀ y ∈ v.cells.toList, y.oneCell' = true
  | [], k, [], rs, h, _ => by simp [rowsOfParts] at h; subst h; exact ⟨[], rfl, rfl, by simp, by simp, by simp⟩
  | [], _, _ :: _, _, _, hp => by simp [PartsRel] at hp
  | _ :: _, _, [], _, _, hp => by simp [PartsRel] at hp
  | (i, d) :: ds, k, (j, x) :: vps, rs, h, hp => by
    obtain ⟨rfl, hd, hp⟩ := hp
    simp only [rowsOfParts] at h
    split at h
    · rename_i hc
      obtain ⟨rfl, hlen, hsto⟩ := hc
      simp only [Option.map_eq_some_iff] at h
      obtain ⟨rs', h', rfl⟩ := h
      obtain ⟨vs, e1, e2, e3, e4, e5⟩ := rowsOfParts_sound ds (i + 1) vps rs' h' hp
      have hdc := hd.cells
      refine ⟨x :: vs, by simp [e1], by simp [e2], ?_, ?_, ?_⟩
      · intro v hv
        simp at hv
        rcases hv with rfl | hv
        · have : v.cells.toList.length = sz := by rw [← hdc.1]; exact hlen
          simpa using this
        · exact e3 v hv
      · intro r hr
        simp at hr
        rcases hr with rfl | hr
        · exact hlen
        · exact e4 r hr
      · intro m r hr
        cases m with
        | zero => simp at hr; subst hr; exact ⟨x, by simp, hdc, hd.storable hsto⟩
        | succ m => simp at hr; simpa using e5 m r hr
    · simp at h

/-- rows of an array, newly laid -/
theorem newRows_ok (hR : R Φ L s w) {rs : List (List D)} {sz : Nat} {xs : Array Value} (T : TypeId) (hsz : ∀ r ∈ rs, r.length = sz) (hn : rs.length * sz ≤ xs.size)
    (hr : ∀ (i : Nat) (r : List D), rs[i]? = some r → ∀ (j : Nat) (d : D), r[j]? = some d → ∃ y, xs[i * sz + j]? = some y ∧ y.oneCell' = true ∧ Rel Φ L s w d y) (len c : Nat) (hlen : len = rs.length) (hc : len ≤ c) :
    R Φ (L.add s.σ.length w.heap.size 0) (s.push (.rows · rs sz)) (w.alloc (.cells xs T)) ∧ Ext Φ L s w (L.add s.σ.length w.heap.size 0) (s.push (.rows · rs sz)) (w.alloc (.cells xs T)) ∧
      Rel Φ (L.add s.σ.length w.heap.size 0) (s.push (.rows · rs sz)) (w.alloc (.cells xs T)) (.osl s.σ.length s.clk 0 len) (.slice (some ⟨w.heap.size, 0, none⟩) len c) := by
  have hx := Ext.push hR (.rows · rs sz) (.cells xs T) 0 rfl
  refine ⟨?_, hx, ?_⟩
  · refine R.push hR (.rows · rs sz) (.cells xs T) 0 rfl ?_
    refine ⟨hsz, ⟨T, xs.size, ?_, by simpa using hn, ?_⟩, ?_⟩
    · rw [Lay.add_blk]; simp only [World.shape?, World.alloc, Array.getElem?_push_size]
    · intro off ho; rw [Lay.add_blk]; simp
    · intro i r hi j d hd
      obtain ⟨y, hy, h1, hry⟩ := hr i r hi j d hd
      refine ⟨y, ?_, h1, hry.ext hx⟩
      rw [Lay.add_blk, Lay.add_base]
      simp only [Nat.zero_add]
      rw [World.cell?_alloc_new]
      exact hy
  · refine .osl (by simp [St.push, St.knows]) hc (fun rs' esz h => ?_)
    have : (s.push (.rows · rs sz)).σ[s.σ.length]? = some (.rows s.clk rs sz) := by simp [St.push]
    rw [this] at h
    simp at h
    obtain ⟨rfl, rfl⟩ := h
    exact ⟨by omega, by omega, rfl, by simp, .inr (by simp)⟩

theorem flat_get' {vs : List Value} {sz : Nat} (hs : 0 < sz) (h : ∀ v ∈ vs, v.cells.size = sz) {i j : Nat} {v : Value} (hi : vs[i]? = some v) (hj : j < sz) : (vs.flatMap fun v => v.cells.toList)[i * sz + j]? = v.cells[j]? := by
  rw [Great.flat_get hs vs h]
  have e1 : (i * sz + j) / sz = i := by rw [Nat.mul_comm, Nat.mul_add_div hs, Nat.div_eq_of_lt hj]; simp
  have e2 : (i * sz + j) % sz = j := by rw [Nat.mul_comm, Nat.mul_add_mod, Nat.mod_eq_of_lt hj]
  rw [e1, e2, hi]; rfl

theorem flat_len {vs : List Value} {sz : Nat} (h : ∀ v ∈ vs, v.cells.size = sz) : (vs.flatMap fun v => v.cells.toList).length = vs.length * sz := by
  induction vs with
  | nil => simp
  | cons v vs ih =>
    rw [List.flatMap_cons, List.length_append, ih (fun u hu => h u (List.mem_cons_of_mem _ hu))]
    have := h v List.mem_cons_self
    simp [Nat.add_mul, this]; omega

theorem buildSlice_sound (hE : EnvOk E P) (hR : R Φ L s w) {own : Bool} {t : TypeId} {len : Nat} {parts : List (Nat × D)} {vparts : Array (Nat × Value)} {d : D} {s' : St} (h : buildSliceOp E own s t len parts = some (d, s')) (hp : PartsRel Φ L s w parts vparts.toList) :
    StepOk P Φ L s w (Instr.buildSlice t len vparts) d s' := by
  unfold buildSliceOp at h
  split at h
  · rename_i elem hd
    split at h
    · rename_i sz hsz
      split at h
      · rename_i z hz
        split at h
        · rename_i hc
          obtain ⟨hsmall, hpos, hlen, hzl⟩ := hc
          split at h
          · rename_i rs hrs
            obtain ⟨vs, e1, e2, e3, e4, e5⟩ := rowsOfParts_sound (Φ := Φ) (L := L) (s := s) (w := w) parts 0 vparts.toList rs hrs hp
            have hpl := PartsRel.zip _ _ hp
            have hvl : vs.length = len := by
              rw [← hlen, hpl, e1]; simp
            obtain ⟨vz, hrun, hov⟩ := run_zero hE hz
            have hzr := (ofValue_rel (Φ := Φ) (L := L) (s := s) (w := w) hov).1.cells
            have hzsz : vz.cells.size = sz := by
              have : vz.cells.toList.length = sz := by rw [← hzr.1]; exact hzl
              simpa using this
            have hflen := flat_len e3
            have hrun : (Instr.buildSlice t len vparts).run P w = .ok (.slice (some ⟨w.heap.size, 0, none⟩) len len) (w.alloc (.cells (vs.flatMap fun v => v.cells.toList).toArray elem)) := by
              have hz0 : len * sz = 0 → len = 0 := fun h => by
                rcases Nat.mul_eq_zero.1 h with h | h
                · exact h
                · omega
              have hfill := Great.fill_whole hpos vs ((Array.range (len * sz)).map (vz.cells[· % vz.cells.size]!)) e3 (by simp [hvl])
              by_cases h0 : len * sz = 0
              · have hl0 := hz0 h0
                have hvs : vs = [] := by cases vs with | nil => rfl | cons a b => simp at hvl; omega
                have hvp : vparts.toList = [] := by rw [e1, hvs]; rfl
                simp only [Instr.buildSlice, Sem.run_bind, run_und hE hd, run_size hE hsz, Result.andThen_ok]
                have hr0 : Array.range 0 = #[] := by apply Array.ext'; simp
                rw [if_neg (by omega), h0, hvp, hvs, hl0]
                simp [Instr.fill, newRow, hr0]
              · simp only [Instr.buildSlice, Sem.run_bind, run_und hE hd, run_size hE hsz, Result.andThen_ok]
                rw [if_neg (by omega)]
                simp only [h0, if_false, Sem.run_bind, hrun, Result.andThen_ok, Sem.run_pure]
                rw [e1, hfill]
                simp [newRow]
            have hrows : ∀ (i : Nat) (r : List D), rs[i]? = some r → ∀ (j : Nat) (d : D), r[j]? = some d → ∃ y, (vs.flatMap fun v => v.cells.toList).toArray[i * sz + j]? = some y ∧ y.oneCell' = true ∧ Rel Φ L s w d y := by
              intro i r hr j d hd'
              obtain ⟨v, hv, hrv, hv1⟩ := e5 i r hr
              obtain ⟨y, hy, hry⟩ := hrv.get hd'
              have hj : j < sz := by rw [← e4 r (List.mem_of_getElem? hr)]; exact lt_of_get hd'
              refine ⟨y, ?_, hv1 y (List.mem_of_getElem? hy), hry⟩
              rw [Array.getElem?_toList] at hy
              simpa [flat_get' hpos e3 hv hj] using hy
            have hn : rs.length * sz ≤ (vs.flatMap fun v => v.cells.toList).toArray.size := by simp [hflen, e2]
            split at h
            · rename_i hcond
              simp at h
              obtain ⟨rfl, rfl⟩ := h
              -- by value: the block is nobody's
              have hheap : ∀ b, b < w.heap.size → (w.alloc (.cells (vs.flatMap fun v => v.cells.toList).toArray elem)).heap[b]? = w.heap[b]? := by
                intro b hb
                simp only [World.alloc]
                rw [Array.getElem?_push_lt hb, Array.getElem?_eq_getElem hb]
              have hxw : Ext Φ L s w L s (w.alloc (.cells (vs.flatMap fun v => v.cells.toList).toArray elem)) := Ext.still hR (by simp) hheap ⟨rfl, rfl, rfl⟩
              have hown : ¬ Go.AM.own Φ L s w.heap.size := by
                rintro (hb | ⟨id, o, ho, hl, hb⟩)
                · have := hR.fresh _ hb; omega
                · have := (hR.out id o ho hl).1; omega
              refine ⟨_, _, L, hrun, ?_, hxw, ?_⟩
              · exact hR.still hxw (fun id o ho hl => hheap _ (hR.out id o ho hl).1)
              · refine .sl (n := sz) (fun i j => ((vs.flatMap fun v => v.cells.toList).toArray[i * sz + j]?).getD undef) (fun _ => rfl) (fun _ => hown) (fun _ => by simp) (by omega) (Nat.le_refl _) (by simp) e4 ?_ ?_ hcond.1
                · intro i r hr j d hd'
                  obtain ⟨y, hy, h1, _⟩ := hrows i r hr j d hd'
                  simp only [Nat.zero_add]
                  rw [World.cell?_alloc_new, hy]
                  exact ⟨rfl, h1⟩
                · intro i r hr j d hd'
                  obtain ⟨y, hy, _, h2⟩ := hrows i r hr j d hd'
                  simp only [hy, Option.getD_some]
                  exact h2.ext hxw
            · simp at h
              obtain ⟨rfl, rfl⟩ := h
              obtain ⟨h1, h2, h3⟩ := newRows_ok hR elem e4 hn hrows len len (by omega) (Nat.le_refl _)
              exact ⟨_, _, _, hrun, h1, h2, h3⟩
          · simp at h
        · simp at h
      · simp at h
    · simp at h
  · simp at h
#print axioms buildSlice_sound
end Go.AM
