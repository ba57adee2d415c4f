/- The walk of code: what is handed over; the modes of a call; rounds; all calls. -/
import Derived.Test.YthkfhpiamddhoaaGreatAmCall
set_option autoImplicit false
namespace Go.AM

variable {E : Env} {P : Program} {K : Kall} {Φ : Nat → Prop} {L : Lay} {s : St} {w : World} {F : Fence} {n : Nat}

theorem allL_spec {f : D → Option D} : ∀ (ds es : List D), allL f ds = some es → es.length = ds.length ∧ ∀ (i : Nat) (e : D), es[i]? = some e → ∃ d, ds[i]? = some d ∧ f d = some e
  | [], es, h => by simp [allL] at h; subst h; simp
  | d :: ds, es, h => by
    simp only [allL] at h
    split at h
    · rename_i e es' he hes
      simp at h; subst h
      obtain ⟨h1, h2⟩ := allL_spec ds es' hes
      refine ⟨by simp [h1], ?_⟩
      intro i x hx
      cases i with
      | zero => simp at hx; subst hx; exact ⟨d, rfl, he⟩
      | succ i => simp at hx; exact h2 i x hx
    · simp at h
theorem allR_spec {f : D → Option D} : ∀ (ds es : List (List D)), allR f ds = some es → es.length = ds.length ∧ ∀ (i : Nat) (e : List D), es[i]? = some e → ∃ d, ds[i]? = some d ∧ allL f d = some e
  | [], es, h => by simp [allR] at h; subst h; simp
  | d :: ds, es, h => by
    simp only [allR] at h
    split at h
    · rename_i e es' he hes
      simp at h; subst h
      obtain ⟨h1, h2⟩ := allR_spec ds es' hes
      refine ⟨by simp [h1], ?_⟩
      intro i x hx
      cases i with
      | zero => simp at hx; subst hx; exact ⟨d, rfl, he⟩
      | succ i => simp at hx; exact h2 i x hx
    · simp at h

theorem upto_get {s : St} {n0 k : Nat} {o : Obj} (h : (s.upto n0).σ[k]? = some o) : k < n0 ∧ s.σ[k]? = some o := by
  simp only [St.upto, List.getElem?_take] at h
  split at h
  · exact ⟨by assumption, h⟩
  · simp at h

theorem upto_own {n0 b : Nat} (h : own Φ L (s.upto n0) b) : own Φ L s b := by
  rcases h with h | ⟨id, o, ho, hl, hb⟩
  · exact .inl h
  · exact .inr ⟨id, o, (upto_get ho).2, hl, hb⟩

theorem upto_keeps (n0 : Nat) : Keeps Φ L s w Φ L (s.upto n0) w where
  size := Nat.le_refl _
  cells := fun _ _ _ => rfl
  owns := fun _ _ h => upto_own h
  knows := fun id st h => ⟨h.1, fun e => h.2 (upto_get e).2⟩
  old := fun _ o h hl _ => ⟨o, (upto_get h).2, hl, Obj.alike_refl hl, rfl, rfl⟩

/-- what lay in memory that is given up is by value from now on -/
theorem frz_sound (hR : R Φ L s w) {n0 : Nat} : ∀ (k : Nat) (d d' : D) (x : Value), frz s n0 k d = some d' → Rel Φ L s w d x → Rel Φ L (s.upto n0) w d' x
  | 0, d, d', x, h, _ => by simp [frz] at h
  | k + 1, d, d', x, h, hx => by
    have lst : ∀ (cs es : List D) (xs : Array Value), allL (frz s n0 k) cs = some es → cs.length = xs.size → (∀ (i : Nat) (d : D) (x : Value), cs[i]? = some d → xs[i]? = some x → Rel Φ L s w d x) →
        es.length = xs.size ∧ ∀ (i : Nat) (d : D) (x : Value), es[i]? = some d → xs[i]? = some x → Rel Φ L (s.upto n0) w d x := by
      intro cs es xs ha hn hr
      obtain ⟨h1, h2⟩ := allL_spec _ _ ha
      refine ⟨by omega, ?_⟩
      intro i d x hd hxx
      obtain ⟨e, he, hf⟩ := h2 i d hd
      exact frz_sound hR k e d x hf (hr i e x he hxx)
    unfold frz at h
    split at h
    · rename_i id st off len
      split at h
      · simp at h; subst h; exact hx.keep (upto_keeps n0)
      · rename_i hge
        split at h
        · rename_i hmine
          split at h
          · rename_i rs hrs
            split at h
            · rename_i rs' hrs'
              split at h
              · rename_i hid
                simp at h; subst h
                obtain ⟨hlen, hget⟩ := allR_spec _ _ hrs'
                simp only [slRows] at hrs
                cases hro : s.rowsOf id st with
                | none => rw [hro] at hrs; simp at hrs
                | some p =>
                  obtain ⟨rs0, esz⟩ := p
                  rw [hro] at hrs
                  simp only [Option.bind_some] at hrs
                  split at hrs
                  · rename_i hfit
                    simp at hrs
                    rw [St.rowsOf_some] at hro
                    cases hx with
                    | @osl _ _ _ _ c a hst hc hadr =>
                      obtain ⟨h1, h2, h3, h4, h5⟩ := hadr _ _ hro
                      obtain ⟨g1, ⟨T, m, g2, g3, g4⟩, g5⟩ := hR.obj _ _ hro
                      have hout := hR.out _ _ hro rfl
                      have hl : rs.length = len := by rw [← hrs]; simp; omega
                      have hrow : ∀ (i : Nat) (r : List D), rs[i]? = some r → i < len ∧ rs0[off + i]? = some r := by
                        intro i r hr
                        have hi := lt_of_get hr
                        rw [hl] at hi
                        rw [← hrs, List.getElem?_take, if_pos hi, List.getElem?_drop] at hr
                        exact ⟨hi, hr⟩
                      refine .sl (n := esz) (fun i j => (w.cell? ⟨a.block, a.off + i * esz + j, none⟩).getD undef) (fun _ => h3) (fun _ => ?_) (fun _ => by rw [h4]; exact hout.1) (by omega) hc (by simp) ?_ ?_ ?_ hid
                      · rw [h4]
                        rintro (hb | ⟨id', o', ho', hl', hb⟩)
                        · exact hout.2.1 hmine hb
                        · obtain ⟨hlt, ho'⟩ := upto_get ho'
                          have := hR.inj id' id o' _ ho' hro hl' rfl hb
                          omega
                      · intro r hr
                        obtain ⟨i, hi⟩ := List.getElem?_of_mem hr
                        obtain ⟨r0, hr0, ha⟩ := hget i r hi
                        rw [(allL_spec _ _ ha).1]
                        exact g1 r0 (List.mem_of_getElem? (hrow i r0 hr0).2)
                      · intro i r hr j d hd
                        obtain ⟨r0, hr0, ha⟩ := hget i r hr
                        obtain ⟨e, he, hf⟩ := (allL_spec _ _ ha).2 j d hd
                        obtain ⟨hi, hr1⟩ := hrow i r0 hr0
                        obtain ⟨y, hy, hy1, hyr⟩ := g5 _ _ hr1 j e he
                        have ha5 : a.off = L.base id + off * esz := by
                          rcases h5 with h5 | h5
                          · omega
                          · exact h5
                        have e1 : a.off + i * esz + j = L.base id + (off + i) * esz + j := by rw [ha5, Nat.add_mul]; omega
                        simp only [h4, e1, hy, Option.getD_some]
                        exact ⟨trivial, hy1⟩
                      · intro i r hr j d hd
                        obtain ⟨r0, hr0, ha⟩ := hget i r hr
                        obtain ⟨e, he, hf⟩ := (allL_spec _ _ ha).2 j d hd
                        obtain ⟨hi, hr1⟩ := hrow i r0 hr0
                        obtain ⟨y, hy, hy1, hyr⟩ := g5 _ _ hr1 j e he
                        have ha5 : a.off = L.base id + off * esz := by
                          rcases h5 with h5 | h5
                          · omega
                          · exact h5
                        have e1 : a.off + i * esz + j = L.base id + (off + i) * esz + j := by rw [ha5, Nat.add_mul]; omega
                        simp only [h4, e1, hy, Option.getD_some]
                        exact frz_sound hR k e d y hf hyr
                  · simp at hrs
              · simp at h
            · simp at h
          · simp at h
        · simp at h
    · rename_i cs
      simp only [Option.map_eq_some_iff] at h
      obtain ⟨es, ha, rfl⟩ := h
      cases hx with
      | @agg _ xs hn h1 hr =>
        obtain ⟨e1, e2⟩ := lst _ _ _ ha hn hr
        exact .agg e1 h1 e2
    · rename_i cs
      simp only [Option.map_eq_some_iff] at h
      obtain ⟨es, ha, rfl⟩ := h
      cases hx with
      | @tup _ xs hn hr =>
        obtain ⟨e1, e2⟩ := lst _ _ _ ha hn hr
        exact .tup e1 e2
    · simp only [Option.map_eq_some_iff] at h
      obtain ⟨e, he, rfl⟩ := h
      cases hx with
      | ifc hr => exact .ifc (frz_sound hR k _ _ _ he hr)
    · simp at h; subst h; exact hx.keep (upto_keeps n0)
#print axioms frz_sound

/-- what an object stands for, where its values go on standing and its block has not been touched -/
theorem ObjOk.keep {Φ' : Nat → Prop} {id : Nat} {o : Obj} {s' : St} {w' : World} {L' : Lay} (h : ObjOk Φ L s w id o) (hx : Keeps Φ L s w Φ' L' s' w') (hok : L'.ok = L.ok) (hclk : s.clk ≤ s'.clk) (hb : L'.blk id = L.blk id) (hbase : L'.base id = L.base id)
    (hw : o.live = true → w'.heap[L.blk id]? = w.heap[L.blk id]?) : ObjOk Φ' L' s' w' id o := by
  cases o with
  | rows st rs esz =>
    have hw := hw rfl
    obtain ⟨h1, ⟨T, n, h2, h3, h4⟩, h5⟩ := h
    refine ⟨h1, ⟨T, n, ?_, ?_, ?_⟩, ?_⟩
    · rw [hb]; simpa [World.shape?, hw] using h2
    · rw [hbase]; exact h3
    · intro off ho; rw [hb]; have := h4 off ho; simpa [World.frozen?, hw] using this
    · intro i r hr j d hd
      obtain ⟨x, hx1, hx2, hx3⟩ := h5 i r hr j d hd
      refine ⟨x, ?_, hx2, hx3.keep hx⟩
      rw [hb, hbase]; simpa [World.cell?, hw] using hx1
  | map st es =>
    have hw := hw rfl
    obtain ⟨en, ck, h1, h2, h3⟩ := h
    exact ⟨en, ck, by rw [hb, hw]; exact h1, h2, fun i p e hp he => ⟨(h3 i p e hp he).1.keep hx, (h3 i p e hp he).2.keep hx⟩⟩
  | loop st l =>
    have hw := hw rfl
    obtain ⟨lp, h1, h2, h3, h4, h5, h6, h7, h8⟩ := h
    exact ⟨lp, by rw [hb, hw]; exact h1, h2, h3, h4, h5, h6, by rw [hok]; exact h7, h8.keep hx⟩
  | dfr st => show w'.heap[L'.blk id]? = _; rw [hb, hw rfl]; exact h
  | dead => trivial
  | resv st => exact Nat.lt_of_lt_of_le h hclk

/-- the later objects are given up -/
theorem upto_R (hR : R Φ L s w) (n0 : Nat) : R Φ L (s.upto n0) w where
  obj := fun id o ho => (hR.obj id o (upto_get ho).2).keep (upto_keeps n0) rfl (Nat.le_refl _) rfl rfl (fun _ => rfl)
  inj := fun id id' o o' h h' hl hl' e => hR.inj id id' o o' (upto_get h).2 (upto_get h').2 hl hl' e
  out := fun id o h hl => hR.out id o (upto_get h).2 hl
  fresh := hR.fresh

theorem upto_Ext (n0 : Nat) : Ext Φ L s w L (s.upto n0) w where
  size := Nat.le_refl _
  cells := fun _ _ _ => rfl
  kept := fun _ _ => rfl
  owns := fun b h => .inl (upto_own h)
  clk := Nat.le_refl _
  knows := (upto_keeps (Φ := Φ) (L := L) (s := s) (w := w) n0).knows
  ok := rfl
  old := (upto_keeps (Φ := Φ) (L := L) (s := s) (w := w) n0).old
  mine := fun _ => rfl
  new := fun _ o h hl => .inl ⟨o, (upto_get h).2, hl, rfl⟩
  os := rfl
  tape := rfl
  output := rfl

/-- a body that may touch nothing of what there is: what it leaves behind beside the old store -/
theorem foreign_still {Φ' : Nat → Prop} (hR : R Φ L s w) (hΦ : ∀ b, Φ' b ↔ own Φ L s b) {L₀ L' : Lay} {s₀ s' : St} {w' : World} (h0 : ∀ b, own Φ' L₀ s₀ b → own Φ L s b) (hx : Ext Φ' L₀ s₀ w L' s' w') :
    Ext Φ L s w L s w' ∧ R Φ L s w' := by
  have hs : ∀ b, own Φ L s b → w'.heap[b]? = w.heap[b]? := fun b hb => hx.kept b ((hΦ b).2 hb)
  have e : Ext Φ L s w L s w' := by
    refine ⟨hx.size, fun b hb hno => hx.cells b hb (fun h => hno (h0 b h)), fun b hb => hs b (.inl hb), fun b hb => .inl hb, Nat.le_refl _, fun _ _ h => h, rfl, fun _ o ho hl _ => ⟨o, ho, hl, Obj.alike_refl hl, rfl, rfl⟩, fun _ => rfl, fun _ o ho hl => .inl ⟨o, ho, hl, rfl⟩, hx.os, hx.tape, hx.output⟩
  exact ⟨e, hR.still e (fun id o ho hl => hs _ (.inr ⟨id, o, ho, hl, rfl⟩))⟩

/-- the blocks of the store, as somebody else's: an empty store beside -/
theorem empty_R (hR : R Φ L s w) : R (own Φ L s) L .empty w where
  obj := fun id o h => by simp [St.empty] at h
  inj := fun id id' o o' h => by simp [St.empty] at h
  out := fun id o h => by simp [St.empty] at h
  fresh := by
    rintro b (h | ⟨id, o, ho, hl, rfl⟩)
    · exact hR.fresh b h
    · exact (hR.out id o ho hl).1
theorem empty_own {Φ : Nat → Prop} {L : Lay} {b : Nat} (h : own Φ L .empty b) : Φ b := by
  rcases h with h | ⟨id, o, ho, _⟩
  · exact h
  · simp [St.empty] at ho

/-- the store, read only -/
theorem ro_R (hR : R Φ L s w) : R (own Φ L s) L { s with ro := s.σ.length } w := by
  have hk : Keeps Φ L s w (own Φ L s) L { s with ro := s.σ.length } w :=
    ⟨Nat.le_refl _, fun _ _ _ => rfl, fun b _ h => by
      rcases h with h | ⟨id, o, ho, hl, hb⟩
      · exact h
      · exact .inr ⟨id, o, ho, hl, hb⟩, fun _ _ h => h, fun _ o ho hl _ => ⟨o, ho, hl, Obj.alike_refl hl, rfl, rfl⟩⟩
  refine ⟨fun id o ho => (hR.obj id o ho).keep hk rfl (Nat.le_refl _) rfl rfl (fun _ => rfl), hR.inj, ?_, ?_⟩
  · intro id o ho hl
    have := hR.out id o ho hl
    refine ⟨this.1, fun hm => ?_, this.2.2⟩
    have h1 : id < s.σ.length := lt_of_get ho
    simp [St.mine] at hm
    omega
  · rintro b (h | ⟨id, o, ho, hl, rfl⟩)
    · exact hR.fresh b h
    · exact (hR.out id o ho hl).1
/-! ### What was locked -/
theorem memN_iff {x : Nat} : ∀ {l : List Nat}, memN x l = true ↔ x ∈ l
  | [] => by simp [memN]
  | y :: ys => by simp [memN, memN_iff (l := ys)]

theorem restore_spec {σ₀ σ : List Obj} : ∀ {h : List Nat} {σ' : List Obj}, restore σ₀ σ h = some σ' → σ'.length = σ.length ∧
    (∀ k, k ∈ h → ∃ st rs esz rs' esz', σ₀[k]? = some (.rows st rs esz) ∧ σ[k]? = some (.rows st rs' esz') ∧ σ'[k]? = some (.rows st rs esz)) ∧ ∀ k, k ∉ h → σ'[k]? = σ[k]?
  | [], σ', h => by simp [restore] at h; subst h; simp
  | i :: is, σ', h => by
    simp only [restore] at h
    split at h
    · rename_i σ₁ hσ₁
      obtain ⟨h1, h2, h3⟩ := restore_spec hσ₁
      split at h
      · rename_i st rs esz st' rs' esz' e0 e1
        split at h
        · rename_i hst
          subst hst
          simp at h; subst h
          rw [getL_eq] at e0 e1
          rw [setL_eq]
          have hi := lt_of_get e1
          refine ⟨by simp [h1], ?_, ?_⟩
          · intro k hk
            by_cases c : k = i
            · subst c
              have : ∃ rs' esz', σ[k]? = some (.rows st rs' esz') := by
                by_cases ck : k ∈ is
                · obtain ⟨st2, rs2, esz2, rs3, esz3, g1, g2, g3⟩ := h2 k ck
                  rw [g1] at e0
                  simp at e0
                  obtain ⟨rfl, rfl, rfl⟩ := e0
                  exact ⟨_, _, g2⟩
                · rw [h3 k ck] at e1; exact ⟨_, _, e1⟩
              obtain ⟨rs3, esz3, g⟩ := this
              exact ⟨st, rs, esz, rs3, esz3, e0, g, by simp [hi]⟩
            · simp [c] at hk
              obtain ⟨st2, rs2, esz2, rs3, esz3, g1, g2, g3⟩ := h2 k hk
              exact ⟨st2, rs2, esz2, rs3, esz3, g1, g2, by rw [List.getElem?_set_ne (Ne.symm c)]; exact g3⟩
          · intro k hk
            simp at hk
            rw [List.getElem?_set_ne (Ne.symm hk.1)]
            exact h3 k hk.2
        · simp at h
      · simp at h
    · simp at h

/-- a call that may not write some objects: they stand as they stood -/
theorem locked_ok (hR : R Φ L s w) {h : List Nat} {L' : Lay} {s' : St} {w' : World} {σ : List Obj} (hr : restore s.σ s'.σ h = some σ)
    (hR' : R (fun b => Φ b ∨ ∃ i o, i ∈ h ∧ s.σ[i]? = some o ∧ o.live = true ∧ L.blk i = b) L' s' w') (hx : Ext (fun b => Φ b ∨ ∃ i o, i ∈ h ∧ s.σ[i]? = some o ∧ o.live = true ∧ L.blk i = b) L { s with lk := h ++ s.lk } w L' s' w') :
    R Φ L' { s with σ := σ, clk := s'.clk } w' ∧ Ext Φ L s w L' { s with σ := σ, clk := s'.clk } w' ∧ Keeps (fun b => Φ b ∨ ∃ i o, i ∈ h ∧ s.σ[i]? = some o ∧ o.live = true ∧ L.blk i = b) L' s' w' Φ L' { s with σ := σ, clk := s'.clk } w' := by
  obtain ⟨_, hh, hn⟩ := restore_spec hr
  have hof : ∀ b, own (fun b => Φ b ∨ ∃ i o, i ∈ h ∧ s.σ[i]? = some o ∧ o.live = true ∧ L.blk i = b) L { s with lk := h ++ s.lk } b → own Φ L s b := by
    rintro b ((hb | ⟨i, o, _, ho, hl, hb⟩) | ⟨i, o, ho, hl, hb⟩)
    · exact .inl hb
    · exact .inr ⟨i, o, ho, hl, hb⟩
    · exact .inr ⟨i, o, ho, hl, hb⟩
  -- a locked object, before and after
  have hk : ∀ k, k ∈ h → ∃ st rs esz rs', s.σ[k]? = some (.rows st rs esz) ∧ s'.σ[k]? = some (.rows st rs' esz) ∧ σ[k]? = some (.rows st rs esz) ∧ rs.length = rs'.length ∧ L'.blk k = L.blk k ∧ L'.base k = L.base k := by
    intro k hkh
    obtain ⟨st, rs, esz, rs', esz', g1, g2, g3⟩ := hh k hkh
    have hst := (hR.out k _ g1 rfl).2.2
    obtain ⟨o, q1, q2, q3, q4, q5⟩ := hx.old k _ g2 rfl ⟨hst, by show s.σ[k]? ≠ _; rw [g1]; simp⟩
    have q1 : s.σ[k]? = some o := q1
    rw [g1] at q1
    simp at q1; subst q1
    simp [Obj.alike] at q3
    obtain ⟨q6, rfl⟩ := q3
    exact ⟨st, rs, esz, rs', g1, g2, g3, q6, q4, q5⟩
  -- an object of the store that we go on with, in the callee's
  have back : ∀ (k : Nat) (o : Obj), σ[k]? = some o → ∃ o', s'.σ[k]? = some o' ∧ o'.live = o.live ∧ o'.st = o.st ∧ (o.live = true → o'.alike o) ∧ (o.live = false → o' = o) := by
    intro k o ho
    by_cases c : k ∈ h
    · obtain ⟨st, rs, esz, rs', g1, g2, g3, g4, _, _⟩ := hk k c
      rw [g3] at ho; simp at ho; subst ho
      exact ⟨_, g2, rfl, rfl, fun _ => by simp [Obj.alike, g4], fun h => by simp [Obj.live] at h⟩
    · rw [hn k c] at ho
      exact ⟨o, ho, rfl, rfl, fun hl => Obj.alike_refl hl, fun _ => rfl⟩
  have kp : Keeps (fun b => Φ b ∨ ∃ i o, i ∈ h ∧ s.σ[i]? = some o ∧ o.live = true ∧ L.blk i = b) L' s' w' Φ L' { s with σ := σ, clk := s'.clk } w' := by
    refine ⟨Nat.le_refl _, fun _ _ _ => rfl, ?_, ?_, ?_⟩
    · rintro b _ (hb | ⟨k, o, ho, hl, hb⟩)
      · exact .inl (.inl hb)
      · obtain ⟨o', g1, g2, _, _⟩ := back k o ho
        exact .inr ⟨k, o', g1, by rw [g2]; exact hl, hb⟩
    · intro id st hkn
      refine ⟨hkn.1, fun e => ?_⟩
      obtain ⟨o', g1, _, _, _, g5⟩ := back id _ e
      rw [g5 rfl] at g1
      exact hkn.2 g1
    · intro id o ho hl _
      obtain ⟨o', g1, g2, _, g4, _⟩ := back id o ho
      exact ⟨o', g1, by rw [g2]; exact hl, g4 hl, rfl, rfl⟩
  have ex : Ext Φ L s w L' { s with σ := σ, clk := s'.clk } w' := by
    refine ⟨hx.size, fun b hb hno => hx.cells b hb (fun hc => hno (hof b hc)), fun b hb => hx.kept b (.inl hb), ?_, hx.clk, fun id st hkn => kp.knows id st (hx.knows id st hkn), hx.ok, ?_, fun _ => rfl, ?_, hx.os, hx.tape, hx.output⟩
    · rintro b (hb | ⟨k, o, ho, hl, hb⟩)
      · exact .inl (.inl hb)
      · obtain ⟨o', g1, g2, _, _⟩ := back k o ho
        rcases hx.owns b (.inr ⟨k, o', g1, by rw [g2]; exact hl, hb⟩) with h1 | h1
        · exact .inl (hof b h1)
        · exact .inr h1
    · intro id o ho hl hkn
      obtain ⟨o', g1, g2, g3, g4, _⟩ := back id o ho
      obtain ⟨o'', q1, q2, q3, q4, q5⟩ := hx.old id o' g1 (by rw [g2]; exact hl) (by rw [g3]; exact hkn)
      exact ⟨o'', q1, q2, Obj.alike_trans q3 (g4 hl), q4, q5⟩
    · intro id o ho hl
      obtain ⟨o', g1, g2, g3, g4, _⟩ := back id o ho
      rcases hx.new id o' g1 (by rw [g2]; exact hl) with ⟨q, q1, q2, q3⟩ | q
      · exact .inl ⟨q, q1, q2, q3⟩
      · exact .inr (fun h => q (.inl h))
  refine ⟨⟨?_, ?_, ?_, ?_⟩, ex, kp⟩
  · intro id o ho
    by_cases c : id ∈ h
    · obtain ⟨st, rs, esz, rs', g1, g2, g3, g4, g5, g6⟩ := hk id c
      have ho : σ[id]? = some o := ho
      rw [g3] at ho; simp at ho; subst ho
      refine (hR.obj id _ g1).carry ex g5 g6 (hx.kept _ (.inr ⟨id, _, c, g1, rfl, rfl⟩))
    · have ho : σ[id]? = some o := ho
      rw [hn id c] at ho
      exact (hR'.obj id o ho).keep kp rfl (Nat.le_refl _) rfl rfl (fun _ => rfl)
  · intro id id' o o' ho ho' hl hl' e
    obtain ⟨p, g1, g2, _⟩ := back id o ho
    obtain ⟨p', g1', g2', _⟩ := back id' o' ho'
    exact hR'.inj id id' p p' g1 g1' (by rw [g2]; exact hl) (by rw [g2']; exact hl') e
  · intro id o ho hl
    obtain ⟨p, g1, g2, g3, _⟩ := back id o ho
    have := hR'.out id p g1 (by rw [g2]; exact hl)
    refine ⟨this.1, fun hm hΦ => ?_, by show o.st < s'.clk; rw [← g3]; exact this.2.2⟩
    by_cases c : id ∈ h
    · obtain ⟨st, rs, esz, rs', q1, q2, q3, q4, q5, q6⟩ := hk id c
      rw [q5] at hΦ
      exact (hR.out id _ q1 rfl).2.1 hm hΦ
    · refine this.2.1 ?_ (.inl hΦ)
      rw [hx.mine]
      simp only [St.mine, Bool.and_eq_true, decide_eq_true_eq, Bool.not_eq_true', Bool.eq_false_iff, ne_eq, memN_iff, List.mem_append] at hm ⊢
      exact ⟨hm.1, fun hc => hc.elim c hm.2⟩
  · intro b hb
    exact hR'.fresh b (.inl hb)

theorem lock_R (hR : R Φ L s w) (h : List Nat) : R (fun b => Φ b ∨ ∃ i o, i ∈ h ∧ s.σ[i]? = some o ∧ o.live = true ∧ L.blk i = b) L { s with lk := h ++ s.lk } w ∧
    Keeps Φ L s w (fun b => Φ b ∨ ∃ i o, i ∈ h ∧ s.σ[i]? = some o ∧ o.live = true ∧ L.blk i = b) L { s with lk := h ++ s.lk } w := by
  have hk : Keeps Φ L s w (fun b => Φ b ∨ ∃ i o, i ∈ h ∧ s.σ[i]? = some o ∧ o.live = true ∧ L.blk i = b) L { s with lk := h ++ s.lk } w := by
    refine ⟨Nat.le_refl _, fun _ _ _ => rfl, ?_, fun _ _ h => h, fun _ o ho hl _ => ⟨o, ho, hl, Obj.alike_refl hl, rfl, rfl⟩⟩
    rintro b _ ((hb | ⟨i, o, _, ho, hl, hb⟩) | ⟨i, o, ho, hl, hb⟩)
    · exact .inl hb
    · exact .inr ⟨i, o, ho, hl, hb⟩
    · exact .inr ⟨i, o, ho, hl, hb⟩
  refine ⟨⟨fun id o ho => (hR.obj id o ho).keep hk rfl (Nat.le_refl _) rfl rfl (fun _ => rfl), hR.inj, ?_, ?_⟩, hk⟩
  · intro id o ho hl
    have := hR.out id o ho hl
    refine ⟨this.1, fun hm hΦ => ?_, this.2.2⟩
    simp only [St.mine, Bool.and_eq_true, decide_eq_true_eq, Bool.not_eq_true', Bool.eq_false_iff, ne_eq, memN_iff, List.mem_append, not_or] at hm
    rcases hΦ with hΦ | ⟨i, o', hi, ho', hl', hb⟩
    · exact this.2.1 (by simp only [St.mine, Bool.and_eq_true, decide_eq_true_eq, Bool.not_eq_true', Bool.eq_false_iff, ne_eq, memN_iff]; exact ⟨hm.1, hm.2.2⟩) hΦ
    · have := hR.inj i id o' o ho' ho hl' hl hb
      subst this
      exact hm.2.1 hi
  · rintro b (hb | ⟨i, o, _, ho, hl, rfl⟩)
    · exact hR.fresh b hb
    · exact (hR.out i o ho hl).1
#print axioms locked_ok
end Go.AM
