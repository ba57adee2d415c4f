/- Operations, one by one: cut slices, composite values, new memory. -/
import Derived.Test.YthkfhpiamddhoaaGreatAmOps4
set_option autoImplicit false
namespace Go.AM

variable {E : Env} {P : Program} {Φ : Nat → Prop} {L : Lay} {s : St} {w : World}

theorem bounds_run {isSlice : Bool} {len cap : Nat} {lo hi : Option D} {vlo vhi : Option Value} {l h : Nat}
    (hlo : boundOf lo 0 = some l) (hhi : boundOf hi len = some h) (hl : ∀ d, lo = some d → ∃ v, vlo = some v ∧ Rel Φ L s w d v) (hl0 : lo = none → vlo = none)
    (hh : ∀ d, hi = some d → ∃ v, vhi = some v ∧ Rel Φ L s w d v) (hh0 : hi = none → vhi = none) (hle : l ≤ h) (hhl : h ≤ len) (hlc : len ≤ cap) (hcap : isSlice = false → cap = len) :
    (Instr.sliceBounds isSlice len cap vlo vhi none).run P w = .ok (l, h, cap) w := by
  have g1 : (vhi = none ∧ h = len) ∨ ∃ v, vhi = some v ∧ ∀ code, (Instr.sliceBound v cap code).run P w = .ok h w := by
    rcases boundOf_sound (P := P) (w := w) (y := cap) (code := .sliceB) hhi with ⟨h1, h2⟩ | ⟨k, m, h1, hm, hn, hrun⟩
    · exact .inl ⟨hh0 h1, h2⟩
    · obtain ⟨v, hv, hr⟩ := hh _ h1
      cases hr.v_inv
      refine .inr ⟨_, hv, fun code => ?_⟩
      have : m ≤ (cap : Int) := by omega
      simp [Instr.sliceBound, asIntOf, hm, this, hn]
  have g2 : (vlo = none ∧ l = 0) ∨ ∃ v, vlo = some v ∧ ∀ code, (Instr.sliceBound v h code).run P w = .ok l w := by
    rcases boundOf_sound (P := P) (w := w) (y := h) (code := .sliceB) hlo with ⟨h1, h2⟩ | ⟨k, m, h1, hm, hn, hrun⟩
    · exact .inl ⟨hl0 h1, h2⟩
    · obtain ⟨v, hv, hr⟩ := hl _ h1
      cases hr.v_inv
      refine .inr ⟨_, hv, fun code => ?_⟩
      have : m ≤ (h : Int) := by omega
      simp [Instr.sliceBound, asIntOf, hm, this, hn]
  rcases g1 with ⟨rfl, rfl⟩ | ⟨v, rfl, g1⟩ <;> rcases g2 with ⟨rfl, rfl⟩ | ⟨u, rfl, g2⟩ <;> simp [Instr.sliceBounds, *]

theorem rowLen_all {sz n : Nat} {es : List (List D)} (h : rowLen sz es = true) (hn : ∀ r ∈ es, r.length = n) : es = [] ∨ sz = n := by
  cases es with
  | nil => exact .inl rfl
  | cons r rs => simp [rowLen] at h; exact .inr (by rw [← h]; exact hn r List.mem_cons_self)

theorem noIdsR_sub : ∀ (l m : List (List D)), noIdsR l = true → (∀ r ∈ m, r ∈ l) → noIdsR m = true
  | l, [], _, _ => rfl
  | l, r :: rs, h, hm => by
    obtain ⟨i, hi⟩ := List.getElem?_of_mem (hm r List.mem_cons_self)
    simp [noIdsR, noIdsR_get l h i r hi, noIdsR_sub l rs h (fun x hx => hm x (List.mem_cons_of_mem _ hx))]

theorem slice_sound (hE : EnvOk E P) {t : TypeId} {x d : D} {lo hi mx : Option D} {vx : Value} {vlo vhi vmx : Option Value} (h : sliceOp E s t x lo hi mx = some d) (hx : Rel Φ L s w x vx)
    (hl : ∀ d, lo = some d → ∃ v, vlo = some v ∧ Rel Φ L s w d v) (hl0 : lo = none → vlo = none)
    (hh : ∀ d, hi = some d → ∃ v, vhi = some v ∧ Rel Φ L s w d v) (hh0 : hi = none → vhi = none) (hm0 : mx = none → vmx = none) :
    ∃ v, (Instr.sliceAt t vx vlo vhi vmx).run P w = .ok v w ∧ Rel Φ L s w d v := by
  unfold sliceOp at h
  split at h
  · rename_i elem hd
    have hvm := hm0 rfl
    subst hvm
    split at h
    · rename_i n sz hlen hsz
      split at h
      · rename_i hb lb hhb hlb
        split at h
        · rename_i hc
          obtain ⟨hle, hhl⟩ := hc
          obtain ⟨a, c, rfl⟩ := slLen_sound hlen hx
          have base : ∀ (hnc : n ≤ c), (Instr.sliceAt t (.slice a n c) vlo vhi none).run P w = .ok (.slice (if c = lb then a else a.map (·.add (lb * sz))) (hb - lb) (c - lb)) w := by
            intro hnc
            have hb' := bounds_run (P := P) (isSlice := true) (cap := c) hlb hhb hl hl0 hh hh0 hle hhl hnc (by simp)
            simp only [Instr.sliceAt, Instr.slice, Sem.run_bind, run_und hE hd, Result.andThen_ok, hb', run_size hE hsz, Sem.run_pure]
          split at h
          · simp at h; subst h
            have := hx.v_inv
            simp at this
            obtain ⟨rfl, rfl, rfl⟩ := this
            have : lb = 0 := by omega
            subst this
            have : hb = 0 := by omega
            subst this
            exact ⟨_, base (Nat.le_refl _), by simpa using Rel.v (by simp [plainLeaf])⟩
          · rename_i es cap
            split at h
            · rename_i hrow
              simp at h; subst h
              cases hx with
              | @sl _ _ a _ _ m g hs ho hbk hln hcc hk hm hcell hrel hid =>
                simp [slLen] at hlen
                refine ⟨_, base hcc, ?_⟩
                have hadd : ∃ a' : Addr, (if c = lb then some a else (some a).map (·.add (lb * sz))) = some a' ∧ (es ≠ [] → a'.spot = none ∧ a'.block = a.block ∧ (lb < hb → a'.off = a.off + lb * m)) := by
                  by_cases e : c = lb
                  · exact ⟨a, by simp [e], fun hne => ⟨hs hne, rfl, fun hlt => by omega⟩⟩
                  · refine ⟨a.add (lb * sz), by simp [e], fun hne => ?_⟩
                    have ha : a = ⟨a.block, a.off, none⟩ := by have := hs hne; cases a; simp at this; simp [this]
                    rw [ha, addr_add]
                    refine ⟨rfl, rfl, fun hlt => ?_⟩
                    rcases rowLen_all hrow hm with h0 | h0
                    · exact absurd h0 hne
                    · simp [h0]
                obtain ⟨a', e1, e5⟩ := hadd
                have hsub : (es.drop lb).take (hb - lb) ≠ [] → es ≠ [] := fun h e => h (by rw [e]; simp)
                rw [e1]
                have hget : ∀ (i : Nat) (r : List D), ((es.drop lb).take (hb - lb))[i]? = some r → i < hb - lb ∧ es[lb + i]? = some r := by
                  intro i r hr
                  have hi : i < hb - lb := by
                    have := lt_of_get hr
                    simp at this; omega
                  rw [List.getElem?_take_of_lt hi, List.getElem?_drop] at hr
                  exact ⟨hi, hr⟩
                refine .sl (n := m) (fun i j => g (lb + i) j) (fun h => (e5 (hsub h)).1) (fun h => by rw [(e5 (hsub h)).2.1]; exact ho (hsub h)) (fun h => by rw [(e5 (hsub h)).2.1]; exact hbk (hsub h)) ?_ (by omega) ?_ ?_ ?_ ?_ ?_
                · simp; omega
                · intro k hk'
                  cases cap with
                  | none => simp at hk'
                  | some k0 => simp at hk'; rw [hk k0 rfl]; exact hk'
                · intro r hr
                  exact hm r (List.mem_of_mem_drop (List.mem_of_mem_take hr))
                · intro i r hr j d hd
                  obtain ⟨hi, hr'⟩ := hget i r hr
                  have := hcell _ r hr' j d hd
                  have hne : es ≠ [] := fun e => by rw [e] at hr'; simp at hr'
                  rw [(e5 hne).2.1, (e5 hne).2.2 (by omega), show a.off + lb * m + i * m + j = a.off + (lb + i) * m + j from by rw [Nat.add_mul]; omega]
                  exact this
                · intro i r hr j d hd
                  obtain ⟨hi, hr'⟩ := hget i r hr
                  exact hrel _ r hr' j d hd
                · exact noIdsR_sub es _ hid (fun r hr => List.mem_of_mem_drop (List.mem_of_mem_take hr))
            · simp at h
          · rename_i id st off len
            split at h
            · rename_i rs esz hrs
              rw [St.rowsOf_some] at hrs
              split at h
              · rename_i hes
                simp at h; subst h
                simp [slLen] at hlen
                subst hlen
                cases hx with
                | @osl _ _ _ _ _ a hst hlc hadr =>
                  refine ⟨_, base hlc, ?_⟩
                  obtain ⟨g1, g2, g3, g4, g5⟩ := hadr _ _ hrs
                  have ha : a = ⟨a.block, a.off, none⟩ := by cases a; simp at g3; simp [g3]
                  have hadd : ∃ a' : Addr, (if c = lb then some a else (some a).map (·.add (lb * sz))) = some a' ∧ a'.spot = none ∧ a'.block = a.block ∧ (c ≠ lb → a'.off = a.off + lb * sz) := by
                    by_cases e : c = lb
                    · exact ⟨a, by simp [e], g3, rfl, fun hlt => by omega⟩
                    · refine ⟨a.add (lb * sz), by simp [e], ?_⟩
                      rw [ha, addr_add]
                      exact ⟨rfl, rfl, fun _ => rfl⟩
                  obtain ⟨a', e1, e2, e3, e4⟩ := hadd
                  rw [e1]
                  refine .osl hst (by omega) (fun rs' esz' h' => ?_)
                  rw [hrs] at h'
                  simp at h'
                  obtain ⟨rfl, rfl⟩ := h'
                  refine ⟨by omega, by omega, e2, by rw [e3, g4], ?_⟩
                  by_cases e : c = lb
                  · left; omega
                  · right
                    rw [e4 e, g5.resolve_left (by omega), hes, Nat.add_mul]
                    omega
              · simp at h
            · simp at h
          · rename_i id st row col len esz
            split at h
            · rename_i hes
              simp at h; subst h
              simp [slLen] at hlen
              subst hlen
              cases hx with
              | @csl _ _ _ _ _ _ _ a hst hlc hadr =>
                refine ⟨_, base hlc, ?_⟩
                have hadd : ∃ a' : Addr, (if c = lb then some a else (some a).map (·.add (lb * sz))) = some a' ∧ (a.spot = none → a'.spot = none ∧ a'.block = a.block ∧ (c ≠ lb → a'.off = a.off + lb * sz)) := by
                  by_cases e : c = lb
                  · exact ⟨a, by simp [e], fun hs => ⟨hs, rfl, fun hlt => by omega⟩⟩
                  · refine ⟨a.add (lb * sz), by simp [e], fun hs => ?_⟩
                    have ha : a = ⟨a.block, a.off, none⟩ := by cases a; simp at hs; simp [hs]
                    rw [ha, addr_add]
                    exact ⟨rfl, rfl, fun _ => rfl⟩
                obtain ⟨a', e1, e2⟩ := hadd
                rw [e1]
                refine .csl hst (by omega) (fun rs' esz' h' => ?_)
                obtain ⟨g3, g4, g5⟩ := hadr _ _ h'
                obtain ⟨e2, e3, e4⟩ := e2 g3
                refine ⟨e2, by rw [e3, g4], ?_⟩
                by_cases e : c = lb
                · left; omega
                · right
                  rw [e4 e, g5.resolve_left (by omega), hes]
                  omega
            · simp at h
          · simp at h
        · simp at h
      · simp at h
    · simp at h
  · rename_i n elem hd
    have hvm := hm0 rfl
    subst hvm
    split at h
    · rename_i sz hb lb hsz hhb hlb
      split at h
      · rename_i hc
        obtain ⟨hle, hhl⟩ := hc
        split at h
        · rename_i id st row col
          simp at h; subst h
          cases hx with
          | @ref _ _ _ _ a hst hadr =>
            have hb' := bounds_run (P := P) (isSlice := false) (cap := n) hlb hhb hl hl0 hh hh0 hle hhl (Nat.le_refl _) (fun _ => rfl)
            refine ⟨.slice (some (if n = lb then a else a.add (lb * sz))) (hb - lb) (n - lb), ?_, ?_⟩
            · simp only [Instr.sliceAt, Sem.run_bind, run_und hE hd, Result.andThen_ok, Instr.sureAddr, Sem.run_pure, hb', run_size hE hsz]
            · refine .csl hst (by omega) (fun rs' esz' h' => ?_)
              have := hadr _ _ h'
              subst this
              by_cases e : n = lb
              · exact ⟨by simp [e], by simp [e], .inl (by omega)⟩
              · simp only [e, if_false, addr_add]
                exact ⟨trivial, trivial, .inr (by omega)⟩
        · simp at h
      · simp at h
    · simp at h
  · simp at h
#print axioms slice_sound
end Go.AM
