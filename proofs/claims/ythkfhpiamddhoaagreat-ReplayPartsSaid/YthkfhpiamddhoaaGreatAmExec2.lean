/- The walk of code: statements. -/
import Derived.Test.YthkfhpiamddhoaaGreatAmExec
import Derived.RangeFuncRecord
set_option autoImplicit false
namespace Go.AM

variable {E : Env} {P : Program} {K : Kall} {Φ : Nat → Prop} {L : Lay} {s : St} {w : World} {F : Fence} {n : Nat}

/-- the block of an object is written anew as a whole -/
theorem putObj_ok (hR : R Φ L s w) {id : Nat} {o o' : Obj} (ho : s.σ[id]? = some o) (ha : o.alike o') (hro : s.mine id = true) (x : Go.Obj)
    (hok : ∀ s' : St, Ext Φ L s w L s' (w.putObj (L.blk id) x) → ObjOk Φ L s' (w.putObj (L.blk id) x) id o') :
    R Φ L { s with σ := setL s.σ id o' } (w.putObj (L.blk id) x) ∧ Ext Φ L s w L { s with σ := setL s.σ id o' } (w.putObj (L.blk id) x) := by
  have hs : ({ s with σ := setL s.σ id o' } : St).σ = s.σ.set id o' := setL_eq _ _ _
  have hx : Ext Φ L s w L { s with σ := setL s.σ id o' } (w.putObj (L.blk id) x) :=
    Ext.update hR ho ha hro hs rfl (fun _ => rfl) (by simp) (fun b hb => World.putObj_heap_other hb) ⟨rfl, rfl, rfl⟩
  exact ⟨hR.update ho ha hs (by simp) (fun b hb => World.putObj_heap_other hb) hx (hok _ hx), hx⟩

/-- an object is given up -/
theorem kill_ok (hR : R Φ L s w) {id : Nat} {o : Obj} (ho : s.σ[id]? = some o) (hl : o.live = true) (hro : s.mine id = true) (x : Go.Obj) :
    R Φ L { s with σ := setL s.σ id .dead } (w.putObj (L.blk id) x) ∧ Ext Φ L s w L { s with σ := setL s.σ id .dead } (w.putObj (L.blk id) x) := by
  have hs : ({ s with σ := setL s.σ id .dead } : St).σ = s.σ.set id .dead := setL_eq _ _ _
  have get : ∀ k p, (s.σ.set id .dead)[k]? = some p → (k = id ∧ p = .dead) ∨ (k ≠ id ∧ s.σ[k]? = some p) := by
    intro k p hk
    rw [List.getElem?_set] at hk
    by_cases c : id = k
    · subst c
      simp only [if_true] at hk
      split at hk <;> simp at hk
      exact .inl ⟨rfl, hk.symm⟩
    · simp [c] at hk; exact .inr ⟨fun e => c e.symm, hk⟩
  have hx : Ext Φ L s w L { s with σ := setL s.σ id .dead } (w.putObj (L.blk id) x) := by
    refine ⟨by simp, ?_, ?_, ?_, Nat.le_refl _, ?_, rfl, ?_, fun _ => rfl, ?_, rfl, rfl, rfl⟩
    · intro b _ hno
      exact World.putObj_heap_other (fun hb => hno (.inr ⟨id, o, ho, hl, hb.symm⟩))
    · intro b hb
      exact World.putObj_heap_other (fun e => (hR.out id o ho hl).2.1 hro (e ▸ hb))
    · intro b hb
      rcases hb with hb | ⟨k, p, hk, hpl, hb⟩
      · exact .inl (.inl hb)
      · rw [hs] at hk
        rcases get k p hk with ⟨rfl, rfl⟩ | ⟨_, hk⟩
        · simp [Obj.live] at hpl
        · exact .inl (.inr ⟨k, p, hk, hpl, hb⟩)
    · intro k st hk
      refine ⟨hk.1, fun e => ?_⟩
      rw [hs] at e
      rcases get k _ e with ⟨_, h⟩ | ⟨_, h⟩
      · cases h
      · exact hk.2 h
    · intro k p hk hpl _
      rw [hs] at hk
      rcases get k p hk with ⟨rfl, rfl⟩ | ⟨_, hk⟩
      · simp [Obj.live] at hpl
      · exact ⟨p, hk, hpl, Obj.alike_refl hpl, rfl, rfl⟩
    · intro k p hk hpl
      rw [hs] at hk
      rcases get k p hk with ⟨rfl, rfl⟩ | ⟨_, hk⟩
      · simp [Obj.live] at hpl
      · exact .inl ⟨p, hk, hpl, rfl⟩
  refine ⟨⟨?_, ?_, ?_, ?_⟩, hx⟩
  · intro k p hk
    rw [hs] at hk
    rcases get k p hk with ⟨rfl, rfl⟩ | ⟨c, hk⟩
    · trivial
    · by_cases hpl : p.live = true
      · exact (hR.obj k p hk).carry hx rfl rfl (World.putObj_heap_other (fun e => c (hR.inj k id p o hk ho hpl hl e)))
      · exact (hR.obj k p hk).carry_dull hx (by simpa using hpl)
  · intro k k' p p' hk hk' hpl hpl' e
    rw [hs] at hk hk'
    rcases get k p hk with ⟨rfl, rfl⟩ | ⟨_, h1⟩
    · simp [Obj.live] at hpl
    · rcases get k' p' hk' with ⟨rfl, rfl⟩ | ⟨_, h2⟩
      · simp [Obj.live] at hpl'
      · exact hR.inj k k' p p' h1 h2 hpl hpl' e
  · intro k p hk hpl
    rw [hs] at hk
    rcases get k p hk with ⟨rfl, rfl⟩ | ⟨_, h1⟩
    · simp [Obj.live] at hpl
    · have := hR.out k p h1 hpl
      exact ⟨by simpa using this.1, this.2⟩
  · intro b hb
    simpa using hR.fresh b hb

theorem exists_least (p : Nat → Prop) : (∃ k, p k) → ∃ k, p k ∧ ∀ j, j < k → ¬ p j := by
  rintro ⟨k, hk⟩
  induction k using Nat.strongRecOn with
  | _ k ih =>
    by_cases h : ∃ j, j < k ∧ p j
    · obtain ⟨j, hj, hp⟩ := h; exact ih j hj hp
    · exact ⟨k, hk, fun j hj hp => h ⟨j, hj, hp⟩⟩

open Classical in
noncomputable def least (p : Nat → Prop) : Nat := if h : ∃ k, p k then (exists_least p h).choose else 0
theorem least_spec {p : Nat → Prop} (h : ∃ k, p k) : p (least p) := by
  unfold least; rw [dif_pos h]; exact (exists_least p h).choose_spec.1
theorem least_le {p : Nat → Prop} {k : Nat} (h : p k) : least p ≤ k := by
  have hh : ∃ k, p k := ⟨k, h⟩
  unfold least; rw [dif_pos hh]
  rcases Nat.lt_or_ge k (exists_least p hh).choose with h' | h'
  · exact absurd h ((exists_least p hh).choose_spec.2 k h')
  · exact h'

def DrawOk (E : Env) (P : Program) (K : Kall) : Prop :=
  ∀ (fid rid : Nat) (ops : Array Oper) (info : DrawInfo), drawStatic ops info = true → ∀ (F : Fence) (n : Nat) (Φ : Nat → Prop) (L : Lay) (s : St) (w : World) (a : Ac) (ac : Act) (e : Ex) (a' : Ac) (s' : St),
    Calm F → L.ok = E.okC → R Φ L s w → ARel Φ L s w a ac → runDraw E K fid rid ops info a s = some (e, a', s') → (Code.region rid ops true).wpIn F n P (ExPost Φ L s w e a' s') ac w

/-- the bare range over a function -/
theorem range_alloc (hR : R Φ L s w) {fid fn : FuncId} {a : Ac} {ac : Act} (hA : ARel Φ L s w a ac) (hok : L.ok = E.okC) (ps : Array Tmp) {asg body : Code} (hc1 : E.okC fid asg) (hc2 : E.okC fid body) :
    let s2 : St := { s with σ := s.σ ++ [.dfr s.clk, .loop (s.clk + 1) ⟨.ready, none, fid, a.tmps, ps.toList, asg, body⟩], clk := s.clk + 2 }
    let w2 := (w.alloc (.deferred (some []))).alloc (.loop { state := .ready, pending := none, fn, tmps := ac.tmps, params := ps, assign := asg, body, defers := w.heap.size })
    ∃ L2, R Φ L2 s2 w2 ∧ Ext Φ L s w L2 s2 w2 ∧ L2.blk s.σ.length = w.heap.size ∧ L2.blk (s.σ.length + 1) = w.heap.size + 1 := by
  intro s2 w2
  have e1 := Ext.push hR .dfr (.deferred (some [])) 0 rfl
  have r1 := R.push hR .dfr (.deferred (some [])) 0 rfl (by
    show (w.alloc _).heap[_]? = _
    rw [Lay.add_blk]
    exact World.alloc_heap_new _ _)
  have hs2 : s2 = (s.push .dfr).push (.loop · ⟨.ready, none, fid, a.tmps, ps.toList, asg, body⟩) := by
    simp [s2, St.push]
  have e2 := Ext.push r1 (.loop · ⟨.ready, none, fid, a.tmps, ps.toList, asg, body⟩) (.loop { state := .ready, pending := none, fn, tmps := ac.tmps, params := ps, assign := asg, body, defers := w.heap.size }) 0 rfl
  have hlen : (s.push .dfr).σ.length = s.σ.length + 1 := by simp [St.push]
  have hsz : (w.alloc (.deferred (some []))).heap.size = w.heap.size + 1 := by simp
  have r2 := R.push r1 (.loop · ⟨.ready, none, fid, a.tmps, ps.toList, asg, body⟩) (.loop { state := .ready, pending := none, fn, tmps := ac.tmps, params := ps, assign := asg, body, defers := w.heap.size }) 0 rfl (by
    refine ⟨{ state := .ready, pending := none, fn, tmps := ac.tmps, params := ps, assign := asg, body, defers := w.heap.size }, ?_, rfl, rfl, rfl, rfl, rfl, ?_, ?_⟩
    · rw [Lay.add_blk]; exact World.alloc_heap_new _ _
    · rw [e2.ok, e1.ok, hok]; exact ⟨hc1, hc2⟩
    · exact (hA.ext (e1.trans e2)).tmps)
  refine ⟨_, by rw [hs2]; exact r2, by rw [hs2]; exact e1.trans e2, ?_, ?_⟩
  · rw [Lay.add_blk_ne _ (by rw [hlen]; omega), Lay.add_blk]
  · rw [← hlen, Lay.add_blk, hsz]

theorem exec_sound (hE : EnvOk3 E P) (hK : KOk E P K) (hD : DrawOk E P K) (fid lf : Nat) (round : Bool) : ∀ (c : Code) (F : Fence) (n : Nat) (Φ : Nat → Prop) (L : Lay) (s : St) (w : World) (a : Ac) (ac : Act) (e : Ex) (a' : Ac) (s' : St),
    Calm F → (round = false → F.round = none) → E.okC fid c → L.ok = E.okC → R Φ L s w → ARel Φ L s w a ac → exec E K fid lf round c a s = some (e, a', s') → c.wpIn F n P (ExPost Φ L s w e a' s') ac w := by
  intro c
  induction c with
  | skip =>
    intro F n Φ L s w a ac e a' s' hF hro hc hok hR hA h
    simp [exec] at h
    obtain ⟨rfl, rfl, rfl⟩ := h
    exact wpIn_skip ⟨L, hR, Ext.refl _ _ _ _, hA, rfl⟩
  | label l =>
    intro F n Φ L s w a ac e a' s' hF hro hc hok hR hA h
    simp [exec] at h
    obtain ⟨rfl, rfl, rfl⟩ := h
    exact wpIn_label ⟨L, hR, Ext.refl _ _ _ _, hA, rfl⟩
  | exit id =>
    intro F n Φ L s w a ac e a' s' hF hro hc hok hR hA h
    simp [exec] at h
    obtain ⟨rfl, rfl, rfl⟩ := h
    exact wpIn_exit ⟨L, hR, Ext.refl _ _ _ _, hA, rfl⟩
  | ret =>
    intro F n Φ L s w a ac e a' s' hF hro hc hok hR hA h
    simp [exec] at h
    obtain ⟨rfl, rfl, rfl⟩ := h
    exact wpIn_ret ⟨L, hR, Ext.refl _ _ _ _, hA, rfl⟩
  | goto l =>
    intro F n Φ L s w a ac e a' s' hF hro hc hok hR hA h
    simp [exec] at h
  | region rid ops draw =>
    intro F n Φ L s w a ac e a' s' hF hro hc hok hR hA h
    cases draw with
    | false =>
      simp only [exec] at h
      refine wpIn_region (runOps_sound hE hK hF ops.toList _ L s w a ac e a' s' ?_ hok hR hA h (fun _ _ _ hp => hp))
      apply List.ext_getElem?
      intro i
      simp only [List.getElem?_map]
      by_cases hi : i < ops.size
      · simp [hi]
      · simp [hi]
    | true =>
      simp only [exec] at h
      split at h
      · rename_i info hinfo
        refine hD fid rid ops info ?_ F n Φ L s w a ac e a' s' hF hok hR hA h
        simpa [Env.okC, okCode, hinfo] using hc
      · simp at h
  | seq x y ihx ihy =>
    intro F n Φ L s w a ac e a' s' hF hro hc hok hR hA h
    have hc' : E.okC fid x ∧ E.okC fid y := by simpa [Env.okC, okCode] using hc
    simp only [exec] at h
    refine wpIn_seq ?_
    cases hx : exec E K fid lf round x a s with
    | none => rw [hx] at h; simp at h
    | some r =>
      obtain ⟨e1, a1, s1⟩ := r
      refine wpIn_mono (ihx F n Φ L s w a ac e1 a1 s1 hF hro hc'.1 hok hR hA hx) ?_
      rintro z ac1 w1 ⟨L1, h1, h2, h3, h4⟩
      rw [hx] at h
      cases e1 with
      | normal =>
        cases h4
        exact wpIn_mono (ihy F n Φ L1 s1 w1 a1 ac1 e a' s' hF hro hc'.2 (h2.ok.trans hok) h1 h3 h) (fun _ _ _ hp => hp.trans h2)
      | exit id => simp at h; obtain ⟨rfl, rfl, rfl⟩ := h; cases h4; exact ⟨L1, h1, h2, h3, rfl⟩
      | ret => simp at h; obtain ⟨rfl, rfl, rfl⟩ := h; cases h4; exact ⟨L1, h1, h2, h3, rfl⟩
      | panic d => simp at h; obtain ⟨rfl, rfl, rfl⟩ := h; obtain ⟨v, rfl, h5⟩ := h4; exact ⟨L1, h1, h2, h3, v, rfl, h5⟩
  | cond c x y ihx ihy =>
    intro F n Φ L s w a ac e a' s' hF hro hc hok hR hA h
    have hc' : E.okC fid x ∧ E.okC fid y := by simpa [Env.okC, okCode] using hc
    simp only [exec] at h
    split at h
    · rename_i hev
      exact wpIn_cond_true (eval_rel hA.tmps hev).v_inv (ihx F n Φ L s w a ac e a' s' hF hro hc'.1 hok hR hA h)
    · rename_i hev
      exact wpIn_cond_false (eval_rel hA.tmps hev).v_inv (ihy F n Φ L s w a ac e a' s' hF hro hc'.2 hok hR hA h)
    · simp at h
  | block id b ih =>
    intro F n Φ L s w a ac e a' s' hF hro hc hok hR hA h
    simp only [exec] at h
    refine wpIn_block ?_
    cases hx : exec E K fid lf round b a s with
    | none => rw [hx] at h; simp at h
    | some r =>
      obtain ⟨e1, a1, s1⟩ := r
      refine wpIn_mono (ih F n Φ L s w a ac e1 a1 s1 hF hro hc hok hR hA hx) ?_
      rintro z ac1 w1 ⟨L1, h1, h2, h3, h4⟩
      rw [hx] at h
      cases e1 with
      | normal => simp at h; obtain ⟨rfl, rfl, rfl⟩ := h; cases h4; exact ⟨L1, h1, h2, h3, rfl⟩
      | ret => simp at h; obtain ⟨rfl, rfl, rfl⟩ := h; cases h4; exact ⟨L1, h1, h2, h3, rfl⟩
      | panic d => simp at h; obtain ⟨rfl, rfl, rfl⟩ := h; obtain ⟨v, rfl, h5⟩ := h4; exact ⟨L1, h1, h2, h3, v, rfl, h5⟩
      | exit i =>
        cases h4
        simp only at h
        by_cases c : i = id
        · simp only [c, if_true] at h
          simp at h; obtain ⟨rfl, rfl, rfl⟩ := h
          simp only [Exit.inBlock, c, if_true]
          exact ⟨L1, h1, h2, h3, rfl⟩
        · simp only [c, if_false] at h
          simp at h; obtain ⟨rfl, rfl, rfl⟩ := h
          simp only [Exit.inBlock, c, if_false]
          exact ⟨L1, h1, h2, h3, rfl⟩
  | loop b ih =>
    intro F n Φ L s w a ac e a' s' hF hro hc hok hR hA h
    simp only [exec] at h
    let J : Act → World → Nat → Prop := fun ac1 w1 k => ∃ (L1 : Lay) (s1 : St) (a1 : Ac), R Φ L1 s1 w1 ∧ Ext Φ L s w L1 s1 w1 ∧ ARel Φ L1 s1 w1 a1 ac1 ∧ iter (exec E K fid lf round b) k a1 s1 = some (e, a', s')
    refine wpIn_loop (fun ac1 w1 => ∃ k, J ac1 w1 k) (fun ac1 w1 => least (J ac1 w1)) ⟨lf, L, s, a, hR, Ext.refl _ _ _ _, hA, h⟩ ?_
    intro ac1 w1 hI
    obtain ⟨L1, s1, a1, r1, x1, A1, hit⟩ := least_spec hI
    generalize hk : least (J ac1 w1) = k at hit
    cases k with
    | zero => simp [iter] at hit
    | succ k =>
      simp only [iter] at hit
      cases hx : exec E K fid lf round b a1 s1 with
      | none => rw [hx] at hit; simp at hit
      | some r =>
        obtain ⟨e2, a2, s2⟩ := r
        refine wpIn_mono (ih F n Φ L1 s1 w1 a1 ac1 e2 a2 s2 hF hro hc (x1.ok.trans hok) r1 A1 hx) ?_
        rintro z ac2 w2 ⟨L2, h1, h2, h3, h4⟩
        rw [hx] at hit
        cases e2 with
        | normal =>
          cases h4
          simp only at hit
          have hJ : J ac2 w2 k := ⟨L2, s2, a2, h1, x1.trans h2, h3, hit⟩
          have := least_le hJ
          exact ⟨⟨k, hJ⟩, by show least (J ac2 w2) < k + 1; omega⟩
        | exit id => simp at hit; obtain ⟨rfl, rfl, rfl⟩ := hit; cases h4; exact ⟨L2, h1, x1.trans h2, h3, rfl⟩
        | ret => simp at hit; obtain ⟨rfl, rfl, rfl⟩ := hit; cases h4; exact ⟨L2, h1, x1.trans h2, h3, rfl⟩
        | panic d => simp at hit; obtain ⟨rfl, rfl, rfl⟩ := hit; obtain ⟨v, rfl, h5⟩ := h4; exact ⟨L2, h1, x1.trans h2, h3, v, rfl, h5⟩
  | rangeFunc f ps asg body ih1 ih2 =>
    intro F n Φ L s w a ac e a' s' hF hro hc hok hR hA h
    have hc' : E.okC fid asg ∧ E.okC fid body := by simpa [Env.okC, okCode] using hc
    simp only [exec] at h
    split at h
    · simp at h
    · rename_i hround
      have hro' := hro (by simpa using hround)
      split at h
      · rename_i g first cap hev
        have rf := eval_rel hA.tmps hev
        generalize hv : ac.eval f = v at rf
        cases rf with
        | @fn _ _ _ xs ys ha hb' hra hrb =>
          split at h
          · rename_i d s3 hcall
            split at h
            · rename_i st lp hlp
              split at h
              · rename_i hcond
                obtain ⟨rfl, hbusy, hrol⟩ := hcond
                refine wpIn_rangeFunc ?_
                intro fn _
                obtain ⟨L2, r2, x2, hb0, hb1⟩ := range_alloc (E := E) (fid := fid) (fn := fn) hR hA hok ps hc'.1 hc'.2
                obtain ⟨⟨fng, hfng, hbody⟩, hcallS⟩ := hK.call hcall
                have r1 : RelL Φ L s w first xs.toList := ⟨by simpa using ha, fun i d x g1 g2 => hra i d x g1 (by simpa using g2)⟩
                have r3 : RelL Φ L s w cap ys.toList := ⟨by simpa using hb', fun i d x g1 g2 => hrb i d x g1 (by simpa using g2)⟩
                have hargs : RelL Φ L2 { s with σ := s.σ ++ [.dfr s.clk, .loop (s.clk + 1) ⟨.ready, none, fid, a.tmps, ps.toList, asg, body⟩], clk := s.clk + 2 } ((w.alloc (.deferred (some []))).alloc (.loop { state := .ready, pending := none, fn, tmps := ac.tmps, params := ps, assign := asg, body, defers := w.heap.size })) (first ++ [.yld (s.σ.length + 1) (s.clk + 1)] ++ cap) (xs ++ #[Value.func (.yield (w.heap.size + 1)) #[] #[]] ++ ys).toList := by
                  have hy : Rel Φ L2 { s with σ := s.σ ++ [.dfr s.clk, .loop (s.clk + 1) ⟨.ready, none, fid, a.tmps, ps.toList, asg, body⟩], clk := s.clk + 2 } ((w.alloc (.deferred (some []))).alloc (.loop { state := .ready, pending := none, fn, tmps := ac.tmps, params := ps, assign := asg, body, defers := w.heap.size })) (.yld (s.σ.length + 1) (s.clk + 1)) (.func (.yield (w.heap.size + 1)) #[] #[]) := by
                    refine .yld ⟨by show s.clk + 1 < s.clk + 2; omega, ?_⟩ (fun _ _ => hb1.symm)
                    show (s.σ ++ [_, _])[s.σ.length + 1]? ≠ _
                    rw [List.getElem?_append_right (by omega)]
                    simp
                  simpa using ((r1.ext x2).append (RelL.nil.cons hy)).append (r3.ext x2)
                refine ⟨w.heap.size + 1, [{ target := .collected w.heap.size, args := #[] }], ((w.alloc (.deferred (some []))).alloc (.loop { state := .ready, pending := none, fn, tmps := ac.tmps, params := ps, assign := asg, body, defers := w.heap.size })), { target := .fn (.func g) ys, args := xs ++ #[Value.func (.yield (w.heap.size + 1)) #[] #[]] }, ((w.alloc (.deferred (some []))).alloc (.loop { state := .ready, pending := none, fn, tmps := ac.tmps, params := ps, assign := asg, body, defers := w.heap.size })), g, (xs ++ #[Value.func (.yield (w.heap.size + 1)) #[] #[]] ++ ys), ((w.alloc (.deferred (some []))).alloc (.loop { state := .ready, pending := none, fn, tmps := ac.tmps, params := ps, assign := asg, body, defers := w.heap.size })), ?_, ?_, fun f' _ => hF.fn f', ?_, hF.need, ?_⟩
                · rw [hro']; exact run_enterLoop_outer _ _ _ _ _
                · simp only [resolve, hv, Deferred.ofValue]; simp [Act.eval]
                · simp only [invoke]; exact run_callFunc hE hfng hbody _ _
                · refine (hcallS F (n - 1) Φ L2 _ _ hF (x2.ok.trans hok) r2 hargs).mono ?_
                  rintro en w3 ⟨L3, v3, r4, x4, rfl, _⟩
                  rw [getL_eq] at hlp
                  have hobj := r4.obj _ _ hlp
                  obtain ⟨lpc, hc1, hc2, hc3, hc4, hc5, hc6, hc7, hc8⟩ := hobj
                  have hblk : L3.blk (s.σ.length + 1) = w.heap.size + 1 := by
                    obtain ⟨o, g1, g2, g3, g4, g5⟩ := x4.old (s.σ.length + 1) _ hlp rfl ⟨by show s.clk + 1 < s.clk + 2; omega, by
                      show (s.σ ++ [_, _])[s.σ.length + 1]? ≠ _
                      rw [List.getElem?_append_right (by omega)]
                      simp⟩
                    rw [g4, hb1]
                  obtain ⟨r5, x5⟩ := putObj_ok r4 hlp (o' := .loop (s.clk + 1) { lp with state := .exhausted }) (by simp [Obj.alike]) hrol (.loop { lpc with state := .exhausted }) (fun s' hx => by
                    refine ⟨_, World.putObj_heap_same (r4.out _ _ hlp rfl).1, rfl, hc3, hc4, hc5, hc6, hc7, hc8.ext hx⟩)
                  refine ⟨_, _, run_endLoop (r := lpc) (by rw [← hblk]; exact hc1) (by rw [hc2]; exact hbusy), ?_⟩
                  rw [← hblk]
                  generalize hS5 : ({ s3 with σ := setL s3.σ (s.σ.length + 1) (.loop (s.clk + 1) { lp with state := .exhausted }) } : St) = S5 at r5 x5 h
                  generalize hW5 : w3.putObj (L3.blk (s.σ.length + 1)) (.loop { lpc with state := .exhausted }) = W5 at r5 x5 ⊢
                  have hx : Ext Φ L s w L3 S5 W5 := (x2.trans x4).trans x5
                  have hA5 : ARel Φ L3 S5 W5 { a with dfs := .mark s.σ.length s.clk :: a.dfs } { ac with defers := [{ target := .collected w.heap.size, args := #[] }] ++ ac.defers } := by
                    refine ⟨(hA.ext hx).tmps, ?_, (hA.ext hx).dfs⟩
                    have hm : DfrRel Φ L2 { s with σ := s.σ ++ [.dfr s.clk, .loop (s.clk + 1) ⟨.ready, none, fid, a.tmps, ps.toList, asg, body⟩], clk := s.clk + 2 } ((w.alloc (.deferred (some []))).alloc (.loop { state := .ready, pending := none, fn, tmps := ac.tmps, params := ps, assign := asg, body, defers := w.heap.size })) (.mark s.σ.length s.clk) { target := .collected w.heap.size, args := #[] } := by
                      refine ⟨_, rfl, ⟨by show s.clk < s.clk + 2; omega, ?_⟩, fun _ => hb0.symm⟩
                      show (s.σ ++ [_, _])[s.σ.length]? ≠ _
                      rw [List.getElem?_append_right (by omega)]
                      simp
                    exact hm.ext (x4.trans x5)
                  rw [hc3]
                  cases hp : lp.pending with
                  | none =>
                    rw [hp] at h
                    simp at h
                    obtain ⟨rfl, rfl, rfl⟩ := h
                    exact ⟨L3, r5, hx, hA5, rfl⟩
                  | some pc =>
                    rw [hp] at h
                    cases pc with
                    | exit id =>
                      simp at h
                      obtain ⟨rfl, rfl, rfl⟩ := h
                      exact wpIn_exit ⟨L3, r5, hx, hA5, rfl⟩
                    | ret =>
                      simp at h
                      obtain ⟨rfl, rfl, rfl⟩ := h
                      exact wpIn_ret ⟨L3, r5, hx, hA5, rfl⟩
                    | _ => simp at h
              · simp at h
            · simp at h
          · simp at h
      · simp at h
  | _ =>
    intro F n Φ L s w a ac e a' s' hF hro hc hok hR hA h
    simp [exec] at h
#print axioms exec_sound
end Go.AM
