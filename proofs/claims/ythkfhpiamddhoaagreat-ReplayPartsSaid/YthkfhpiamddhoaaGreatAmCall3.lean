/- The walk of code: the modes of a call; rounds; all calls. -/
import Derived.Test.YthkfhpiamddhoaaGreatAmCall2
set_option autoImplicit false
namespace Go.AM

variable {E : Env} {P : Program} {K : Kall} {Φ : Nat → Prop} {L : Lay} {s : St} {w : World} {F : Fence} {n : Nat}

theorem RelL.move {Φ' : Nat → Prop} {L' : Lay} {s' : St} {w' : World} (hsz : w.heap.size ≤ w'.heap.size) (hc : ∀ b, b < w.heap.size → ¬ own Φ L s b → sameCells w w' b)
    (ho : ∀ b, b < w.heap.size → own Φ' L' s' b → own Φ L s b) {ds : List D} {xs : List Value} (h : RelL Φ L s w ds xs) (hid : noIdsL ds = true) : RelL Φ' L' s' w' ds xs :=
  ⟨h.1, fun i d x h1 h2 => (h.2 i d x h1 h2).move hsz hc ho (noIdsL_get _ hid _ _ h1)⟩

theorem dead_get {id : Nat} {k : Nat} {p : Obj} (h : (setL s.σ id .dead)[k]? = some p) : p = .dead ∨ (k ≠ id ∧ s.σ[k]? = some p) := by
  rw [setL_eq, List.getElem?_set] at h
  by_cases c : id = k
  · subst c
    simp only [if_true] at h
    split at h <;> simp at h
    exact .inl h.symm
  · simp [c] at h; exact .inr ⟨fun e => c e.symm, h⟩

/-- an object is set aside: its block is somebody else's -/
theorem dead_R (hR : R Φ L s w) {id : Nat} {o : Obj} (ho : s.σ[id]? = some o) (hl : o.live = true) :
    R (fun b => Φ b ∨ b = L.blk id) L { s with σ := setL s.σ id .dead } w ∧ Keeps Φ L s w (fun b => Φ b ∨ b = L.blk id) L { s with σ := setL s.σ id .dead } w := by
  have hk : Keeps Φ L s w (fun b => Φ b ∨ b = L.blk id) L { s with σ := setL s.σ id .dead } w := by
    refine ⟨Nat.le_refl _, fun _ _ _ => rfl, ?_, ?_, ?_⟩
    · rintro b _ ((hb | rfl) | ⟨k, p, hp, hpl, hb⟩)
      · exact .inl hb
      · exact .inr ⟨id, o, ho, hl, rfl⟩
      · rcases dead_get hp with rfl | ⟨_, hp⟩
        · simp [Obj.live] at hpl
        · exact .inr ⟨k, p, hp, hpl, hb⟩
    · intro k st h
      refine ⟨h.1, fun e => ?_⟩
      rcases dead_get e with e | ⟨_, e⟩
      · cases e
      · exact h.2 e
    · intro k p hp hpl _
      rcases dead_get hp with rfl | ⟨_, hp⟩
      · simp [Obj.live] at hpl
      · exact ⟨p, hp, hpl, Obj.alike_refl hpl, rfl, rfl⟩
  refine ⟨⟨?_, ?_, ?_, ?_⟩, hk⟩
  · intro k p hp
    rcases dead_get hp with rfl | ⟨_, hp⟩
    · trivial
    · exact (hR.obj k p hp).keep hk rfl (Nat.le_refl _) rfl rfl (fun _ => rfl)
  · intro k k' p p' hp hp' hpl hpl' e
    rcases dead_get hp with rfl | ⟨_, hp⟩
    · simp [Obj.live] at hpl
    · rcases dead_get hp' with rfl | ⟨_, hp'⟩
      · simp [Obj.live] at hpl'
      · exact hR.inj k k' p p' hp hp' hpl hpl' e
  · intro k p hp hpl
    rcases dead_get hp with rfl | ⟨hne, hp⟩
    · simp [Obj.live] at hpl
    · have := hR.out k p hp hpl
      refine ⟨this.1, fun hm h => ?_, this.2.2⟩
      rcases h with h | h
      · exact this.2.1 hm h
      · exact hne (hR.inj k id p o hp ho hpl hl h)
  · rintro b (hb | rfl)
    · exact hR.fresh b hb
    · exact (hR.out id o ho hl).1

theorem adopt_Ext {L' : Lay} {s' : St} {w' : World} (hx : Ext Φ L s w L' s' w') {b base : Nat} (hnew : own Φ L s b ∨ w.heap.size ≤ b) (hΦ : ¬ Φ b) (o : Nat → Obj) (hst : (o s'.clk).st = s'.clk) : Ext Φ L s w (L'.add s'.σ.length b base) (s'.push o) w' := by
  refine ⟨hx.size, hx.cells, hx.kept, ?_, Nat.le_trans hx.clk (by simp [St.push]), ?_, hx.ok, ?_, hx.mine, ?_, hx.os, hx.tape, hx.output⟩
  · rintro c (hc | ⟨k, p, hk, hpl, hc⟩)
    · exact .inl (.inl hc)
    · rcases push_get hk with ⟨rfl, rfl⟩ | ⟨hlt, hk⟩
      · rw [Lay.add_blk] at hc; subst hc; exact hnew
      · rw [Lay.add_blk_ne _ (by omega)] at hc
        exact hx.owns c (.inr ⟨k, p, hk, hpl, hc⟩)
  · intro id st hk
    have h1 := hx.knows id st hk
    refine ⟨by simp only [St.push]; have := h1.1; omega, fun e => ?_⟩
    rcases push_get e with ⟨rfl, h⟩ | ⟨c, hk'⟩
    · have h2 := h1.1
      rw [← h] at hst
      have h3 : st = s'.clk := hst
      omega
    · exact h1.2 hk'
  · intro k p hk hpl hkn
    rcases push_get hk with ⟨rfl, rfl⟩ | ⟨c, hk'⟩
    · have h1 := hkn.1
      have h2 := hx.clk
      rw [hst] at h1
      omega
    · obtain ⟨q, g1, g2, g3, g4, g5⟩ := hx.old k p hk' hpl hkn
      exact ⟨q, g1, g2, g3, by rw [Lay.add_blk_ne _ (by omega)]; exact g4, by rw [Lay.add_base_ne _ (by omega)]; exact g5⟩
  · intro k p hk hpl
    rcases push_get hk with ⟨rfl, rfl⟩ | ⟨c, hk'⟩
    · rw [Lay.add_blk]; exact .inr hΦ
    · rw [Lay.add_blk_ne _ (by omega)]
      exact hx.new k p hk' hpl

theorem adopt_R (hR : R Φ L s w) {b base : Nat} (hb : b < w.heap.size) (hno : ¬ own Φ L s b) (o : Nat → Obj) (hst : (o s.clk).st = s.clk)
    (hk : ∀ (id : Nat) (p : Obj), s.σ[id]? = some p → ObjOk Φ (L.add s.σ.length b base) (s.push o) w id p) (hok : ObjOk Φ (L.add s.σ.length b base) (s.push o) w s.σ.length (o s.clk)) :
    R Φ (L.add s.σ.length b base) (s.push o) w := by
  refine ⟨?_, ?_, ?_, hR.fresh⟩
  · intro k p hp
    rcases push_get hp with ⟨rfl, rfl⟩ | ⟨_, hp⟩
    · exact hok
    · exact hk k p hp
  · intro k k' p p' hp hp' hpl hpl' e
    rcases push_get hp with ⟨rfl, rfl⟩ | ⟨c, h1⟩
    · rcases push_get hp' with ⟨rfl, rfl⟩ | ⟨c', h2⟩
      · rfl
      · rw [Lay.add_blk, Lay.add_blk_ne _ (by omega)] at e
        exact absurd (.inr ⟨k', p', h2, hpl', e.symm⟩) hno
    · rcases push_get hp' with ⟨rfl, rfl⟩ | ⟨c', h2⟩
      · rw [Lay.add_blk, Lay.add_blk_ne _ (by omega)] at e
        exact absurd (.inr ⟨k, p, h1, hpl, e⟩) hno
      · rw [Lay.add_blk_ne _ (by omega), Lay.add_blk_ne _ (by omega)] at e
        exact hR.inj k k' p p' h1 h2 hpl hpl' e
  · intro k p hp hpl
    rcases push_get hp with ⟨rfl, rfl⟩ | ⟨c, h1⟩
    · rw [Lay.add_blk]
      exact ⟨hb, fun _ hΦ => hno (.inl hΦ), by rw [hst]; simp [St.push]⟩
    · have := hR.out k p h1 hpl
      rw [Lay.add_blk_ne _ (by omega)]
      refine ⟨this.1, this.2.1, by simp only [St.push]; omega⟩

/-- a fresh slice, and where it lies -/
theorem thaw_sound {Φ' : Nat → Prop} {L' : Lay} {s' : St} {w' : World} (hR' : R Φ' L' s' w') {n0 : Nat} {r d : D} {v : Value} {s2 : St} (hv : Rel Φ' L' s' w' r v) (h : thaw1 s' n0 s r = some (d, s2))
    (hR : R Φ L s w') (hown : ∀ b, own Φ L s b → own Φ' L' (s'.upto n0) b)
    {L₀ : Lay} {s₀ : St} {w₀ : World} (hx : Ext Φ L₀ s₀ w₀ L s w') (hnew : ∀ b, own Φ' L' s' b → own Φ L₀ s₀ b ∨ w₀.heap.size ≤ b)
    (hkeep : ∀ (b base : Nat) (o : Nat → Obj), ¬ own Φ L s b → own Φ' L' s' b → (o s.clk).st = s.clk → ∀ (id : Nat) (p : Obj), s.σ[id]? = some p → ObjOk Φ (L.add s.σ.length b base) (s.push o) w' id p) :
    ∃ L2, R Φ L2 s2 w' ∧ Ext Φ L₀ s₀ w₀ L2 s2 w' ∧ Rel Φ L2 s2 w' d v := by
  unfold thaw1 at h
  split at h
  · rename_i id st len
    split at h
    case isFalse => simp at h
    case isTrue hge =>
      obtain ⟨hge, hmine⟩ := hge
      split at h
      · rename_i rs esz hro
        split at h
        · rename_i rs' hrs'
          split at h
          · rename_i hid
            simp at h
            obtain ⟨rfl, rfl⟩ := h
            rw [St.rowsOf_some] at hro
            obtain ⟨hlen, hget⟩ := allR_spec _ _ hrs'
            have hout := hR'.out _ _ hro rfl
            obtain ⟨dR, dK⟩ := dead_R hR' hro rfl
            have hb' : own Φ' L' s' (L'.blk id) := .inr ⟨id, _, hro, rfl, rfl⟩
            have hno : ¬ own Φ L s (L'.blk id) := by
              intro hc
              rcases hown _ hc with hc | ⟨id', o', ho', hl', hbb⟩
              · exact hout.2.1 hmine hc
              · obtain ⟨hlt, ho'⟩ := upto_get ho'
                have := hR'.inj id' id o' _ ho' hro hl' rfl hbb
                omega
            cases hv with
            | @osl _ _ _ _ c a hst hc hadr =>
              obtain ⟨h1, h2, h3, h4, h5⟩ := hadr _ _ hro
              obtain ⟨g1, ⟨T, m, g2, g3, g4⟩, g5⟩ := hR'.obj _ _ hro
              have hx2 := adopt_Ext hx (base := L'.base id) (hnew _ hb') (fun h => hno (.inl h)) (.rows · rs' esz) rfl
              have hlen' : ∀ (i : Nat) (r : List D), rs'[i]? = some r → ∃ r0, rs[i]? = some r0 ∧ allL (frz { s' with σ := setL s'.σ id .dead } n0 frzFuel) r0 = some r := hget
              have hR2 : R Φ (L.add s.σ.length (L'.blk id) (L'.base id)) (s.push (.rows · rs' esz)) w' := by
                refine adopt_R hR hout.1 hno (.rows · rs' esz) rfl (hkeep _ _ _ hno hb' rfl) ?_
                refine ⟨?_, ⟨T, m, ?_, ?_, ?_⟩, ?_⟩
                · intro r hr
                  obtain ⟨i, hi⟩ := List.getElem?_of_mem hr
                  obtain ⟨r0, hr0, ha⟩ := hlen' i r hi
                  rw [(allL_spec _ _ ha).1]
                  exact g1 r0 (List.mem_of_getElem? hr0)
                · rw [Lay.add_blk]; exact g2
                · rw [Lay.add_base, hlen]; exact g3
                · rw [Lay.add_blk]; exact g4
                · intro i r hr j e he
                  obtain ⟨r0, hr0, ha⟩ := hlen' i r hr
                  obtain ⟨e0, he0, hf⟩ := (allL_spec _ _ ha).2 j e he
                  obtain ⟨y, hy, hy1, hyr⟩ := g5 _ _ hr0 j e0 he0
                  refine ⟨y, by rw [Lay.add_blk, Lay.add_base]; exact hy, hy1, ?_⟩
                  have := frz_sound dR _ _ _ _ hf (hyr.keep dK)
                  refine this.move (Nat.le_refl _) (fun _ _ _ => rfl) ?_ (noIdsL_get _ (noIdsR_get _ hid _ _ hr) _ _ he)
                  rintro b _ hb
                  have conv : own Φ L s b → own (fun b => Φ' b ∨ b = L'.blk id) L' (St.upto { s' with σ := setL s'.σ id .dead } n0) b := by
                    intro hc
                    rcases hown _ hc with hc | ⟨k, p, hp, hpl, hpb⟩
                    · exact .inl (.inl hc)
                    · obtain ⟨hlt, hp⟩ := upto_get hp
                      refine .inr ⟨k, p, ?_, hpl, hpb⟩
                      show ((setL s'.σ id .dead).take n0)[k]? = some p
                      rw [List.getElem?_take, if_pos hlt, setL_eq, List.getElem?_set_ne (by omega)]
                      exact hp
                  rcases hb with hb | ⟨k, p, hp, hpl, hpb⟩
                  · exact conv (.inl hb)
                  · rcases push_get hp with ⟨rfl, rfl⟩ | ⟨hlt, hp⟩
                    · rw [Lay.add_blk] at hpb; exact .inl (.inr hpb.symm)
                    · rw [Lay.add_blk_ne _ (by omega)] at hpb
                      exact conv (.inr ⟨k, p, hp, hpl, hpb⟩)
              refine ⟨_, hR2, hx2, ?_⟩
              refine .osl (by simp [St.push, St.knows]) hc ?_
              intro rs2 esz2 ho2
              have : (s.push (.rows · rs' esz)).σ[s.σ.length]? = some (.rows s.clk rs' esz) := by simp [St.push]
              rw [this] at ho2
              simp at ho2
              obtain ⟨rfl, rfl⟩ := ho2
              rw [Lay.add_blk, Lay.add_base, hlen]
              exact ⟨h1, h2, h3, h4, h5⟩
          · simp at h
        · simp at h
      · simp at h
  · rename_i hd
    simp at h
    obtain ⟨rfl, rfl⟩ := h
    cases hv.v_inv
    exact ⟨L, hR, hx, .v rfl⟩
  · simp at h

/-- the modes of a call -/
theorem callF_sound (hE : EnvOk3 E P) (hK : KOk E P K) (hD : DrawOk E P K) {c r : Nat} {hide : List Nat} {f : FuncId} {args : List D} {s s' : St} {res : CRes} (h : callF E K c r hide f args s = some (res, s')) :
    (∃ fn, E.fn f = some fn ∧ fn.body.isSome = true) ∧
    ∀ (F : Fence) (n : Nat) (Φ : Nat → Prop) (L : Lay) (w : World) (vs : Array Value), Calm F → L.ok = E.okC → R Φ L s w → RelL Φ L s w args vs.toList → CallsIn F n P f vs w (CallPost Φ L s w res s') := by
  unfold callF at h
  split at h
  · -- pure
    split at h
    · rename_i hid
      split at h
      · rename_i r0 s1 hb
        split at h
        · rename_i r1 hfr
          split at h
          · rename_i hid1
            simp at h
            obtain ⟨rfl, rfl⟩ := h
            obtain ⟨hfn, hcall⟩ := bodyRun_sound hE hK hD hb
            refine ⟨hfn, fun F n Φ L w vs hF hok hR ha => ?_⟩
            have ha' : RelL (own Φ L s) L .empty w args vs.toList := ha.move (Nat.le_refl _) (fun _ _ _ => rfl) (fun b _ hb => empty_own hb) hid
            refine (hcall F n _ L w vs hF hok (empty_R hR) ha').mono ?_
            rintro e w' ⟨L', v, h1, h2, rfl, h3⟩
            obtain ⟨x, r⟩ := foreign_still hR (fun _ => Iff.rfl) (fun b hb => empty_own hb) h2
            exact ⟨L, v, r, x, rfl, (frz_sound h1 _ _ _ _ hfr h3).move (Nat.le_refl _) (fun _ _ _ => rfl) (fun b _ hb => .inl hb) hid1⟩
          · simp at h
        · simp at h
      · simp at h
    · simp at h
  · -- thaw
    split at h
    · rename_i hid
      split at h
      · rename_i r0 s1 hb
        split at h
        · rename_i r1 s2 hth
          simp at h
          obtain ⟨rfl, rfl⟩ := h
          obtain ⟨hfn, hcall⟩ := bodyRun_sound hE hK hD hb
          refine ⟨hfn, fun F n Φ L w vs hF hok hR ha => ?_⟩
          have ha' : RelL (own Φ L s) L .empty w args vs.toList := ha.move (Nat.le_refl _) (fun _ _ _ => rfl) (fun b _ hb => empty_own hb) hid
          refine (hcall F n _ L w vs hF hok (empty_R hR) ha').mono ?_
          rintro e w' ⟨L', v, h1, h2, rfl, h3⟩
          obtain ⟨x, r⟩ := foreign_still hR (fun _ => Iff.rfl) (fun b hb => empty_own hb) h2
          have hnew : ∀ b, own (own Φ L s) L' s1 b → own Φ L s b ∨ w.heap.size ≤ b := fun b hb => (h2.owns b hb).imp empty_own id
          obtain ⟨L2, q1, q2, q3⟩ := thaw_sound h1 h3 hth r (fun b hb => .inl hb) x hnew (fun b base o hno hb ho id p hp => by
            have hge : w.heap.size ≤ b := (hnew b hb).resolve_left hno
            have xe := adopt_Ext x (base := base) (.inr hge) (fun h => hno (.inl h)) o ho
            by_cases hl : p.live = true
            · exact (hR.obj id p hp).carry xe (Lay.add_blk_ne _ (by have := lt_of_get hp; omega)) (Lay.add_base_ne _ (by have := lt_of_get hp; omega)) (h2.kept _ (.inr ⟨id, p, hp, hl, rfl⟩))
            · exact (hR.obj id p hp).carry_dull xe (by simpa using hl))
          exact ⟨L2, v, q1, q2, rfl, q3⟩
        · simp at h
      · simp at h
    · split at h
      · rename_i r0 s1 hb
        split at h
        · rename_i r1 s2 hth
          simp at h
          obtain ⟨rfl, rfl⟩ := h
          obtain ⟨hfn, hcall⟩ := bodyRun_sound hE hK hD hb
          refine ⟨hfn, fun F n Φ L w vs hF hok hR ha => ?_⟩
          refine (hcall F n _ L w vs hF hok hR ha).mono ?_
          rintro e w' ⟨L', v, h1, h2, rfl, h3⟩
          obtain ⟨L2, q1, q2, q3⟩ := thaw_sound h1 h3 hth (upto_R h1 _) (fun b hb => hb) (h2.trans (upto_Ext _)) (fun b hb => h2.owns b hb) (fun b base o hno hb ho id p hp => by
            have kp : Keeps Φ L' s1 w' Φ (L'.add (s1.upto s.σ.length).σ.length b base) ((s1.upto s.σ.length).push o) w' := by
              refine ⟨Nat.le_refl _, fun _ _ _ => rfl, ?_, ?_, ?_⟩
              · rintro c _ (hc | ⟨k, q, hk, hql, hc⟩)
                · exact .inl hc
                · rcases push_get hk with ⟨rfl, rfl⟩ | ⟨hlt, hk⟩
                  · rw [Lay.add_blk] at hc; subst hc; exact hb
                  · rw [Lay.add_blk_ne _ (by omega)] at hc
                    exact .inr ⟨k, q, (upto_get hk).2, hql, hc⟩
              · intro k st hk
                refine ⟨by simp only [St.push]; have := hk.1; show st < s1.clk + 1; omega, fun e => ?_⟩
                rcases push_get e with ⟨rfl, hh⟩ | ⟨_, hk'⟩
                · rw [← hh] at ho
                  have h3 : st = s1.clk := ho
                  have := hk.1
                  omega
                · exact hk.2 (upto_get hk').2
              · intro k q hk hql hkn
                rcases push_get hk with ⟨rfl, rfl⟩ | ⟨hlt, hk⟩
                · have := hkn.1
                  rw [ho] at this
                  exact absurd this (by show ¬ s1.clk < s1.clk; omega)
                · exact ⟨q, (upto_get hk).2, hql, Obj.alike_refl hql, Lay.add_blk_ne _ (by omega), Lay.add_base_ne _ (by omega)⟩
            exact (h1.obj id p (upto_get hp).2).keep kp rfl (by show s1.clk ≤ s1.clk + 1; omega) (Lay.add_blk_ne _ (by have := lt_of_get hp; omega)) (Lay.add_base_ne _ (by have := lt_of_get hp; omega)) (fun _ => rfl))
          exact ⟨L2, v, q1, q2, rfl, q3⟩
        · simp at h
      · simp at h
  · -- ro
    split at h
    · rename_i r0 s1 hb
      split at h
      · rename_i r1 hfr
        split at h
        · rename_i hid1
          simp at h
          obtain ⟨rfl, rfl⟩ := h
          obtain ⟨hfn, hcall⟩ := bodyRun_sound hE hK hD hb
          refine ⟨hfn, fun F n Φ L w vs hF hok hR ha => ?_⟩
          have hofr : ∀ b, own (own Φ L s) L { s with ro := s.σ.length } b → own Φ L s b := by
            rintro b (hb | ⟨id, o, ho, hl, hb⟩)
            · exact hb
            · exact .inr ⟨id, o, ho, hl, hb⟩
          have hk : Keeps Φ L s w (own Φ L s) L { s with ro := s.σ.length } w :=
            ⟨Nat.le_refl _, fun _ _ _ => rfl, fun b _ h => hofr b h, fun _ _ h => h, fun _ o ho hl _ => ⟨o, ho, hl, Obj.alike_refl hl, rfl, rfl⟩⟩
          refine (hcall F n _ L w vs hF hok (ro_R hR) (ha.keep hk)).mono ?_
          rintro e w' ⟨L', v, h1, h2, rfl, h3⟩
          obtain ⟨x, r⟩ := foreign_still hR (fun _ => Iff.rfl) hofr h2
          exact ⟨L, v, r, x, rfl, (frz_sound h1 _ _ _ _ hfr h3).move (Nat.le_refl _) (fun _ _ _ => rfl) (fun b _ hb => .inl hb) hid1⟩
        · simp at h
      · simp at h
    · simp at h
  · -- ref
    split at h
    · rename_i r0 s1 hb
      split at h
      · rename_i r1 σ hfr hrs
        simp at h
        obtain ⟨rfl, rfl⟩ := h
        obtain ⟨hfn, hcall⟩ := bodyRun_sound hE hK hD hb
        refine ⟨hfn, fun F n Φ L w vs hF hok hR ha => ?_⟩
        obtain ⟨lR, lK⟩ := lock_R hR hide
        refine (hcall F n _ L w vs hF hok lR (ha.keep lK)).mono ?_
        rintro e w' ⟨L', v, h1, h2, rfl, h3⟩
        obtain ⟨q1, q2, q3⟩ := locked_ok (s' := s1.upto s.σ.length) hR hrs (upto_R h1 _) (h2.trans (upto_Ext _))
        exact ⟨L', v, q1, q2, rfl, (frz_sound h1 _ _ _ _ hfr h3).keep q3⟩
      · simp at h
    · simp at h
  · -- keep
    split at h
    · rename_i r0 s1 hb
      simp at h
      obtain ⟨rfl, rfl⟩ := h
      exact bodyRun_sound hE hK hD hb
    · simp at h
#print axioms callF_sound
end Go.AM
