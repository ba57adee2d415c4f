/- Regions whose order is drawn: the walk; all calls. -/
import Derived.Test.YthkfhpiamddhoaaGreatAmDraw4
set_option autoImplicit false
namespace Go.AM

variable {E : Env} {P : Program} {K : Kall} {Φ : Nat → Prop} {L : Lay} {s : St} {w : World} {F : Fence} {n : Nat}

def NewOb (ob : Nat → Obj) : Prop := (∃ rs esz, ob = fun st => .rows st rs esz) ∨ ob = fun st => .map st []

theorem evalNew_spec {own : Bool} {a : Ac} {o : Oper} {nk : NewK} {ob : Nat → Obj} (h : evalNew E own a o = some (nk, ob)) :
    NewOb ob ∧ ∀ s : St, evalVal E own a s o = some (nk.d s.σ.length s.clk, s.push ob) := by
  obtain ⟨dst, op, type, pos, after, guard⟩ := o
  unfold evalNew at h
  simp only at h
  split at h
  · split at h
    · split at h
      · simp at h
        obtain ⟨rfl, rfl⟩ := h
        exact ⟨.inl ⟨_, _, rfl⟩, fun s => by simp_all [evalVal, NewK.d]⟩
      · simp at h
    · simp at h
  · split at h
    · split at h
      · simp at h
        obtain ⟨rfl, rfl⟩ := h
        exact ⟨.inl ⟨_, _, rfl⟩, fun s => by simp_all [evalVal, NewK.d]⟩
      · simp at h
    · simp at h
  · split at h
    · simp at h
      obtain ⟨rfl, rfl⟩ := h
      exact ⟨.inr rfl, fun s => by simp_all [evalVal, NewK.d]⟩
    · simp at h
  · split at h
    · simp at h
      obtain ⟨rfl, rfl⟩ := h
      exact ⟨.inr rfl, fun s => by simp_all [evalVal, NewK.d]⟩
    · simp at h
  · rename_i t l c
    split at h
    · rename_i len s' hev
      split at h
      · rename_i st rs esz hσ
        simp at h
        obtain ⟨rfl, rfl⟩ := h
        unfold evalVal at hev
        simp only at hev
        split at hev
        · rename_i elem n m hd hl hc
          split at hev
          · rename_i z by_ hz hb
            split at hev
            · rename_i hcond
              simp [St.push, St.empty] at hev
              obtain ⟨rfl, rfl⟩ := hev
              simp at hσ
              obtain ⟨h0, rfl, rfl⟩ := hσ
              refine ⟨.inl ⟨_, _, rfl⟩, fun s => ?_⟩
              unfold evalVal
              simp only [hd, hl, hc, hz, hb]
              rw [if_pos (by simpa using hcond)]
              rfl
            · simp at hev
          · simp at hev
        · simp at hev
      · simp at h
    · simp at h
  · rename_i t m ps
    split at h
    · rename_i len s' hev
      split at h
      · rename_i st rs esz hσ
        simp at h
        obtain ⟨rfl, rfl⟩ := h
        unfold evalVal at hev
        simp only at hev
        split at hev
        · rename_i l hl
          unfold buildSliceOp at hev
          split at hev
          · split at hev
            · split at hev
              · split at hev
                · split at hev
                  · split at hev
                    · simp at hev
                    · simp [St.push, St.empty] at hev
                      obtain ⟨rfl, rfl⟩ := hev
                      simp at hσ
                      obtain ⟨_, rfl, rfl⟩ := hσ
                      refine ⟨.inl ⟨_, _, rfl⟩, fun s => ?_⟩
                      simp_all [evalVal, NewK.d, buildSliceOp]
                  · simp at hev
                · simp at hev
              · simp at hev
            · simp at hev
          · simp at hev
        · simp at hev
      · simp at h
    · simp at h
  · simp at h

/-- what was laid at the end lies at the place that was kept -/
theorem relocate (hR : R Φ L s w) {slot st : Nat} (hslot : s.σ[slot]? = some (.resv st)) {ob : Nat → Obj} (hob : NewOb ob) {nk : NewK} {L' : Lay} {w' : World} {x : Value}
    (h1 : R Φ L' (s.push ob) w') (h2 : Ext Φ L s w L' (s.push ob) w') (h3 : Rel Φ L' (s.push ob) w' (nk.d s.σ.length s.clk) x) :
    let L2 : Lay := ⟨fun i => if i = slot then L'.blk s.σ.length else L'.blk i, fun i => if i = slot then L'.base s.σ.length else L'.base i, L'.ok⟩
    let s2 : St := { s with σ := setL s.σ slot (ob st), clk := s.clk + 1 }
    R Φ L2 s2 w' ∧ Ext Φ L s w L2 s2 w' ∧ Rel Φ L2 s2 w' (nk.d slot st) x := by
  intro L2 s2
  have hlt := lt_of_get hslot
  have hst : ∀ c, (ob c).st = c := by rcases hob with ⟨rs, esz, rfl⟩ | rfl <;> intro c <;> rfl
  have hlive : ∀ c, (ob c).live = true := by rcases hob with ⟨rs, esz, rfl⟩ | rfl <;> intro c <;> rfl
  have hstlt : st < s.clk := hR.obj _ _ hslot
  have hpush : ∀ k, k < s.σ.length → (s.push ob).σ[k]? = s.σ[k]? := fun k hk => by simp only [St.push]; rw [List.getElem?_append_left hk]
  have hnew : (s.push ob).σ[s.σ.length]? = some (ob s.clk) := by simp [St.push]
  have get : ∀ (k : Nat) (p : Obj), s2.σ[k]? = some p → (k = slot ∧ p = ob st) ∨ (k ≠ slot ∧ s.σ[k]? = some p ∧ k < s.σ.length) := by
    intro k p hk
    have hk : (setL s.σ slot (ob st))[k]? = some p := hk
    rw [setL_eq, List.getElem?_set] at hk
    by_cases c : slot = k
    · subst c
      simp only [if_true, hlt] at hk
      simp at hk
      exact .inl ⟨rfl, hk.symm⟩
    · simp only [c, if_false] at hk; exact .inr ⟨fun e => c e.symm, hk, lt_of_get hk⟩
  have hslot2 : s2.σ[slot]? = some (ob st) := by
    show (setL s.σ slot (ob st))[slot]? = _
    rw [setL_eq]; simp [hlt]
  have b1 : L2.blk slot = L'.blk s.σ.length := by simp [L2]
  have b2 : L2.base slot = L'.base s.σ.length := by simp [L2]
  have n1 : ∀ k, k ≠ slot → L2.blk k = L'.blk k := fun k hk => by simp [L2, hk]
  have n2 : ∀ k, k ≠ slot → L2.base k = L'.base k := fun k hk => by simp [L2, hk]
  have howns : ∀ b, own Φ L2 s2 b → own Φ L' (s.push ob) b := by
    rintro b (hb | ⟨k, p, hk, hpl, hb⟩)
    · exact .inl hb
    · rcases get k p hk with ⟨rfl, rfl⟩ | ⟨c, hk, hkl⟩
      · exact .inr ⟨_, _, hnew, hlive _, by rw [← hb, b1]⟩
      · exact .inr ⟨k, p, by rw [hpush k hkl]; exact hk, hpl, by rw [← hb, n1 k c]⟩
  have kp : Keeps Φ L' (s.push ob) w' Φ L2 s2 w' := by
    refine ⟨Nat.le_refl _, fun _ _ _ => rfl, fun b _ h => howns b h, ?_, ?_⟩
    · intro k c hk
      refine ⟨hk.1, fun e => ?_⟩
      rcases get k _ e with ⟨rfl, h⟩ | ⟨_, e, hkl⟩
      · have := hlive st; rw [← h] at this; simp [Obj.live] at this
      · exact hk.2 (by rw [hpush k hkl]; exact e)
    · intro k p hk hpl hkn
      rcases get k p hk with ⟨rfl, rfl⟩ | ⟨c, hk, hkl⟩
      · exact absurd (by rw [hpush _ hlt, hslot, hst]) hkn.2
      · exact ⟨p, by rw [hpush k hkl]; exact hk, hpl, Obj.alike_refl hpl, n1 k c, n2 k c⟩
  refine ⟨⟨?_, ?_, ?_, h1.fresh⟩, ?_, ?_⟩
  · intro k p hk
    rcases get k p hk with ⟨rfl, rfl⟩ | ⟨c, hk, hkl⟩
    · have := h1.obj _ _ hnew
      rcases hob with ⟨rs, esz, rfl⟩ | rfl
      · obtain ⟨g1, ⟨T, m, g2, g3, g4⟩, g5⟩ := this
        refine ⟨g1, ⟨T, m, by rw [b1]; exact g2, by rw [b2]; exact g3, by rw [b1]; exact g4⟩, ?_⟩
        intro i r hr j d hd
        obtain ⟨y, hy, hy1, hyr⟩ := g5 i r hr j d hd
        exact ⟨y, by rw [b1, b2]; exact hy, hy1, hyr.keep kp⟩
      · obtain ⟨en, ck, g1, g2, g3⟩ := this
        exact ⟨en, ck, by rw [b1]; exact g1, g2, fun i p e hp he => by simp at hp⟩
    · exact (h1.obj k p (by rw [hpush k hkl]; exact hk)).keep kp rfl (Nat.le_refl _) (n1 k c) (n2 k c) (fun _ => rfl)
  · intro k k' p p' hk hk' hpl hpl' e
    rcases get k p hk with ⟨rfl, rfl⟩ | ⟨c, hk1, hkl⟩
    · rcases get k' p' hk' with ⟨rfl, rfl⟩ | ⟨c', hk', hkl'⟩
      · rfl
      · rw [b1, n1 k' c'] at e
        have := h1.inj _ _ _ _ hnew (by rw [hpush k' hkl']; exact hk') (hlive _) hpl' e
        omega
    · rcases get k' p' hk' with ⟨rfl, rfl⟩ | ⟨c', hk', hkl'⟩
      · rw [b1, n1 k c] at e
        have := h1.inj _ _ _ _ (by rw [hpush k hkl]; exact hk1) hnew hpl (hlive _) e
        omega
      · rw [n1 k c, n1 k' c'] at e
        exact h1.inj k k' p p' (by rw [hpush k hkl]; exact hk1) (by rw [hpush k' hkl']; exact hk') hpl hpl' e
  · intro k p hk hpl
    rcases get k p hk with ⟨rfl, rfl⟩ | ⟨c, hk, hkl⟩
    · have := h1.out _ _ hnew (hlive _)
      rw [b1]
      refine ⟨this.1, fun _ hΦ => ?_, by rw [hst]; show st < s.clk + 1; omega⟩
      rcases h2.new _ _ hnew (hlive _) with ⟨q, g1, _⟩ | h
      · have := lt_of_get g1; omega
      · exact h hΦ
    · have := h1.out k p (by rw [hpush k hkl]; exact hk) hpl
      rw [n1 k c]
      exact ⟨this.1, this.2.1, this.2.2⟩
  · refine ⟨h2.size, h2.cells, h2.kept, fun b hb => h2.owns b (howns b hb), by show s.clk ≤ s.clk + 1; omega, ?_, h2.ok, ?_, fun _ => rfl, ?_, h2.os, h2.tape, h2.output⟩
    · intro k c hk
      exact kp.knows k c (h2.knows k c hk)
    · intro k p hk hpl hkn
      rcases get k p hk with ⟨rfl, rfl⟩ | ⟨c, hk, hkl⟩
      · exact absurd (by rw [hslot, hst]) hkn.2
      · obtain ⟨q, g1, g2, g3, g4, g5⟩ := h2.old k p (by rw [hpush k hkl]; exact hk) hpl hkn
        exact ⟨q, g1, g2, g3, by rw [n1 k c]; exact g4, by rw [n2 k c]; exact g5⟩
    · intro k p hk hpl
      rcases get k p hk with ⟨rfl, rfl⟩ | ⟨c, hk, hkl⟩
      · rw [b1]
        rcases h2.new _ _ hnew (hlive _) with ⟨q, g1, _⟩ | h
        · have := lt_of_get g1; omega
        · exact .inr h
      · rw [n1 k c]
        exact h2.new k p (by rw [hpush k hkl]; exact hk) hpl
  · have hkn : s2.knows slot st := ⟨by show st < s.clk + 1; omega, by rw [hslot2]; intro e; have := hlive st; simp at e; rw [e] at this; simp [Obj.live] at this⟩
    cases nk with
    | ref =>
      simp only [NewK.d] at h3 ⊢
      cases h3 with
      | @ref _ _ _ _ a _ hadr =>
        refine .ref hkn (fun rs esz ho => ?_)
        rw [hslot2] at ho
        rcases hob with ⟨rs', esz', rfl⟩ | rfl
        · simp at ho
          obtain ⟨rfl, rfl⟩ := ho
          rw [b1, b2]
          exact hadr _ _ hnew
        · simp at ho
    | mp =>
      simp only [NewK.d] at h3 ⊢
      cases h3 with
      | @mp _ _ r _ hadr =>
        refine .mp hkn (fun es ho => ?_)
        rw [hslot2] at ho
        rcases hob with ⟨rs', esz', rfl⟩ | rfl
        · simp at ho
        · rw [b1]; exact hadr _ hnew
    | osl len =>
      simp only [NewK.d] at h3 ⊢
      cases h3 with
      | @osl _ _ _ _ c a _ hc hadr =>
        refine .osl hkn hc (fun rs esz ho => ?_)
        rw [hslot2] at ho
        rcases hob with ⟨rs', esz', rfl⟩ | rfl
        · simp at ho
          obtain ⟨rfl, rfl⟩ := ho
          rw [b1, b2]
          exact hadr _ _ hnew
        · simp at ho

theorem resv_ok (hR : R Φ L s w) : R Φ L (s.push .resv) w ∧ Ext Φ L s w L (s.push .resv) w := by
  have hx : Ext Φ L s w L (s.push .resv) w := by
    refine ⟨Nat.le_refl _, fun _ _ _ => rfl, fun _ _ => rfl, ?_, by simp [St.push], ?_, rfl, ?_, fun _ => rfl, ?_, rfl, rfl, rfl⟩
    · rintro b (hb | ⟨k, p, hk, hpl, hb⟩)
      · exact .inl (.inl hb)
      · rcases push_get hk with ⟨rfl, rfl⟩ | ⟨_, hk⟩
        · simp [Obj.live] at hpl
        · exact .inl (.inr ⟨k, p, hk, hpl, hb⟩)
    · intro k st hk
      refine ⟨by simp only [St.push]; have := hk.1; omega, fun e => ?_⟩
      rcases push_get e with ⟨rfl, h⟩ | ⟨_, h⟩
      · simp at h; have := hk.1; omega
      · exact hk.2 h
    · intro k p hk hpl _
      rcases push_get hk with ⟨rfl, rfl⟩ | ⟨_, hk⟩
      · simp [Obj.live] at hpl
      · exact ⟨p, hk, hpl, Obj.alike_refl hpl, rfl, rfl⟩
    · intro k p hk hpl
      rcases push_get hk with ⟨rfl, rfl⟩ | ⟨_, hk⟩
      · simp [Obj.live] at hpl
      · exact .inl ⟨p, hk, hpl, rfl⟩
  refine ⟨⟨?_, ?_, ?_, hR.fresh⟩, hx⟩
  · intro k p hk
    rcases push_get hk with ⟨rfl, rfl⟩ | ⟨_, hk⟩
    · show s.clk < (s.push .resv).clk; simp [St.push]
    · by_cases hl : p.live = true
      · exact (hR.obj k p hk).carry hx rfl rfl rfl
      · exact (hR.obj k p hk).carry_dull hx (by simpa using hl)
  · intro k k' p p' hk hk' hpl hpl' e
    rcases push_get hk with ⟨rfl, rfl⟩ | ⟨_, hk⟩
    · simp [Obj.live] at hpl
    · rcases push_get hk' with ⟨rfl, rfl⟩ | ⟨_, hk'⟩
      · simp [Obj.live] at hpl'
      · exact hR.inj k k' p p' hk hk' hpl hpl' e
  · intro k p hk hpl
    rcases push_get hk with ⟨rfl, rfl⟩ | ⟨_, hk⟩
    · simp [Obj.live] at hpl
    · have := hR.out k p hk hpl
      exact ⟨this.1, this.2.1, by simp only [St.push]; omega⟩

theorem reserve_ok : ∀ (k : Nat) (s : St), R Φ L s w → R Φ L (s.reserve k) w ∧ Ext Φ L s w L (s.reserve k) w
  | 0, s, hR => ⟨hR, Ext.refl _ _ _ _⟩
  | k + 1, s, hR => by
    obtain ⟨h1, h2⟩ := resv_ok hR
    obtain ⟨h3, h4⟩ := reserve_ok k _ h1
    exact ⟨h3, h2.trans h4⟩

/-- one operation of a region whose order is drawn -/
theorem opDraw_sound (hE : EnvOk3 E P) (hK : KOk E P K) (hF : Calm F) (hok : L.ok = E.okC) (hR : R Φ L s w) {fid rid base i : Nat} {info : DrawInfo} {a : Ac} {ac : Act} (hA : ARel Φ L s w a ac) {o : Oper} {d : D} {s' : St} {f : Foot}
    (h : opDraw E K fid rid info base i a s o = some (d, s', f)) {next : Act → World → Prop} {Q : Exit → Act → World → Prop}
    (hn : ∀ (L' : Lay) (w' : World) (x : Value), R Φ L' s' w' → Ext Φ L s w L' s' w' → Rel Φ L' s' w' d x → next (ac.put o.dst x) w') :
    o.wpIn F n P ac w next Q := by
  have plain : ∀ hd, opPlain E K fid rid hd a s o = some (d, s', f) → o.wpIn F n P ac w next Q := by
    intro hd hp
    have : opRun E K fid rid hd a s o = some (.ret d, s') := by
      unfold opPlain at hp
      unfold opRun
      split at hp
      · rename_i d1 s1 hev; simp at hp; obtain ⟨rfl, rfl, _⟩ := hp; simp [hev]
      · rename_i f1 args hev
        split at hp
        · rename_i d1 s1 hk; simp at hp; obtain ⟨rfl, rfl, _⟩ := hp; simp [hev, hk]
        · simp at hp
      · rename_i id st args hev
        split at hp
        · rename_i d1 s1 hk; simp at hp; obtain ⟨rfl, rfl, _⟩ := hp; simp [hev, hk]
        · simp at hp
      · simp at hp
    exact opRun_sound hE hK hF hok hR hA this (fun L' w' x h1 h2 => hn L' w' x h1 h2)
  unfold opDraw at h
  split at h
  · split at h
    · rename_i nk ob hnew
      split at h
      · rename_i st s1 hfill
        simp at h
        obtain ⟨rfl, rfl, rfl⟩ := h
        unfold St.fill at hfill
        rw [getL_eq] at hfill
        split at hfill
        · rename_i st' hslot
          simp at hfill
          obtain ⟨rfl, rfl⟩ := hfill
          obtain ⟨hob, hval⟩ := evalNew_spec hnew
          have hncall : ∀ c, o.op ≠ .call c := by
            intro c hc
            obtain ⟨dst, op, type, pos, after, guard⟩ := o
            simp only at hc; subst hc
            simp [evalNew] at hnew
          have hndef : ∀ c, o.op ≠ .defer c := by
            intro c hc
            obtain ⟨dst, op, type, pos, after, guard⟩ := o
            simp only at hc; subst hc
            simp [evalNew] at hnew
          refine ⟨fun f _ => hF.fn f, ?_⟩
          rw [Oper.semAt_eq _ _ _ hndef]
          obtain ⟨x, w', L', hrun, h1, h2, h3⟩ := evalVal_sound hE.toEnvOk2 hR hA.tmps (hval s)
          obtain ⟨g1, g2, g3⟩ := relocate hR hslot hob h1 h2 h3
          rcases hrun with hrun | ⟨hrun, rfl⟩
          · rw [hrun]; exact hn _ _ _ g1 g2 g3
          · rw [hrun]; exact hn _ _ _ g1 g2 g3
        · simp at hfill
      · simp at h
    · exact plain _ h
  · exact plain _ h

theorem runI_sound (hE : EnvOk3 E P) (hK : KOk E P K) (hF : Calm F) {fid rid base : Nat} {ops : Array Oper} {info : DrawInfo} {Q : Exit → Act → World → Prop} : ∀ (l : List (Nat × Oper)) (L : Lay) (s : St) (w : World) (a : Ac) (ac : Act) (a' : Ac) (s' : St) (fs : List (Nat × Foot)),
    (∀ p ∈ l, ops[p.1]? = some p.2) → L.ok = E.okC → R Φ L s w → ARel Φ L s w a ac → runI E K fid rid ops info base l a s = some (a', s', fs) → (∀ x ac' w', ExPost Φ L s w .normal a' s' x ac' w' → Q x ac' w') →
    wpOpsIn F n P ops Q (l.map (·.1)) ac w
  | [], L, s, w, a, ac, a', s', fs, _, hok, hR, hA, h, hQ => by
    simp [runI] at h
    obtain ⟨rfl, rfl, rfl⟩ := h
    exact hQ _ _ _ ⟨L, hR, Ext.refl _ _ _ _, hA, rfl⟩
  | p :: l, L, s, w, a, ac, a', s', fs, hl, hok, hR, hA, h, hQ => by
    obtain ⟨a1, s1, f, fs', h1, h2, rfl⟩ := runI_cons_some h
    have hi := hl p (by simp)
    simp only [List.map_cons, wpOpsIn, hi, wantedD_rel hA.tmps]
    unfold stepT at h1
    by_cases hw : wantedD ops a p.2 = true
    · simp only [hw, if_true] at h1 ⊢
      split at h1
      · rename_i d s2 f2 hop
        simp at h1
        obtain ⟨rfl, rfl, rfl⟩ := h1
        refine opDraw_sound hE hK hF hok hR hA hop ?_
        intro L1 w1 x g1 g2 g3
        refine runI_sound hE hK hF l L1 _ w1 _ _ a' s' fs' (fun q hq => hl q (by simp [hq])) (g2.ok.trans hok) g1 ((hA.ext g2).put p.2.dst g3) h2 ?_
        intro y ac' w' hp
        exact hQ _ _ _ (hp.trans g2)
      · simp at h1
    · simp only [hw, if_false] at h1 ⊢
      simp at h1
      obtain ⟨rfl, rfl, rfl⟩ := h1
      exact ⟨fun f _ => hF.fn f, runI_sound hE hK hF l L s w _ _ a' s' fs' (fun q hq => hl q (by simp [hq])) hok hR (hA.put p.2.dst .und) h2 hQ⟩

theorem enum_spec : ∀ (os : List Oper) (k : Nat), (enum k os).length = os.length ∧ ∀ (j : Nat) (o : Oper), os[j]? = some o ↔ (enum k os)[j]? = some (k + j, o)
  | [], k => by simp [enum]
  | o :: os, k => by
    obtain ⟨h1, h2⟩ := enum_spec os (k + 1)
    refine ⟨by simp [enum, h1], ?_⟩
    intro j q
    cases j with
    | zero => simp [enum]
    | succ j =>
      simp only [enum, List.getElem?_cons_succ]
      rw [h2 j q, show k + 1 + j = k + (j + 1) by omega]

theorem pairsOk_spec {fs : List (Nat × Foot)} : ∀ {ps : List (Nat × Nat)}, pairsOk fs ps = true → ∀ k i, (k, i) ∈ ps → ∃ p q f g, fs[k]? = some (p, f) ∧ fs[i]? = some (q, g) ∧ compat f g = true
  | [], _, k, i, h => by simp at h
  | (x, y) :: r, hp, k, i, h => by
    simp only [pairsOk, Bool.and_eq_true] at hp
    simp at h
    rcases h with ⟨rfl, rfl⟩ | h
    · have := hp.1
      rw [getL_eq, getL_eq] at this
      split at this
      · rename_i p f q g h1 h2
        exact ⟨p, q, f, g, h1, h2, this⟩
      · simp at this
    · exact pairsOk_spec hp.2 k i h

theorem drawOk (hE : EnvOk3 E P) (hK : KOk E P K) (hG : KGood E K) : DrawOk E P K := by
  intro fid rid ops info hs F n Φ L s w a ac e a' s' hF hok hR hA h
  unfold runDraw at h
  split at h
  · rename_i a1 s1 fs hrun
    split at h
    · rename_i hpairs
      simp at h
      obtain ⟨rfl, rfl, rfl⟩ := h
      have hx0 : Ext Φ L s w L s { w with drawn := w.drawn + 1 } := Ext.still hR (Nat.le_refl _) (fun _ _ => rfl) ⟨rfl, rfl, rfl⟩
      have hR0 := hR.still hx0 (fun _ _ _ _ => rfl)
      obtain ⟨r1, x1⟩ := reserve_ok info.allocs.length s hR0
      have hops : ∀ p ∈ enum 0 ops.toList, ops[p.1]? = some p.2 := by
        intro p hp
        obtain ⟨j, hj⟩ := List.getElem?_of_mem hp
        have hlt := lt_of_get hj
        rw [(enum_spec ops.toList 0).1] at hlt
        have h2 := ((enum_spec ops.toList 0).2 j _).1 (List.getElem?_eq_getElem hlt)
        rw [h2] at hj
        simp at hj
        subst hj
        simp at hlt
        simp [hlt]
      have hfst : (enum 0 ops.toList).map (·.1) = List.range ops.size := by
        apply List.ext_getElem?
        intro j
        rw [List.getElem?_map]
        by_cases hj : j < ops.size
        · have h2 := ((enum_spec ops.toList 0).2 j ops[j]).1 (by simp [hj])
          rw [h2]
          simp [hj]
        · have : (enum 0 ops.toList)[j]? = none := by
            rw [List.getElem?_eq_none_iff, (enum_spec ops.toList 0).1]
            simpa using hj
          rw [this]
          simp [hj]
      have hfs := runI_fst hrun
      rw [hfst] at hfs
      have hfsat : ∀ k f, (k, f) ∈ fs → fs[k]? = some (k, f) := by
        intro k f hf
        obtain ⟨j, hj⟩ := List.getElem?_of_mem hf
        have := congrArg (fun l => l[j]?) hfs
        simp only [List.getElem?_map, hj, Option.map_some] at this
        have hjl : j < ops.size := by
          rcases Nat.lt_or_ge j ops.size with h | h
          · exact h
          · rw [List.getElem?_eq_none (by simpa using h)] at this; simp at this
        rw [List.getElem?_range hjl] at this
        simp at this
        subst this
        exact hj
      refine wpIn_region_draw ?_
      intro t
      have hm := hE.mixed
      simp only [Region.schedule, hm, Bool.true_or, if_true]
      have hAll : ∀ k fk i fi, (k, fk) ∈ fs → (i, fi) ∈ fs → k < i → ¬ before ops k i → compat fk fi = true := by
        intro k fk i fi hk hi hlt hb
        obtain ⟨ok, b1, t1, b1', t1', m1, st1⟩ := runI_mem hrun k fk hk
        obtain ⟨oi, b2, t2, b2', t2', m2, st2⟩ := runI_mem hrun i fi hi
        rcases static_pair hs (hops _ m1) (hops _ m2) hlt with h1 | ⟨_, h1 | h1 | ⟨h1, h1'⟩ | h1⟩
        · exact absurd h1 hb
        · rw [stepT_staticN h1 st1]; rfl
        · rw [stepT_staticN h1 st2]; cases fk <;> rfl
        · rcases stepT_staticR h1 st1 with rfl | ⟨_, rfl⟩
          · rfl
          · rcases stepT_staticR h1' st2 with rfl | ⟨_, rfl⟩ <;> rfl
        · obtain ⟨p, q, f, g, g1, g2, g3⟩ := pairsOk_spec hpairs k i h1
          rw [hfsat k fk hk] at g1
          rw [hfsat i fi hi] at g2
          simp at g1 g2
          rw [g1.2, g2.2]; exact g3
      obtain ⟨l, hl1, hl2, fs', hl3⟩ := lin_run hG hs ops.size t (Array.replicate ops.size false) (enum 0 ops.toList) a (s.reserve info.allocs.length) _ _ fs (by simp) (by rw [(enum_spec ops.toList 0).1]; simp) (by
          rw [hfst, List.filter_eq_self.2]
          intro j hj
          have : j < ops.size := by simpa using hj
          simp [this]) hops (by
          intro j o hj hl e he hb
          have : j < ops.size := (Array.getElem?_eq_some_iff.1 hj).1
          simp [this] at hl) hrun hAll
      have hx := hx0.trans x1
      unfold Region.linearise
      rw [← hl1]
      exact runI_sound hE hK hF l L _ _ a ac _ _ fs' hl2 hok r1 (hA.ext hx) hl3 (fun x ac' w' hp => hp.trans hx)
    · simp at h
  · simp at h
#print axioms drawOk

/-- every depth of calls -/
theorem kall_ok (hE : EnvOk3 E P) : ∀ k, KOk E P (kall E k) ∧ KGood E (kall E k)
  | 0 => ⟨⟨fun h => by simp [kall] at h, fun h => by simp [kall] at h⟩, ⟨fun _ h => by simp [kall] at h, fun _ h => by simp [kall] at h, fun _ h => by simp [kall] at h⟩⟩
  | k + 1 => by
    obtain ⟨hK, hG⟩ := kall_ok hE k
    have hD := drawOk hE hK hG
    refine ⟨⟨fun h => callF_sound hE hK hD h, fun h => yieldF_sound hE hK hD h⟩, ?_⟩
    have := callF_good (E := E) (K := kall E k)
    exact ⟨this.pure, this.ro, this.ref⟩
#print axioms kall_ok
end Go.AM
