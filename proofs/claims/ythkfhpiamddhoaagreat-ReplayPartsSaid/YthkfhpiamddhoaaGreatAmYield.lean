/- The walk of code: one round of a range over a function. -/
import Derived.Test.YthkfhpiamddhoaaGreatAmCall3
set_option autoImplicit false
namespace Go.AM

variable {E : Env} {P : Program} {K : Kall} {Φ : Nat → Prop} {L : Lay} {s : St} {w : World} {F : Fence} {n : Nat}

theorem putAll_rel : ∀ (ps : List Tmp) (ds ts : List D) (vs : List Value) (t : Array Value), RelL Φ L s w ts t.toList → RelL Φ L s w ds vs → ds.length = ps.length →
    RelL Φ L s w (putAll ts ps ds) ((ps.zip vs).foldl (fun t (p : Tmp × Value) => t.setIfInBounds p.1 p.2) t).toList
  | [], ds, ts, vs, t, ht, hd, _ => by simpa [putAll] using ht
  | p :: ps, [], ts, vs, t, ht, hd, hl => by simp at hl
  | p :: ps, d :: ds, ts, vs, t, ht, hd, hl => by
    obtain ⟨v, hv, hr⟩ := hd.get (i := 0) (d := d) rfl
    match vs, hd, hv with
    | [], hd, hv => simp at hv
    | v' :: vs, hd, hv =>
      simp at hv; subst hv
      have hd' : RelL Φ L s w ds vs := ⟨by have := hd.1; simp at this; exact this, fun i d x h1 h2 => hd.2 (i + 1) d x (by simpa using h1) (by simpa using h2)⟩
      simp only [putAll, List.zip_cons_cons, List.foldl_cons]
      refine putAll_rel ps ds _ vs _ ?_ hd' (by simpa using hl)
      rw [setL_eq]
      simpa using ht.set p hr

theorem loop_blk (hR : R Φ L s w) {id st : Nat} {lp lp' : LoopD} (ho : s.σ[id]? = some (.loop st lp)) {L' : Lay} {s' : St} {w' : World} (hx : Ext Φ L s w L' s' w') (ho' : s'.σ[id]? = some (.loop st lp')) : L'.blk id = L.blk id := by
  obtain ⟨o, g1, g2, g3, g4, g5⟩ := hx.old id _ ho' rfl ⟨(hR.out id _ ho rfl).2.2, by rw [ho]; simp⟩
  exact g4

theorem endRound_sound {L₀ : Lay} {s₀ : St} {w₀ : World} {id st : Nat} {lp₀ : LoopD} (hR₀ : R Φ L₀ s₀ w₀) (ho₀ : s₀.σ[id]? = some (.loop st lp₀)) (hR : R Φ L s w) (hx : Ext Φ L₀ s₀ w₀ L s w) {j : Option Code} {res : CRes} {s' : St}
    (h : endRound s id st j = some (res, s')) : ∃ v w', (Instr.endRound (L₀.blk id) j).run P w = .ok v w' ∧ CallPost Φ L₀ s₀ w₀ res s' (.returned v) w' := by
  unfold endRound at h
  split at h
  · rename_i st' lp hlp
    split at h
    · rename_i hc
      obtain ⟨rfl, hm⟩ := hc
      simp only [Option.some.injEq, Prod.mk.injEq] at h
      obtain ⟨rfl, rfl⟩ := h
      rw [getL_eq] at hlp
      have hb := loop_blk hR₀ ho₀ hx hlp
      obtain ⟨lpc, h1, h2, h3, h4, h5, h6, h7, h8⟩ := hR.obj _ _ hlp
      obtain ⟨r5, x5⟩ := putObj_ok hR hlp (o' := .loop st' { lp with state := if j.isNone then .ready else .done, pending := j }) (by simp [Obj.alike]) hm (.loop { lpc with state := if j.isNone then .ready else .done, pending := j }) (fun s' hx => by
        refine ⟨_, World.putObj_heap_same (hR.out _ _ hlp rfl).1, rfl, rfl, h4, h5, h6, h7, h8.ext hx⟩)
      refine ⟨_, _, run_endRound (r := lpc) j (by rw [← hb]; exact h1), L, _, ?_, ?_, rfl, .v rfl⟩
      · rw [← hb]; exact r5
      · rw [← hb]; exact hx.trans x5
    · simp at h
  · simp at h

theorem yieldF_sound (hE : EnvOk3 E P) (hK : KOk E P K) (hD : DrawOk E P K) {id st : Nat} {args : List D} {s s' : St} {res : CRes} (h : yieldF E K id st args s = some (res, s')) :
    ∀ (F : Fence) (n : Nat) (Φ : Nat → Prop) (L : Lay) (w : World) (vs : Array Value), Calm F → L.ok = E.okC → R Φ L s w → RelL Φ L s w args vs.toList →
      ∃ f tmps assign body, (∃ lp, s.σ[id]? = some (.loop st lp)) ∧ (Instr.yield (L.blk id) vs).run P w = .ok (.round (L.blk id) f tmps assign body) w ∧ RoundIn F n P (L.blk id) f tmps assign body w (CallPost Φ L s w res s') := by
  intro F n Φ L w vs hF hok hR ha
  unfold yieldF at h
  split at h
  · rename_i st' lp hlp
    split at h
    · rename_i hc
      obtain ⟨rfl, hst, hlen⟩ := hc
      rw [getL_eq] at hlp
      obtain ⟨lpc, h1, h2, h3, h4, h5, h6, h7, h8⟩ := hR.obj _ _ hlp
      have hsz : vs.size = lpc.params.size := by
        have := ha.1
        rw [← h4] at hlen
        simp at this hlen
        omega
      have hy := run_yield (P := P) (args := vs) h1 hsz
      refine ⟨lpc.fn, _, lpc.assign, lpc.body, ⟨lp, hlp⟩, hy, ?_⟩
      split at h
      · rename_i a1 s1 hex1
        split at h
        · rename_i st1 lp1 hlp1
          split at h
          · rename_i hc1
            obtain ⟨rfl, hready, hm⟩ := hc1
            rw [getL_eq] at hlp1
            rw [hok] at h7
            refine roundIn_of_wpIn (hF.fn _) ?_
            have hA : ARel Φ L s w { tmps := putAll lp.tmps lp.params args, dfs := [] } { tmps := (lpc.params.zip vs).foldl (fun tmps (t, a) => tmps.setIfInBounds t a) lpc.tmps, defers := [] } := by
              refine ⟨?_, trivial⟩
              have := putAll_rel lp.params args lp.tmps vs.toList lpc.tmps h8 ha hlen
              rw [← h4] at this ⊢
              have e : (lpc.params.zip vs).foldl (fun tmps (p : Tmp × Value) => tmps.setIfInBounds p.1 p.2) lpc.tmps = (lpc.params.toList.zip vs.toList).foldl (fun tmps (p : Tmp × Value) => tmps.setIfInBounds p.1 p.2) lpc.tmps := by
                rw [← Array.foldl_toList, Array.toList_zip]
              rw [← e] at this
              exact this
            rw [h5]
            refine wpIn_mono (exec_sound hE hK hD lp.fn loopFuel true lp.assign (F.inRound (L.blk id)) n Φ L s w _ _ _ _ _ (hF.inRound _) (fun h => by simp at h) h7.1 hok hR hA hex1) ?_
            rintro z ac1 w1 ⟨L1, r1, x1, A1, rfl⟩
            have hb1 := loop_blk hR hlp x1 hlp1
            obtain ⟨lpc1, g1, g2, g3, g4, g5, g6, g7, g8⟩ := r1.obj _ _ hlp1
            obtain ⟨r2, x2⟩ := putObj_ok r1 hlp1 (o' := .loop st1 { lp1 with state := .busy }) (by simp [Obj.alike]) hm (.loop { lpc1 with state := .busy }) (fun s' hx => by
              refine ⟨_, World.putObj_heap_same (r1.out _ _ hlp1 rfl).1, rfl, g3, g4, g5, g6, g7, g8.ext hx⟩)
            refine ⟨_, run_beginRound (r := lpc1) (by rw [← hb1]; exact g1) (by rw [g2]; exact hready), ?_⟩
            rw [h6]
            rw [hb1] at r2 x2
            cases hex2 : exec E K lp.fn loopFuel true lp.body a1 { s1 with σ := setL s1.σ id (.loop st1 { lp1 with state := .busy }) } with
            | none => rw [hex2] at h; simp at h
            | some q =>
              obtain ⟨e2, a2, s3⟩ := q
              rw [hex2] at h
              refine wpIn_mono (exec_sound hE hK hD lp.fn loopFuel true lp.body (F.inRound (L.blk id)) n Φ L1 _ _ a1 ac1 e2 a2 s3 (hF.inRound _) (fun h => by simp at h) h7.2 (x1.ok.trans hok) r2 (A1.ext x2) hex2) ?_
              rintro z ac3 w3 ⟨L3, r3, x3, A3, m3⟩
              have hx := (x1.trans x2).trans x3
              cases e2 with
              | normal => cases m3; exact endRound_sound hR hlp r3 hx h
              | ret => cases m3; exact endRound_sound hR hlp r3 hx h
              | exit i => cases m3; exact endRound_sound hR hlp r3 hx h
              | panic d => simp at h
          · simp at h
        · simp at h
      · simp at h
    · simp at h
  · simp at h
#print axioms yieldF_sound
end Go.AM
