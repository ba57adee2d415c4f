/- Operations: all of them together. -/
import Derived.Test.YthkfhpiamddhoaaGreatAmOps6
set_option autoImplicit false
namespace Go.AM

variable {E : Env} {P : Program} {Φ : Nat → Prop} {L : Lay} {s : St} {w : World}

theorem StepOk.read (hR : R Φ L s w) {m : Sem Value} {d : D} {x : Value} (hm : m.run P w = .ok x w) (hd : Rel Φ L s w d x) : StepOk P Φ L s w m d s :=
  ⟨x, w, L, hm, hR, Ext.refl _ _ _ _, hd⟩

theorem map_ok (hR : R Φ L s w) : R Φ (L.add s.σ.length w.heap.size 0) (s.push (.map · [])) (w.alloc (.map #[] 0)) ∧ Ext Φ L s w (L.add s.σ.length w.heap.size 0) (s.push (.map · [])) (w.alloc (.map #[] 0)) ∧
    Rel Φ (L.add s.σ.length w.heap.size 0) (s.push (.map · [])) (w.alloc (.map #[] 0)) (.mp s.σ.length s.clk) (.map (some w.heap.size)) := by
  have hx := Ext.push hR (.map · []) (.map #[] 0) 0 rfl
  refine ⟨?_, hx, ?_⟩
  · refine R.push hR (.map · []) (.map #[] 0) 0 rfl ?_
    refine ⟨#[], 0, ?_, rfl, fun i p e h => by simp at h⟩
    rw [Lay.add_blk]; simp only [World.alloc, Array.getElem?_push_size]
  · exact .mp (by simp [St.push, St.knows]) (fun es h => by simp)

theorem makeMap_sound (hE : EnvOk E P) (hR : R Φ L s w) {t k e : TypeId} (hd : E.desc t = some (.map k e)) (r : Option Value) (hr : r = none ∨ ∃ ik n, r = some (.int ik n)) :
    StepOk P Φ L s w (Instr.makeMap t r) (.mp s.σ.length s.clk) (s.push (.map · [])) := by
  obtain ⟨h1, h2, h3⟩ := map_ok hR
  refine ⟨_, _, _, ?_, h1, h2, h3⟩
  rcases hr with rfl | ⟨ik, n, rfl⟩
  · simp [Instr.makeMap]
  · simp [Instr.makeMap, run_und hE hd, asInt, asIntOf]

theorem makeSlice_sound (hE : EnvOk E P) (hR : R Φ L s w) {t elem : TypeId} {n : Int} {z : D} {by_ : Nat} (hd : E.desc t = some (.slice elem)) (hz : E.zero elem = some z) (hb : E.bytes elem = some by_)
    (h0 : 0 ≤ n) (hle : n.toNat * by_ ≤ maxAlloc) (hle2 : n.toNat ≤ maxAlloc) (hpos : 0 < z.cells.length) (hsz : E.size elem = some z.cells.length) (hsto : z.storable = true) :
    StepOk P Φ L s w (Instr.makeSlice t (.int .i64 n) (.int .i64 n)) (.osl s.σ.length s.clk 0 n.toNat) (s.push (.rows · (List.replicate n.toNat z.cells) z.cells.length)) := by
  obtain ⟨vz, hrun, hov⟩ := run_zero hE hz
  have hzr := (ofValue_rel (Φ := Φ) (L := L) (s := s) (w := w) hov).1.cells
  have hz1 := (ofValue_rel (Φ := Φ) (L := L) (s := s) (w := w) hov).1.storable hsto
  have hzsz : vz.cells.size = z.cells.length := by rw [hzr.1]; simp
  have hbr : (typeInfo elem).run P w = .ok ((P.info? elem).getD default) w ∧ ((P.info? elem).getD default).bytes = by_ := by
    unfold Env.bytes at hb
    cases hi0 : E.info elem with
    | none => simp [hi0] at hb
    | some i => have hi := hE.info elem i hi0; simp [hi0] at hb; rw [hi]; exact ⟨by simp [typeInfo, hi], by simpa using hb⟩
  have hmax : maxAlloc = 140737488355328 := rfl
  have hw : IntKind.i64.wrap n = n := by
    unfold IntKind.wrap IntKind.bits IntKind.signed
    have : n < 140737488355329 := by omega
    have e : n % (2 ^ 64 : Int) = n := Int.emod_eq_of_lt h0 (by omega)
    simp only [e, Bool.true_and]
    rw [if_neg]
    simp; omega
  have hn : ((n.toNat : Nat) : Int) = n := Int.toNat_of_nonneg h0
  have htl : ((by_ : Int) * n > 2 ^ 48) = False := by
    have : (by_ : Int) * n = ((n.toNat * by_ : Nat) : Int) := by rw [Int.natCast_mul, hn, Int.mul_comm]
    have h2 : (by_ : Int) * n ≤ 140737488355328 := by rw [this]; omega
    exact eq_false (by omega)
  have hrun2 : (Instr.makeSlice t (.int .i64 n) (.int .i64 n)).run P w = .ok (.slice (some ⟨w.heap.size, 0, none⟩) n.toNat n.toNat)
      (w.alloc (.cells ((Array.range (n.toNat * z.cells.length)).map (vz.cells[· % vz.cells.size]!)) elem)) := by
    have hneg : ¬ n < 0 := by omega
    simp only [Instr.makeSlice, Sem.run_bind, run_und hE hd, Result.andThen_ok, asInt, asIntOf, Sem.run_pure, hbr.1, hbr.2, hw]
    simp only [hneg, decide_false, Bool.false_or, htl, Int.lt_irrefl, gt_iff_lt, Bool.or_false, Bool.false_eq_true, if_false, run_askRoom, Result.andThen_ok, run_size hE hsz]
    rw [Sem.run_bind, run_askRoom, Result.andThen_ok, Sem.run_bind, run_size hE hsz, Result.andThen_ok]
    by_cases c : n.toNat * z.cells.length = 0
    · have hn0 : n.toNat = 0 := by
        rcases Nat.mul_eq_zero.1 c with h | h
        · exact h
        · omega
      have hr0 : Array.range 0 = #[] := by apply Array.ext'; simp
      rw [c]
      simp [newRow, hr0]
    · simp [c, hrun, newRow]
  have hget : ∀ k, k < n.toNat * z.cells.length → ((Array.range (n.toNat * z.cells.length)).map (vz.cells[· % vz.cells.size]!))[k]? = some (vz.cells[k % vz.cells.size]!) := by
    intro k hk
    simp [hk]
  obtain ⟨h1, h2, h3⟩ := newRows_ok hR (rs := List.replicate n.toNat z.cells) (sz := z.cells.length) (xs := (Array.range (n.toNat * z.cells.length)).map (vz.cells[· % vz.cells.size]!)) elem
    (fun r hr => by rw [List.eq_of_mem_replicate hr]) (by simp) (fun i r hr j d hd' => by
      have hi : i < n.toNat := by have := lt_of_get hr; simpa using this
      have : r = z.cells := by rw [List.getElem?_replicate] at hr; simp [hi] at hr; exact hr.symm
      subst this
      have hj := lt_of_get hd'
      have hlt : i * z.cells.length + j < n.toNat * z.cells.length := by
        have : (i + 1) * z.cells.length ≤ n.toNat * z.cells.length := Nat.mul_le_mul_right _ hi
        rw [Nat.add_mul, Nat.one_mul] at this
        omega
      obtain ⟨y, hy, hry⟩ := hzr.get hd'
      refine ⟨y, ?_, hz1 y (List.mem_of_getElem? hy), hry⟩
      rw [hget _ hlt]
      have hm : (i * z.cells.length + j) % vz.cells.size = j := by
        rw [hzsz, Nat.mul_comm, Nat.mul_add_mod, Nat.mod_eq_of_lt hj]
      rw [hm]
      rw [Array.getElem?_toList] at hy
      simp [getElem!_def, hy]) n.toNat n.toNat (by simp) (Nat.le_refl _)
  exact ⟨_, _, _, hrun2, h1, h2, h3⟩

theorem evalAll_rel {a : Ac} {ac : Act} (hA : RelL Φ L s w a.tmps ac.tmps.toList) : ∀ (xs : List Operand) (ds : List D), evalAll a xs = some ds → RelL Φ L s w ds (xs.map ac.eval)
  | [], ds, h => by simp [evalAll] at h; subst h; exact RelL.nil
  | x :: xs, ds, h => by
    simp only [evalAll] at h
    split at h
    · rename_i d ds' hd hds
      simp at h; subst h
      exact (evalAll_rel hA xs ds' hds).cons (eval_rel hA hd)
    · simp at h
theorem evalParts_rel {a : Ac} {ac : Act} (hA : RelL Φ L s w a.tmps ac.tmps.toList) : ∀ (xs : List (Nat × Operand)) (ds : List (Nat × D)), evalParts a xs = some ds → PartsRel Φ L s w ds (xs.map fun (i, x) => (i, ac.eval x))
  | [], ds, h => by simp [evalParts] at h; subst h; trivial
  | (i, x) :: xs, ds, h => by
    simp only [evalParts] at h
    split at h
    · rename_i d ds' hd hds
      simp at h; subst h
      exact ⟨rfl, eval_rel hA hd, evalParts_rel hA xs ds' hds⟩
    · simp at h
theorem evalOpt_rel {a : Ac} {ac : Act} (hA : RelL Φ L s w a.tmps ac.tmps.toList) {x : Option Operand} {od : Option D} (h : evalOpt a x = some od) :
    (∀ d, od = some d → ∃ v, x.map ac.eval = some v ∧ Rel Φ L s w d v) ∧ (od = none → x.map ac.eval = none) := by
  cases x with
  | none => simp [evalOpt] at h; subst h; exact ⟨fun d h => by simp at h, fun _ => rfl⟩
  | some x =>
    simp only [evalOpt, Option.map_eq_some_iff] at h
    obtain ⟨d, hd, rfl⟩ := h
    exact ⟨fun e he => by simp at he; subst he; exact ⟨_, rfl, eval_rel hA hd⟩, fun h => by simp at h⟩

/-- what an operation that hands over a value does -/
def OpOk (P : Program) (Φ : Nat → Prop) (L : Lay) (s : St) (w : World) (m : Sem Next) (d : D) (s' : St) : Prop :=
  ∃ x w' L', (m.run P w = .ok (.value x) w' ∨ (m.run P w = .ok .skip w' ∧ x = undef)) ∧ R Φ L' s' w' ∧ Ext Φ L s w L' s' w' ∧ Rel Φ L' s' w' d x

theorem OpOk.of {m : Sem Value} {d : D} {s' : St} (h : StepOk P Φ L s w m d s') : OpOk P Φ L s w (do pure (.value (← m))) d s' := by
  obtain ⟨x, w', L', h1, h2, h3, h4⟩ := h
  exact ⟨x, w', L', .inl (by simp [h1]), h2, h3, h4⟩

theorem val1_some {o : Option D} {d : D} {s s' : St} (h : val1 s o = some (d, s')) : o = some d ∧ s' = s := by
  cases o with
  | none => simp [val1] at h
  | some x => simp [val1] at h; exact ⟨by rw [h.1], h.2.symm⟩
theorem val2_some {o : Option (D × St)} {d : D} {s' : St} (h : val2 o = some (.val d s')) : o = some (d, s') := by
  cases o with
  | none => simp [val2] at h
  | some x => obtain ⟨a, b⟩ := x; simp [val2] at h; rw [h.1, h.2]

/-- a call of a function value: what is to be called -/
theorem run_call_value (c : Call) (ty : TypeId) (ρ : Operand → Value) (f : Operand) (hc : c.callee = .value f) (fn : Fn) (first cap : Array Value) (hf : ρ f = .func fn first cap) (w : World) :
    (resolve ρ c ty).run P w = .ok { target := .fn fn cap, args := first ++ c.args.map ρ } w := by
  simp [resolve, hc, hf, Deferred.ofValue]

set_option maxHeartbeats 4000000 in
theorem evalVal_sound (hE : EnvOk2 E P) (hR : R Φ L s w) {own : Bool} {a : Ac} {ac : Act} {o : Oper} {d : D} {s' : St} (hA : RelL Φ L s w a.tmps ac.tmps.toList) (h : evalVal E own a s o = some (d, s')) :
    OpOk P Φ L s w (execOp ac.eval o) d s' := by
  obtain ⟨dst, op, type, pos, after, guard⟩ := o
  unfold evalVal at h
  simp only at h
  split at h
  · obtain ⟨h1, rfl⟩ := val1_some h
    exact ⟨_, w, L, .inl rfl, hR, Ext.refl _ _ _ _, eval_rel hA h1⟩
  · obtain ⟨h1, rfl⟩ := val1_some h
    exact ⟨_, w, L, .inl rfl, hR, Ext.refl _ _ _ _, eval_rel hA h1⟩
  · split at h
    · rename_i c x y b hc
      obtain ⟨h1, rfl⟩ := val1_some h
      have hcv := (eval_rel hA hc).v_inv
      cases b with
      | true => exact ⟨_, w, L, .inl (by simp [execOp, hcv, asBool]; rfl), hR, Ext.refl _ _ _ _, eval_rel hA (by simpa using h1)⟩
      | false => exact ⟨_, w, L, .inl (by simp [execOp, hcv, asBool]; rfl), hR, Ext.refl _ _ _ _, eval_rel hA (by simpa using h1)⟩
    · simp at h
  · split at h
    · rename_i z hz
      split at h
      · rename_i hs
        simp at h
        obtain ⟨rfl, rfl⟩ := h
        exact OpOk.of (alloc_sound hE.toEnvOk hR hz hs)
      · simp at h
    · simp at h
  · split at h
    · rename_i x hx
      split at h
      · rename_i hs
        simp at h
        obtain ⟨rfl, rfl⟩ := h
        exact OpOk.of (box_sound hR (eval_rel hA hx) hs)
      · simp at h
    · simp at h
  · rename_i t ps
    split at h
    · rename_i l hl
      obtain ⟨h1, rfl⟩ := val1_some h
      have hp : PartsRel Φ L s' w l (ps.map fun (i, x) => (i, ac.eval x)).toList := by rw [Array.toList_map]; exact evalParts_rel hA _ _ hl
      obtain ⟨v, hv, hr⟩ := build_sound hE.toEnvOk h1 hp
      exact OpOk.of (.read hR hv hr)
    · simp at h
  · rename_i t n ps
    split at h
    · rename_i l hl
      have h1 := h
      have hp : PartsRel Φ L s w l (ps.map fun (i, x) => (i, ac.eval x)).toList := by rw [Array.toList_map]; exact evalParts_rel hA _ _ hl
      exact OpOk.of (buildSlice_sound hE.toEnvOk hR h1 hp)
    · simp at h
  · split at h
    · rename_i x hx
      obtain ⟨h1, rfl⟩ := val1_some h
      obtain ⟨y, hy, hr⟩ := load_sound hE.toEnvOk hR (eval_rel hA hx) h1
      exact OpOk.of (.read hR hy hr)
    · simp at h
  · split at h
    · rename_i x y hx hy
      split at h
      · rename_i s1 hs
        simp at h
        obtain ⟨rfl, rfl⟩ := h
        obtain ⟨w', h1, h2, h3⟩ := store_sound hE.toEnvOk hR (eval_rel hA hx) (eval_rel hA hy) hs
        exact ⟨undef, w', L, .inr ⟨by simp [execOp, h1], rfl⟩, h2, h3, .und⟩
      · simp at h
    · simp at h
  · split at h
    · rename_i id st row col hx
      simp at h
      obtain ⟨rfl, rfl⟩ := h
      have hr := eval_rel hA hx
      generalize hv : ac.eval _ = v at hr
      refine ⟨v, w, L, .inl ?_, hR, Ext.refl _ _ _ _, hr⟩
      cases hr
      simp [execOp, hv]
    · rename_i r c hx
      simp at h
      obtain ⟨rfl, rfl⟩ := h
      have hr := eval_rel hA hx
      generalize hv : ac.eval _ = v at hr
      refine ⟨v, w, L, .inl ?_, hR, Ext.refl _ _ _ _, hr⟩
      cases hr
      simp [execOp, hv]
    · simp at h
  · split at h
    · rename_i x y hx hy
      obtain ⟨h1, rfl⟩ := val1_some h
      obtain ⟨v, hv, hr⟩ := binOp_sound hE h1 (eval_rel hA hx) (eval_rel hA hy) _ _
      exact OpOk.of (.read hR hv hr)
    · simp at h
  · split at h
    · rename_i x hx
      obtain ⟨h1, rfl⟩ := val1_some h
      obtain ⟨v, hv, hr⟩ := unOp_sound h1 (eval_rel hA hx)
      exact OpOk.of (.read hR hv hr)
    · simp at h
  · split at h
    · rename_i x hx
      obtain ⟨h1, rfl⟩ := val1_some h
      obtain ⟨v, hv, hr⟩ := convert_sound hE.toEnvOk hR h1 (eval_rel hA hx)
      exact OpOk.of (.read hR hv hr)
    · simp at h
  · split at h
    · rename_i l m hl hm
      simp at h
      obtain ⟨rfl, rfl⟩ := h
      have r1 := evalAll_rel hA _ _ hl
      have r2 := evalAll_rel hA _ _ hm
      refine ⟨_, w, L, .inl (by simp [execOp, Instr.makeFunc]; rfl), hR, Ext.refl _ _ _ _, ?_⟩
      refine .fn (by rw [r1.1]; simp) (by rw [r2.1]; simp) (fun i d x h1 h2 => r1.2 i d x h1 ?_) (fun i d x h1 h2 => r2.2 i d x h1 ?_)
      · simpa using h2
      · simpa using h2
    · simp at h
  · split at h
    · rename_i k e hd
      simp at h
      obtain ⟨rfl, rfl⟩ := h
      exact OpOk.of (makeMap_sound hE.toEnvOk hR hd _ (.inl rfl))
    · simp at h
  · split at h
    · rename_i k e ik n hd hx
      simp at h
      obtain ⟨rfl, rfl⟩ := h
      have := (eval_rel hA hx).v_inv
      exact OpOk.of (makeMap_sound hE.toEnvOk hR hd _ (.inr ⟨_, _, by rw [Option.map_some, this]⟩))
    · simp at h
  · split at h
    · rename_i elem n m hd hl hc
      split at h
      · rename_i z by_ hz hb
        split at h
        · rename_i hcc
          obtain ⟨c1, rfl, c3, c4, c5, c6, c7⟩ := hcc
          simp at h
          obtain ⟨rfl, rfl⟩ := h
          have e1 := (eval_rel hA hl).v_inv
          have e2 := (eval_rel hA hc).v_inv
          have := makeSlice_sound hE.toEnvOk hR hd hz hb c1 c3 c4 c5 c6 c7
          rw [← e2] at this
          have h2 := OpOk.of this
          simp only [execOp, e1]
          rw [e2] at h2 ⊢
          exact h2
        · simp at h
      · simp at h
    · simp at h
  · split at h
    · rename_i x lo hi mx hx hlo hhi hmx
      obtain ⟨h1, rfl⟩ := val1_some h
      obtain ⟨v, hv, hr⟩ := slice_sound hE.toEnvOk h1 (eval_rel hA hx) (evalOpt_rel hA hlo).1 (evalOpt_rel hA hlo).2 (evalOpt_rel hA hhi).1 (evalOpt_rel hA hhi).2 (evalOpt_rel hA hmx).2
      exact OpOk.of (.read hR hv hr)
    · simp at h
  · split at h
    · rename_i x hx
      obtain ⟨h1, rfl⟩ := val1_some h
      obtain ⟨v, hv, hr⟩ := fieldAddr_sound hE.toEnvOk h1 (eval_rel hA hx)
      exact OpOk.of (.read hR hv hr)
    · simp at h
  · split at h
    · rename_i x i hx hi
      obtain ⟨h1, rfl⟩ := val1_some h
      obtain ⟨v, hv, hr⟩ := indexAddr_sound hE.toEnvOk h1 (eval_rel hA hx) (eval_rel hA hi)
      exact OpOk.of (.read hR hv hr)
    · simp at h
  · split at h
    · rename_i cs k n len elem hx hi hd
      split at h
      · rename_i sz hsz
        split at h
        · rename_i hcc
          obtain ⟨h1, rfl⟩ := val1_some h
          obtain ⟨xs, exs, rxs, oxs⟩ := (eval_rel hA hx).agg_inv
          have e2 := (eval_rel hA hi).v_inv
          obtain ⟨y, hy, hr⟩ := part_sound hE.toEnvOk h1 rxs oxs
          refine OpOk.of (.read (x := y) hR ?_ hr)
          have : n < (len : Int) := by omega
          simp [exs, e2, Instr.index, asIntOf, run_und hE.toEnvOk hd, hcc.1, this, run_size hE.toEnvOk hsz, hy]
        · simp at h
      · simp at h
    · rename_i b k n hx hi hd
      split at h
      · rename_i h0
        split at h
        · rename_i c hc
          simp at h
          obtain ⟨rfl, rfl⟩ := h
          have e1 := (eval_rel hA hx).v_inv
          have e2 := (eval_rel hA hi).v_inv
          refine OpOk.of (.read (x := .int .u8 c.toNat) hR ?_ (.v rfl))
          rw [getL_eq] at hc
          have hb : b[n.toNat]? = some c := by
            obtain ⟨bd⟩ := b
            have hc' : bd[n.toNat]? = some c := by simpa using hc
            rw [Array.getElem?_eq_some_iff] at hc'
            obtain ⟨g1, g2⟩ := hc'
            show (if h : _ then some _ else none) = _
            rw [dif_pos (show n.toNat < (ByteArray.mk bd).size from g1)]
            exact congrArg some g2
          simp [e1, e2, Instr.index, asIntOf, run_und hE.toEnvOk hd, h0, hb]
        · simp at h
      · simp at h
    · simp at h
  · split at h
    · rename_i ds hx
      obtain ⟨h1, rfl⟩ := val1_some h
      obtain ⟨xs, exs, rxs⟩ := (eval_rel hA hx).tup_inv
      rw [getL_eq] at h1
      obtain ⟨y, hy, hr⟩ := rxs.get h1
      rw [Array.getElem?_toList] at hy
      exact OpOk.of (.read (x := y) hR (by simp [exs, Instr.extract, hy]) hr)
    · simp at h
  · simp at h

set_option maxHeartbeats 4000000 in
theorem evalOp_val (hE : EnvOk2 E P) (hR : R Φ L s w) {own : Bool} {a : Ac} {ac : Act} {o : Oper} {d : D} {s' : St} (hA : RelL Φ L s w a.tmps ac.tmps.toList) (h : evalOp E own a s o = some (.val d s')) :
    OpOk P Φ L s w (execOp ac.eval o) d s' := by
  have h0 := h
  obtain ⟨dst, op, type, pos, after, guard⟩ := o
  unfold evalOp at h
  simp only at h
  split at h
  · rename_i c
    split at h
    · rename_i args hargs
      split at h
      · rename_i b hb
        have h1 := val2_some h
        unfold builtinOp at h1
        have rargs := evalAll_rel hA _ _ hargs
        split at h1
        · rename_i t rest x htys
          have hax : ∃ v, c.args.map ac.eval = #[v] ∧ Rel Φ L s w x v := by
            obtain ⟨v, hv, hr⟩ := rargs.get (i := 0) (d := x) rfl
            refine ⟨v, ?_, hr⟩
            have hl := rargs.1
            apply Array.ext'
            simp only [Array.toList_map]
            cases hq : List.map ac.eval c.args.toList with
            | nil => rw [hq] at hv; simp at hv
            | cons y ys =>
              rw [hq] at hv hl
              simp at hv hl
              subst hl; rw [hv]
          obtain ⟨v, hv, hrv⟩ := hax
          have ht0 : c.argTypes[0]? = some t := by
            have : c.argTypes.toList[0]? = some t := by rw [htys]; rfl
            rwa [Array.getElem?_toList] at this
          split at h1
          · rename_i elem x' hd
            split at h1
            · rename_i n hn
              simp at h1
              obtain ⟨rfl, rfl⟩ := h1
              obtain ⟨a', c', rfl⟩ := slLen_sound hn hrv
              refine ⟨_, w, L, .inl ?_, hR, Ext.refl _ _ _ _, .v rfl⟩
              simp [execOp, resolve, hb, invoke, builtin, Builtin.len_, ht0, hv, run_und hE.toEnvOk hd, goInt]
            · simp at h1
          · rename_i b' hd
            simp at h1
            obtain ⟨rfl, rfl⟩ := h1
            have := hrv.v_inv
            subst this
            refine ⟨_, w, L, .inl ?_, hR, Ext.refl _ _ _ _, .v rfl⟩
            simp [execOp, resolve, hb, invoke, builtin, Builtin.len_, ht0, hv, run_und hE.toEnvOk hd, goInt]
          · simp at h1
        · simp at h1
      · rename_i f hf
        split at h
        · rename_i g first cap hfv
          split at h
          · rename_i hh hext
            obtain ⟨h1, rfl⟩ := val1_some (val2_some h)
            have rargs := evalAll_rel hA _ _ hargs
            have rf := eval_rel hA hfv
            generalize hv : ac.eval f = v at rf
            cases rf with
            | @fn _ _ _ xs ys ha hb' hra hrb =>
              have r1 : RelL Φ L _ w first xs.toList := ⟨by simpa using ha, fun i d x g1 g2 => hra i d x g1 (by simpa using g2)⟩
              have r2 : RelL Φ L _ w cap ys.toList := ⟨by simpa using hb', fun i d x g1 g2 => hrb i d x g1 (by simpa using g2)⟩
              obtain ⟨y, hy, hr⟩ := hE.ext g hh hext _ _ d h1 Φ L _ w ((r1.append rargs).append r2)
              refine ⟨y, w, L, .inl ?_, hR, Ext.refl _ _ _ _, hr⟩
              have e : (xs.toList ++ List.map ac.eval c.args.toList ++ ys.toList).toArray = xs ++ c.args.map ac.eval ++ ys := by
                apply Array.ext'; simp
              rw [e] at hy
              simp only [execOp, Sem.run_bind, run_call_value c type ac.eval f hf _ _ _ hv, Result.andThen_ok, invoke]
              exact hy
          · simp at h
        · simp at h
        · simp at h
      · simp at h
    · simp at h
  · exact evalVal_sound hE hR hA (val2_some h)
#print axioms evalOp_val
end Go.AM
