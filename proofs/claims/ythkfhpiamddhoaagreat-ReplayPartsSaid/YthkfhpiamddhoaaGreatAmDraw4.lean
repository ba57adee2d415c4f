/- Regions whose order is drawn: whatever order is drawn does what the text's order does. -/
import Derived.Test.YthkfhpiamddhoaaGreatAmDraw3
set_option autoImplicit false
namespace Go.AM

variable {E : Env} {P : Program} {K : Kall} {Φ : Nat → Prop} {L : Lay} {w : World} {F : Fence} {n : Nat}

section
variable {fid rid base : Nat} {ops : Array Oper} {info : DrawInfo}

theorem runI_cons_some {p : Nat × Oper} {l : List (Nat × Oper)} {a a' : Ac} {s s' : St} {fs : List (Nat × Foot)} (h : runI E K fid rid ops info base (p :: l) a s = some (a', s', fs)) :
    ∃ a1 s1 f fs', stepT E K fid rid ops info base p.1 p.2 a s = some (a1, s1, f) ∧ runI E K fid rid ops info base l a1 s1 = some (a', s', fs') ∧ fs = (p.1, f) :: fs' := by
  obtain ⟨i, o⟩ := p
  simp only [runI] at h
  split at h
  · rename_i a1 s1 f h1
    split at h
    · rename_i a2 s2 fs' h2
      simp at h
      obtain ⟨rfl, rfl, rfl⟩ := h
      exact ⟨a1, s1, f, fs', h1, h2, rfl⟩
    · simp at h
  · simp at h
theorem runI_cons {p : Nat × Oper} {l : List (Nat × Oper)} {a a1 a' : Ac} {s s1 s' : St} {f : Foot} {fs : List (Nat × Foot)} (h1 : stepT E K fid rid ops info base p.1 p.2 a s = some (a1, s1, f)) (h2 : runI E K fid rid ops info base l a1 s1 = some (a', s', fs)) :
    runI E K fid rid ops info base (p :: l) a s = some (a', s', (p.1, f) :: fs) := by
  obtain ⟨i, o⟩ := p
  simp only [runI, h1, h2]

theorem bubble (hG : KGood E K) (hh : hidesOk ops.toList info.hides = true) {i : Nat} {oi : Oper} (hi : oi ∈ ops.toList) {c2 : List (Nat × Oper)} : ∀ (c1 : List (Nat × Oper)) (a : Ac) (s : St) (a' : Ac) (s' : St) (fs : List (Nat × Foot)),
    runI E K fid rid ops info base (c1 ++ (i, oi) :: c2) a s = some (a', s', fs) → (∀ p ∈ c1, p.2 ∈ ops.toList ∧ p.2.apart ops oi = true) → (∀ p ∈ c1, ∀ fk fi, (p.1, fk) ∈ fs → (i, fi) ∈ fs → compat fk fi = true) →
    ∃ fs', runI E K fid rid ops info base ((i, oi) :: (c1 ++ c2)) a s = some (a', s', fs') ∧ ∀ p, p ∈ fs' ↔ p ∈ fs
  | [], a, s, a', s', fs, h, _, _ => ⟨fs, h, fun _ => Iff.rfl⟩
  | p :: c1, a, s, a', s', fs, h, hap, hc => by
    obtain ⟨a1, s1, fk, fs1, h1, h2, rfl⟩ := runI_cons_some h
    obtain ⟨fs1', h3, hm⟩ := bubble hG hh hi c1 a1 s1 a' s' fs1 h2 (fun q hq => hap q (by simp [hq])) (fun q hq fk fi hk hf => hc q (by simp [hq]) fk fi (by simp [hk]) (by simp [hf]))
    obtain ⟨a2, s2, fi, fs2, h4, h5, rfl⟩ := runI_cons_some h3
    have hfi : (i, fi) ∈ fs1 := (hm _).1 (by simp)
    obtain ⟨b, t, h6, h7⟩ := stepT_comm hG hh (hap p (by simp)).1 hi (hap p (by simp)).2 h1 h4 (hc p (by simp) fk fi (by simp) (by simp [hfi]))
    refine ⟨(i, fi) :: (p.1, fk) :: fs2, ?_, ?_⟩
    · exact runI_cons h6 (runI_cons h7 h5)
    · intro q
      have := hm q
      simp only [List.mem_cons] at this ⊢
      constructor
      · rintro (h | h | h)
        · exact .inr (this.1 (.inl h))
        · exact .inl h
        · exact .inr (this.1 (.inr h))
      · rintro (h | h)
        · exact .inr (.inl h)
        · rcases this.2 h with h | h
          · exact .inl h
          · exact .inr (.inr h)

theorem runI_fst : ∀ {l : List (Nat × Oper)} {a a' : Ac} {s s' : St} {fs : List (Nat × Foot)}, runI E K fid rid ops info base l a s = some (a', s', fs) → fs.map (·.1) = l.map (·.1)
  | [], a, a', s, s', fs, h => by simp [runI] at h; rw [h.2.2]; rfl
  | p :: l, a, a', s, s', fs, h => by
    obtain ⟨a1, s1, f, fs', h1, h2, rfl⟩ := runI_cons_some h
    simp [runI_fst h2]

theorem runI_mem : ∀ {l : List (Nat × Oper)} {a a' : Ac} {s s' : St} {fs : List (Nat × Foot)}, runI E K fid rid ops info base l a s = some (a', s', fs) → ∀ k f, (k, f) ∈ fs →
    ∃ o b t b' t', (k, o) ∈ l ∧ stepT E K fid rid ops info base k o b t = some (b', t', f)
  | [], a, a', s, s', fs, h, k, f, hf => by simp [runI] at h; rw [h.2.2] at hf; simp at hf
  | p :: l, a, a', s, s', fs, h, k, f, hf => by
    obtain ⟨a1, s1, f1, fs', h1, h2, rfl⟩ := runI_cons_some h
    simp at hf
    rcases hf with ⟨rfl, rfl⟩ | hf
    · exact ⟨p.2, a, s, a1, s1, by simp, h1⟩
    · obtain ⟨o, b, t, b', t', g1, g2⟩ := runI_mem h2 k f hf
      exact ⟨o, b, t, b', t', by simp [g1], g2⟩

theorem stepT_staticN {i : Nat} {o : Oper} {a a1 : Ac} {s s1 : St} {f : Foot} (hn : staticN o = true) (h : stepT E K fid rid ops info base i o a s = some (a1, s1, f)) : f = .n := by
  unfold stepT at h
  split at h
  · split at h
    · rename_i d s' f' hd
      simp at h
      obtain ⟨rfl, rfl, rfl⟩ := h
      obtain ⟨dst, op, type, pos, after, guard⟩ := o
      have hpl : opPlain E K fid rid (hidesOf a (lookupN i info.hides)) a s ⟨dst, op, type, pos, after, guard⟩ = some (d, s', f') → f' = .n := by
        intro hp
        unfold opPlain at hp
        split at hp
        · simp at hp
          obtain ⟨rfl, rfl, rfl⟩ := hp
          unfold footOf
          cases op <;> simp_all [staticN]
        · rename_i hev
          exfalso
          unfold evalOp at hev
          simp only at hev
          split at hev
          · rename_i c
            simp only [staticN] at hn
            split at hev
            · split at hev
              · exact val2_ncall hev
              · rename_i hc; rw [hc] at hn; simp at hn
              · simp at hev
            · simp at hev
          · exact val2_ncall hev
        · rename_i hev
          exfalso
          unfold evalOp at hev
          simp only at hev
          split at hev
          · rename_i c
            simp only [staticN] at hn
            split at hev
            · split at hev
              · exact val2_nyield hev
              · rename_i hc; rw [hc] at hn; simp at hn
              · simp at hev
            · simp at hev
          · exact val2_nyield hev
        · simp at hp
      unfold opDraw at hd
      split at hd
      · split at hd
        · rename_i hnew
          exfalso
          unfold evalNew at hnew
          cases op <;> simp_all [staticN]
        · exact hpl hd
      · exact hpl hd
    · simp at h
  · simp at h; exact h.2.2.symm

theorem stepT_staticR {i : Nat} {o : Oper} {a a1 : Ac} {s s1 : St} {f : Foot} (hn : staticR o = true) (h : stepT E K fid rid ops info base i o a s = some (a1, s1, f)) : f = .n ∨ ∃ ids, f = .l ids := by
  unfold stepT at h
  split at h
  · split at h
    · rename_i d s' f' hd
      simp at h
      obtain ⟨rfl, rfl, rfl⟩ := h
      obtain ⟨dst, op, type, pos, after, guard⟩ := o
      have hpl : opPlain E K fid rid (hidesOf a (lookupN i info.hides)) a s ⟨dst, op, type, pos, after, guard⟩ = some (d, s', f') → ∃ ids, f' = .l ids := by
        intro hp
        unfold opPlain at hp
        split at hp
        · simp at hp
          obtain ⟨rfl, rfl, rfl⟩ := hp
          unfold footOf
          cases op <;> simp_all [staticR]
        · rename_i hev
          exfalso
          unfold evalOp at hev
          simp only at hev
          split at hev
          · simp [staticR] at hn
          · exact val2_ncall hev
        · rename_i hev
          exfalso
          unfold evalOp at hev
          simp only at hev
          split at hev
          · simp [staticR] at hn
          · exact val2_nyield hev
        · simp at hp
      unfold opDraw at hd
      split at hd
      · split at hd
        · rename_i hnew
          exfalso
          unfold evalNew at hnew
          cases op <;> simp_all [staticR]
        · exact .inr (hpl hd)
      · exact .inr (hpl hd)
    · simp at h
  · simp at h; exact .inl h.2.2.symm

/-! ### The static check -/
theorem maskOf_bits {ms : List Nat} {k : Nat} : ∀ {es : List Edge}, (maskOf ms es).testBit k = true → ∃ e ∈ es, Region.binds .any e = true ∧ (k = e.on ∨ ((getL ms e.on).getD 0).testBit k = true)
  | [], h => by simp [maskOf] at h
  | e :: es, h => by
    simp only [maskOf] at h
    split at h
    · rename_i hb
      simp only [Nat.testBit_or, Bool.or_eq_true] at h
      rcases h with (h | h) | h
      · refine ⟨e, by simp, hb, .inl ?_⟩
        rw [Nat.one_shiftLeft, Nat.testBit_two_pow] at h
        have h' : e.on = k := by simpa using h
        exact h'.symm
      · exact ⟨e, by simp, hb, .inr h⟩
      · obtain ⟨e', h1, h2, h3⟩ := maskOf_bits h
        exact ⟨e', by simp [h1], h2, h3⟩
    · obtain ⟨e', h1, h2, h3⟩ := maskOf_bits h
      exact ⟨e', by simp [h1], h2, h3⟩

theorem masks_spec : ∀ (os : List Oper) (ms : List Nat), (∃ r, masks os ms = ms ++ r) ∧ ∀ (j : Nat) (o : Oper), os[j]? = some o → (masks os ms)[ms.length + j]? = some (maskOf ((masks os ms).take (ms.length + j)) o.after.toList)
  | [], ms => ⟨⟨[], by simp [masks]⟩, fun j o h => by simp at h⟩
  | o :: os, ms => by
    obtain ⟨⟨r, hr⟩, h2⟩ := masks_spec os (ms ++ [maskOf ms o.after.toList])
    refine ⟨⟨maskOf ms o.after.toList :: r, by rw [masks, hr]; simp⟩, ?_⟩
    intro j o' ho
    cases j with
    | zero =>
      simp at ho; subst ho
      simp only [masks, Nat.add_zero]
      rw [hr]
      simp
    | succ j =>
      simp at ho
      have := h2 j o' ho
      simp only [masks]
      simp only [List.length_append, List.length_cons, List.length_nil] at this
      rw [show ms.length + (j + 1) = ms.length + (0 + 1) + j by omega]
      exact this

theorem edgesOk_spec {j : Nat} {es : List Edge} (h : edgesOk j es = true) : ∀ e ∈ es, Region.binds .any e = true → e.on < j := by
  intro e he hb
  simp only [edgesOk, List.all_eq_true] at h
  have := h e he
  simpa [hb] using this

theorem memP_iff {x y : Nat} : ∀ {l : List (Nat × Nat)}, memP x y l = true → (x, y) ∈ l
  | [], h => by simp [memP] at h
  | (a, b) :: r, h => by
    simp [memP] at h
    rcases h with ⟨rfl, rfl⟩ | h
    · simp
    · simp [memP_iff h]

theorem pairOk_spec {mj : Nat} {oj : Oper} {j : Nat} : ∀ {l : List Oper} {k : Nat}, pairOk ops info mj oj j k l = true → ∀ (m : Nat) (o : Oper), l[m]? = some o →
    mj.testBit (k + m) = true ∨ (o.apart ops oj = true ∧ (staticN o = true ∨ staticN oj = true ∨ (staticR o = true ∧ staticR oj = true) ∨ (k + m, j) ∈ info.pairs))
  | [], k, _, m, o, h => by simp at h
  | q :: l, k, hp, m, o, h => by
    simp only [pairOk, Bool.and_eq_true, Bool.or_eq_true] at hp
    cases m with
    | zero =>
      simp at h; subst h
      rcases hp.1 with h1 | ⟨h1, h2⟩
      · exact .inl h1
      · refine .inr ⟨h1, ?_⟩
        rcases h2 with ((h2 | h2) | h2) | h2
        · exact .inl h2
        · exact .inr (.inl h2)
        · exact .inr (.inr (.inl h2))
        · exact .inr (.inr (.inr (memP_iff h2)))
    | succ m =>
      simp at h
      have := pairOk_spec hp.2 m o h
      rwa [show k + 1 + m = k + (m + 1) by omega] at this

theorem rowsOk_spec {ms : List Nat} {all : List Oper} : ∀ {l : List Oper} {j : Nat}, rowsOk ops info ms all j l = true → ∀ (i : Nat) (o : Oper), l[i]? = some o →
    edgesOk (j + i) o.after.toList = true ∧ pairOk ops info ((getL ms (j + i)).getD 0) o (j + i) 0 (all.take (j + i)) = true
  | [], j, _, i, o, h => by simp at h
  | q :: l, j, hp, i, o, h => by
    simp only [rowsOk, Bool.and_eq_true] at hp
    cases i with
    | zero => simp at h; subst h; exact hp.1
    | succ i =>
      simp at h
      have := rowsOk_spec hp.2 i o h
      rwa [show j + 1 + i = j + (i + 1) by omega] at this

/-- operation k comes before operation i, whatever is drawn -/
def before (ops : Array Oper) (k i : Nat) : Prop := ((getL (masks ops.toList []) i).getD 0).testBit k = true

theorem static_edges (h : drawStatic ops info = true) {j : Nat} {o : Oper} (hj : ops[j]? = some o) : ∀ e ∈ o.after, Region.binds .any e = true → e.on < j := by
  simp only [drawStatic, Bool.and_eq_true] at h
  have := (rowsOk_spec h.1 j o (by rw [Array.getElem?_toList]; exact hj)).1
  intro e he hb
  have := edgesOk_spec this e (by simpa using he) hb
  simpa using this

theorem static_pair (h : drawStatic ops info = true) {k i : Nat} {ok oi : Oper} (hk : ops[k]? = some ok) (hi : ops[i]? = some oi) (hlt : k < i) :
    before ops k i ∨ (ok.apart ops oi = true ∧ (staticN ok = true ∨ staticN oi = true ∨ (staticR ok = true ∧ staticR oi = true) ∨ (k, i) ∈ info.pairs)) := by
  simp only [drawStatic, Bool.and_eq_true] at h
  have := (rowsOk_spec h.1 i oi (by rw [Array.getElem?_toList]; exact hi)).2
  have := pairOk_spec this k ok (by rw [List.getElem?_take, if_pos (by omega), Array.getElem?_toList]; exact hk)
  simpa [before] using this

/-- what is listed holds what comes before it -/
def Down (ops : Array Oper) (listed : Array Bool) : Prop := ∀ (j : Nat) (o : Oper), ops[j]? = some o → listed.getD j false = true → ∀ e ∈ o.after, Region.binds .any e = true → listed.getD e.on false = true

theorem before_listed (hs : drawStatic ops info = true) {listed : Array Bool} (hd : Down ops listed) : ∀ (j : Nat) (o : Oper), ops[j]? = some o → (∀ e ∈ o.after, Region.binds .any e = true → listed.getD e.on false = true) → ∀ k, before ops k j → listed.getD k false = true := by
  intro j
  induction j using Nat.strongRecOn with
  | _ j ih =>
    intro o ho hp k hb
    have hm := (masks_spec ops.toList []).2 j o (by rw [Array.getElem?_toList]; exact ho)
    simp only [List.length_nil, Nat.zero_add] at hm
    unfold before at hb
    rw [getL_eq, hm] at hb
    simp only [Option.getD_some] at hb
    obtain ⟨e, he, hbind, hk⟩ := maskOf_bits hb
    have he' : e ∈ o.after := by simpa using he
    rcases hk with rfl | hk
    · exact hp e he' hbind
    · have hlt := static_edges hs ho e he' hbind
      have hl := hp e he' hbind
      have hj : j < ops.size := (Array.getElem?_eq_some_iff.1 ho).1
      have he2 : ops[e.on]? = some ops[e.on] := Array.getElem?_eq_getElem (by omega)
      refine ih e.on hlt _ he2 (hd _ _ he2 hl) k ?_
      unfold before
      rw [getL_eq] at hk ⊢
      rw [List.getElem?_take, if_pos hlt] at hk
      exact hk

/-! ### Every order -/
theorem range_filter_sorted (n : Nat) (p : Nat → Bool) : ((List.range n).filter p).Pairwise (· < ·) := List.Pairwise.filter _ List.pairwise_lt_range

theorem lin_run (hG : KGood E K) (hs : drawStatic ops info = true) : ∀ (fuel t : Nat) (listed : Array Bool) (rest : List (Nat × Oper)) (a : Ac) (s : St) (a' : Ac) (s' : St) (fs : List (Nat × Foot)),
    listed.size = ops.size → rest.length = fuel → rest.map (·.1) = (List.range ops.size).filter (fun i => !listed.getD i true) → (∀ p ∈ rest, ops[p.1]? = some p.2) → Down ops listed →
    runI E K fid rid ops info base rest a s = some (a', s', fs) → (∀ k fk i fi, (k, fk) ∈ fs → (i, fi) ∈ fs → k < i → ¬ before ops k i → compat fk fi = true) →
    ∃ l : List (Nat × Oper), l.map (·.1) = Region.linearise.go .any ops fuel t listed [] ∧ (∀ p ∈ l, ops[p.1]? = some p.2) ∧ ∃ fs', runI E K fid rid ops info base l a s = some (a', s', fs')
  | 0, t, listed, rest, a, s, a', s', fs, hsz, hlen, hrest, hops, hd, hrun, hc => by
    have : rest = [] := List.length_eq_zero_iff.1 hlen
    subst this
    exact ⟨[], by simp [Region.linearise.go], by simp, fs, hrun⟩
  | fuel + 1, t, listed, rest, a, s, a', s', fs, hsz, hlen, hrest, hops, hd, hrun, hc => by
    have hsort := range_filter_sorted ops.size (fun i => !listed.getD i true)
    rw [← hrest] at hsort
    have hun : ∀ p ∈ rest, listed.getD p.1 true = false ∧ p.1 < ops.size := by
      intro p hp
      have : p.1 ∈ rest.map (·.1) := List.mem_map_of_mem hp
      rw [hrest, List.mem_filter, List.mem_range] at this
      exact ⟨by simpa using this.2, this.1⟩
    have hin : ∀ j, j < ops.size → listed.getD j true = false → ∃ o, (j, o) ∈ rest := by
      intro j hj hl
      have : j ∈ rest.map (·.1) := by
        rw [hrest, List.mem_filter, List.mem_range]
        exact ⟨hj, by simp [hl]⟩
      obtain ⟨p, hp, rfl⟩ := List.mem_map.1 this
      exact ⟨p.2, hp⟩
    have gd : ∀ j, j < ops.size → (listed.getD j true = false ∨ listed.getD j false = true) := by
      intro j hj
      have hj' : j < listed.size := by omega
      simp [hj']
    -- one that may come is there
    have hne : Region.ready .any ops listed ≠ [] := by
      match rest, hlen with
      | p :: rest', _ =>
        have hp := hun p (by simp)
        have : p.1 ∈ Region.ready .any ops listed := by
          rw [mem_ready]
          refine ⟨hp.1, p.2, hops p (by simp), fun e he hb => ?_⟩
          have hlt := static_edges hs (hops p (by simp)) e he hb
          rcases gd e.on (by omega) with h1 | h1
          · exfalso
            obtain ⟨o, ho⟩ := hin e.on (by omega) h1
            simp at ho
            rcases ho with ho | ho
            · rw [← ho] at hlt; simp at hlt
            · have : p.1 < e.on := (List.pairwise_cons.1 hsort).1 e.on (List.mem_map.2 ⟨(e.on, o), ho, rfl⟩)
              omega
          · exact h1
        intro h0
        rw [h0] at this
        cases this
    simp only [Region.linearise.go]
    change ∃ l : List (Nat × Oper), l.map (·.1) = (match (Region.ready .any ops listed)[t % (Region.ready .any ops listed).length]? with
      | some i => Region.linearise.go .any ops fuel (t / (Region.ready .any ops listed).length) (listed.setIfInBounds i true) [i]
      | none => [].reverse) ∧ _
    have hpos : 0 < (Region.ready .any ops listed).length := List.length_pos_iff.2 hne
    have hlt := Nat.mod_lt t hpos
    obtain ⟨i, hi⟩ : ∃ i, (Region.ready .any ops listed)[t % (Region.ready .any ops listed).length]? = some i := ⟨_, List.getElem?_eq_getElem hlt⟩
    rw [hi]
    simp only
    obtain ⟨hil, oi, hoi, hipre⟩ := mem_ready.1 (List.mem_of_getElem? hi)
    have hisz : i < ops.size := (Array.getElem?_eq_some_iff.1 hoi).1
    obtain ⟨oi', hmem⟩ := hin i hisz hil
    have : oi' = oi := by have := hops _ hmem; simp only at this; rw [hoi] at this; simpa using this.symm
    subst this
    obtain ⟨c1, c2, rfl⟩ := List.append_of_mem hmem
    have hbef := before_listed hs hd i oi' hoi hipre
    rw [List.map_append, List.map_cons, List.pairwise_append] at hsort
    have hk : ∀ p ∈ c1, p.1 < i ∧ ¬ before ops p.1 i := by
      intro p hp
      refine ⟨hsort.2.2 p.1 (List.mem_map_of_mem hp) i (by simp), fun hb => ?_⟩
      have h1 := hbef p.1 hb
      have h2 := hun p (by simp [hp])
      have hj' : p.1 < listed.size := by omega
      simp [hj'] at h1 h2
      rw [h1] at h2
      simp at h2
    have hhid : hidesOk ops.toList info.hides = true := by simp only [drawStatic, Bool.and_eq_true] at hs; exact hs.2
    have hof : ∀ {j : Nat} {o : Oper}, ops[j]? = some o → o ∈ ops.toList := fun h => by simpa using Array.mem_of_getElem? h
    obtain ⟨fs1, hrun1, hmem1⟩ := bubble hG hhid (hof hoi) c1 a s a' s' fs hrun (fun p hp => by
      have hop := hops p (by simp [hp])
      refine ⟨hof hop, ?_⟩
      rcases static_pair hs hop hoi (hk p hp).1 with h1 | h1
      · exact absurd h1 (hk p hp).2
      · exact h1.1) (fun p hp fk fi h1 h2 => hc p.1 fk i fi h1 h2 (hk p hp).1 (hk p hp).2)
    obtain ⟨a1, s1, fi, fs2, hst, hrun2, rfl⟩ := runI_cons_some hrun1
    have hget : ∀ j, (listed.setIfInBounds i true).getD j true = if j = i then true else listed.getD j true := by
      intro j
      by_cases c : j = i
      · subst c
        have : j < listed.size := by omega
        simp [this]
      · rw [getD_set_ne true (Ne.symm c)]; simp [c]
    obtain ⟨l, hl1, hl2, fs3, hl3⟩ := lin_run hG hs fuel (t / (Region.ready .any ops listed).length) (listed.setIfInBounds i true) (c1 ++ c2) a1 s1 a' s' fs2 (by simp [hsz]) (by simp at hlen ⊢; omega) (by
        have e1 : (List.range ops.size).filter (fun j => !(listed.setIfInBounds i true).getD j true) = ((List.range ops.size).filter (fun j => !listed.getD j true)).filter (fun j => !(j == i)) := by
          rw [List.filter_filter]
          apply List.filter_congr
          intro j _
          rw [hget]
          by_cases c : j = i <;> simp [c]
        rw [e1, ← hrest]
        have hlt1 : ∀ j ∈ c1.map (·.1), j < i := fun j hj => hsort.2.2 j hj i (by simp)
        have hlt2 : ∀ j ∈ c2.map (·.1), i < j := (List.pairwise_cons.1 hsort.2.1).1
        rw [List.map_append, List.map_append, List.map_cons, List.filter_append, List.filter_cons]
        simp only [beq_self_eq_true, Bool.not_true, Bool.false_eq_true, if_false]
        rw [List.filter_eq_self.2 (fun j hj => by have := hlt1 j hj; simp; omega), List.filter_eq_self.2 (fun j hj => by have := hlt2 j hj; simp; omega)])
      (fun p hp => hops p (by simp at hp ⊢; rcases hp with h | h; exact .inl h; exact .inr (.inr h)))
      (by
        intro j o hj hlj e he hb
        by_cases c : j = i
        · subst c
          rw [hoi] at hj
          simp at hj; subst hj
          exact getD_set_true (hipre e he hb)
        · rw [getD_set_ne false (Ne.symm c)] at hlj
          exact getD_set_true (hd j o hj hlj e he hb)) hrun2 (fun k fk i' fi' h1 h2 => hc k fk i' fi' ((hmem1 _).1 (by simp [h1])) ((hmem1 _).1 (by simp [h2])))
    refine ⟨(i, oi') :: l, ?_, ?_, _, runI_cons hst hl3⟩
    · rw [linearise_go_acc, List.map_cons, hl1]; simp
    · intro p hp
      simp at hp
      rcases hp with rfl | hp
      · exact hoi
      · exact hl2 p hp
end
#print axioms lin_run
end Go.AM
