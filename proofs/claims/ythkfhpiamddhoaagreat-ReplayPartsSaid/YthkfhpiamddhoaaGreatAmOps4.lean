/- Operations, one by one: slices, composite values, new memory. -/
import Derived.Test.YthkfhpiamddhoaaGreatAmOps3
import Derived.Great.FillDense
import Derived.Laws.IdiomStrings
set_option autoImplicit false
namespace Go.AM

variable {E : Env} {P : Program} {Φ : Nat → Prop} {L : Lay} {s : St} {w : World}

theorem chunks_len (n : Nat) : ∀ (k : Nat) (cs : List D), (chunks n k cs).length = k
  | 0, _ => rfl
  | k + 1, cs => by simp [chunks, chunks_len n k]
theorem chunks_get (n : Nat) : ∀ (k : Nat) (cs : List D) (i : Nat) (r : List D), (chunks n k cs)[i]? = some r → r = (cs.drop (i * n)).take n
  | 0, _, i, r, h => by simp [chunks] at h
  | k + 1, cs, 0, r, h => by simp [chunks] at h; simp [h]
  | k + 1, cs, i + 1, r, h => by
    simp only [chunks, List.getElem?_cons_succ] at h
    have := chunks_get n k (cs.drop n) i r h
    rw [this, List.drop_drop, Nat.add_mul, Nat.one_mul, Nat.add_comm]

/-- the elements of a slice, in memory -/
theorem slRows_cells (hR : R Φ L s w) {x : D} {rs : List (List D)} {vx : Value} (h : slRows s x = some rs) (hx : Rel Φ L s w x vx) :
    (vx = .slice none 0 0 ∧ rs = []) ∨ ∃ (a : Addr) (c n : Nat), vx = .slice (some a) rs.length c ∧ (∀ r ∈ rs, r.length = n) ∧
      (∀ (i : Nat) (r : List D), rs[i]? = some r → ∀ (j : Nat) (d : D), r[j]? = some d → ∃ y, w.cell? ⟨a.block, a.off + i * n + j, none⟩ = some y ∧ y.oneCell' = true ∧ Rel Φ L s w d y) ∧ (rs ≠ [] → a.spot = none) := by
  unfold slRows at h
  split at h
  · simp at h; subst h; cases hx.v_inv; exact .inl ⟨rfl, rfl⟩
  · simp at h; subst h
    cases hx with
    | @sl _ _ a len c n g hs ho hb hl hc hk hm hcell hrel hid =>
      refine .inr ⟨a, c, n, by rw [hl], hm, ?_, hs⟩
      intro i r hr j d hd
      exact ⟨g i j, (hcell i r hr j d hd).1, (hcell i r hr j d hd).2, hrel i r hr j d hd⟩
  · rename_i id st off len
    cases hq : s.rowsOf id st with
    | none => simp [hq] at h
    | some q =>
      obtain ⟨rows, esz⟩ := q
      simp [hq] at h
      obtain ⟨hle, rfl⟩ := h
      rw [St.rowsOf_some] at hq
      cases hx with
      | @osl _ _ _ _ c a hst hlc hadr =>
        obtain ⟨g1, g2, g3, g4, g5⟩ := hadr _ _ hq
        obtain ⟨h1, _, h5⟩ := hR.obj _ _ hq
        refine .inr ⟨a, c, esz, ?_, ?_, ?_, fun _ => g3⟩
        · congr 1; simp; omega
        · intro r hr
          exact h1 r (List.mem_of_mem_drop (List.mem_of_mem_take hr))
        · intro i r hr j d hd
          have hi : i < len := by
            have := lt_of_get hr
            simp at this; omega
          rw [List.getElem?_take_of_lt hi, List.getElem?_drop] at hr
          obtain ⟨y, hy1, hy2, hy3⟩ := h5 _ r hr j d hd
          have g5 := g5.resolve_left (by omega)
          refine ⟨y, ?_, hy2, hy3⟩
          rw [g4, g5, show L.base id + off * esz + i * esz + j = L.base id + (off + i) * esz + j from by rw [Nat.add_mul]; omega]
          exact hy1
  · rename_i id st row col len esz'
    cases hq : s.rowsOf id st with
    | none => simp [hq] at h
    | some q =>
      obtain ⟨rows, esz⟩ := q
      rw [hq, Option.bind_some] at h
      cases hr0 : getL rows row with
      | none => simp [hr0] at h
      | some r0 =>
      simp only [hr0, Option.bind_some] at h
      split at h
      case isFalse => simp at h
      rename_i hle
      simp only [Option.some.injEq] at h
      subst h
      rw [St.rowsOf_some] at hq
      rw [getL_eq] at hr0
      cases hx with
      | @csl _ _ _ _ _ _ c a hst hlc hadr =>
        obtain ⟨g3, g4, g5⟩ := hadr _ _ hq
        obtain ⟨h1, _, h5⟩ := hR.obj _ _ hq
        have key : ∀ (i : Nat) (r : List D), (chunks esz' len (r0.drop col))[i]? = some r → i < len ∧ r = ((r0.drop col).drop (i * esz')).take esz' := by
          intro i r hr
          refine ⟨?_, chunks_get _ _ _ _ _ hr⟩
          have := lt_of_get hr
          rwa [chunks_len] at this
        refine .inr ⟨a, c, esz', by rw [chunks_len], ?_, ?_, fun _ => g3⟩
        · intro r hr
          obtain ⟨i, hi⟩ := List.getElem?_of_mem hr
          obtain ⟨hlt, rfl⟩ := key i r hi
          have : (i + 1) * esz' ≤ len * esz' := Nat.mul_le_mul_right _ hlt
          rw [Nat.add_mul, Nat.one_mul] at this
          simp; omega
        · intro i r hr j d hd
          obtain ⟨hlt, rfl⟩ := key i r hr
          have hj : j < esz' := by
            have := lt_of_get hd
            simp at this; omega
          rw [List.getElem?_take_of_lt hj, List.getElem?_drop, List.getElem?_drop] at hd
          obtain ⟨y, hy1, hy2, hy3⟩ := h5 _ r0 hr0 _ d hd
          have g5 := g5.resolve_left (by omega)
          refine ⟨y, ?_, hy2, hy3⟩
          rw [g4, g5]
          rw [show L.base id + row * esz + col + i * esz' + j = L.base id + row * esz + (col + (i * esz' + j)) from by omega]
          exact hy1
  · simp at h

theorem rowsBytes_get : ∀ (rs : List (List D)) (l : List UInt8), rowsBytes rs = some l → rs.length = l.length ∧ ∃ ns : List Int, ns.length = l.length ∧ (∀ (i : Nat) (n : Int), ns[i]? = some n → rs[i]? = some [D.v (.int .u8 n)]) ∧ l = ns.map fun n => UInt8.ofNat n.toNat
  | [], l, h => by simp [rowsBytes] at h; subst h; exact ⟨rfl, [], rfl, by simp, rfl⟩
  | [.v (.int .u8 n)] :: rs, l, h => by
    simp only [rowsBytes] at h
    split at h
    · rename_i l' hl'
      simp at h; subst h
      obtain ⟨h1, ns, h2, h3, h4⟩ := rowsBytes_get rs l' hl'
      refine ⟨by simp [h1], n :: ns, by simp [h2], ?_, by simp [h4]⟩
      intro i m hm
      cases i with
      | zero => simp at hm; simp [hm]
      | succ i => simp at hm; simpa using h3 i m hm
    · simp at h
  | [] :: _, _, h => by simp [rowsBytes] at h
  | (_ :: _ :: _) :: _, _, h => by simp [rowsBytes] at h
  | [.sl _ _] :: _, _, h => by simp [rowsBytes] at h
  | [.ipt _ _] :: _, _, h => by simp [rowsBytes] at h
  | [.osl _ _ _ _] :: _, _, h => by simp [rowsBytes] at h
  | [.csl _ _ _ _ _ _] :: _, _, h => by simp [rowsBytes] at h
  | [.ref _ _ _ _] :: _, _, h => by simp [rowsBytes] at h
  | [.mp _ _] :: _, _, h => by simp [rowsBytes] at h
  | [.fn _ _ _] :: _, _, h => by simp [rowsBytes] at h
  | [.yld _ _] :: _, _, h => by simp [rowsBytes] at h
  | [.ifc _ _] :: _, _, h => by simp [rowsBytes] at h
  | [.agg _] :: _, _, h => by simp [rowsBytes] at h
  | [.tup _] :: _, _, h => by simp [rowsBytes] at h
  | [.v v] :: rs, l, h => by
    cases v <;> (try (simp [rowsBytes] at h; done))
    rename_i k n
    cases k <;> (try (simp [rowsBytes] at h; done))
    simp only [rowsBytes] at h
    split at h
    · rename_i l' hl'
      simp at h; subst h
      obtain ⟨h1, ns, h2, h3, h4⟩ := rowsBytes_get rs l' hl'
      refine ⟨by simp [h1], n :: ns, by simp [h2], ?_, by simp [h4]⟩
      intro i m hm
      cases i with
      | zero => simp at hm; simp [hm]
      | succ i => simp at hm; simpa using h3 i m hm
    · simp at h

theorem foldl_push_nums (ns : List Int) : ∀ (b : ByteArray), (ns.foldl (fun r n => r.push (UInt8.ofNat n.toNat)) b) = ⟨b.data ++ (ns.map fun n => UInt8.ofNat n.toNat).toArray⟩ := by
  induction ns with
  | nil => intro b; cases b; simp
  | cons n ns ih =>
    intro b
    rw [List.foldl_cons, ih]
    cases b
    simp [ByteArray.push]

theorem convert_sound (hE : EnvOk E P) (hR : R Φ L s w) {t u : TypeId} {x d : D} {vx : Value} (h : convertOp E s t u x = some d) (hx : Rel Φ L s w x vx) : ∃ v, (convert t u vx).run P w = .ok v w ∧ Rel Φ L s w d v := by
  unfold convertOp at h
  split at h
  · rename_i ds k _ n hd1 hd2
    cases hx.v_inv
    simp at h; subst h
    refine ⟨_, ?_, .v (by simp [plainLeaf])⟩
    simp only [convert, Sem.run_bind, run_und hE hd1, run_und hE hd2, Result.andThen_ok, Conv.intToInt, Sem.run_pure]
  · rename_i e hd1 hd2
    split at h
    · rename_i rs he hrs
      split at h
      · rename_i l hl
        simp at h; subst h
        obtain ⟨hlen, ns, hns, hget, rfl⟩ := rowsBytes_get rs l hl
        rcases slRows_cells hR hrs hx with ⟨rfl, rfl⟩ | ⟨a, c, n, rfl, hrl, hcell, hspot⟩
        · have : ns = [] := by
            cases ns with
            | nil => rfl
            | cons m ns => simp at hns hlen
          subst this
          refine ⟨_, ?_, .v (by simp [plainLeaf])⟩
          rw [run_convert_bytes_string w t u e none 0 0 (hE.desc hd1) (hE.desc he) (hE.desc hd2)]
          simp [Conv.bytesToString]
          rfl
        · refine ⟨_, ?_, .v (by simp [plainLeaf])⟩
          rw [run_convert_bytes_string w t u e (some a) _ c (hE.desc hd1) (hE.desc he) (hE.desc hd2)]
          have hl : (loadCells a rs.length).run P w = .ok (ns.map (Value.int .u8)).toArray w := by
            have := run_loadCells_list (P := P) w a (ns.map (Value.int .u8)) (fun j v hj => by
              have hjl : j < ns.length := by
                have := lt_of_get hj
                simpa using this
              have hr := hget j _ (List.getElem?_eq_getElem hjl)
              have hne : rs ≠ [] := by intro e; subst e; simp at hr
              have ha : a = ⟨a.block, a.off, none⟩ := by have := hspot hne; cases a; simp at this; simp [this]
              have hn1 : n = 1 := by rw [← hrl _ (List.mem_of_getElem? hr)]; rfl
              obtain ⟨y, hy1, _, hy3⟩ := hcell j _ hr 0 _ rfl
              cases hy3.v_inv
              rw [ha, addr_add]
              rw [hn1, Nat.mul_one, Nat.add_zero] at hy1
              rw [hy1]
              simp [List.getElem?_eq_getElem hjl] at hj
              rw [← hj])
            rw [List.length_map] at this
            rw [hlen, List.length_map]
            exact this
          rw [run_bytesToString w a _ c ns hl, foldl_push_nums]
          simp [ByteArray.empty, ByteArray.emptyWithCapacity]
          rfl
      · simp at h
    · simp at h
  · simp at h

theorem boundOf_sound {d : Option D} {dflt n y : Nat} {code : BoundsCode} (h : boundOf d dflt = some n) : d = none ∧ n = dflt ∨ ∃ k m, d = some (.v (.int k m)) ∧ 0 ≤ m ∧ n = m.toNat ∧ (n ≤ y → (Instr.sliceBound (.int k m) y code).run P w = .ok n w) := by
  unfold boundOf at h
  split at h
  · simp at h; exact .inl ⟨rfl, h.symm⟩
  · rename_i k m
    split at h
    · rename_i hm
      simp at h
      refine .inr ⟨k, m, rfl, hm, h.symm, fun hle => ?_⟩
      have : m ≤ (y : Int) := by omega
      simp [Instr.sliceBound, asIntOf, hm, this, h]
    · simp at h
  · simp at h
end Go.AM
