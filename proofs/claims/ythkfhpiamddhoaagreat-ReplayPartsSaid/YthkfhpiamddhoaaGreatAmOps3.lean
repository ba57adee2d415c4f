/- Operations, one by one: the rest; and all of them together. -/
import Derived.Test.YthkfhpiamddhoaaGreatAmOps2
set_option autoImplicit false
namespace Go.AM

variable {E : Env} {P : Program} {Φ : Nat → Prop} {L : Lay} {s : St} {w : World}

theorem binOp_sound (hE : EnvOk2 E P) {op : BinOp} {t : TypeId} {x y d : D} {vx vy : Value} (h : binOpD E op t x y = some d) (hx : Rel Φ L s w x vx) (hy : Rel Φ L s w y vy) (ox oy : Operand) :
    ∃ v, (eqGuard op t ox oy vx vy >>= fun _ => binOp op t vx vy).run P w = .ok v w ∧ Rel Φ L s w d v := by
  have noGuard : ∀ (a b : Value), (∀ xs, a ≠ .agg xs) → a ≠ .nilIface → (eqGuard op t ox oy a b).run P w = .ok () w := by
    intro a b h1 h2
    cases op <;> (cases a <;> simp at h1 h2 <;> simp [eqGuard])
  unfold binOpD at h
  split at h
  · split at h
    · rename_i hk
      cases hx.v_inv; cases hy.v_inv
      simp only [Option.map_eq_some_iff] at h
      obtain ⟨v, hv, rfl⟩ := h
      obtain ⟨h1, h2⟩ := intOp_sound (P := P) (w := w) hv _ hk t
      exact ⟨v, by simp [noGuard, h1], .v h2⟩
    · simp at h
  · split at h
    · rename_i hk
      cases hx.v_inv; cases hy.v_inv
      subst hk
      simp only [Option.map_eq_some_iff] at h
      obtain ⟨v, hv, rfl⟩ := h
      obtain ⟨h1, h2⟩ := floatOp_sound (P := P) (w := w) hv t
      exact ⟨v, by simp [noGuard, h1], .v h2⟩
    · simp at h
  · cases hx.v_inv; cases hy.v_inv
    simp only [Option.map_eq_some_iff] at h
    obtain ⟨v, hv, rfl⟩ := h
    obtain ⟨h1, h2⟩ := strOp_sound (P := P) (w := w) hv t
    exact ⟨v, by simp [noGuard, h1], .v h2⟩
  · rename_i n1 n2 n3
    have key : ∀ b, deq E eqDepth t x y = some b → binOp .eql t vx vy = (Value.bool <$> Op.equal t vx vy) ∧ binOp .neq t vx vy = ((fun b => Value.bool (!b)) <$> Op.equal t vx vy) := by
      intro b hb
      have hne : ∀ a b, ¬ (vx = .int a b) ∨ ∀ c d, ¬ (vy = .int c d) := by
        intro a b
        by_cases e : vx = .int a b
        · right
          intro c d e2
          subst e; subst e2
          cases hx with | v _ => cases hy with | v _ => exact n1 _ _ _ _ rfl rfl
        · exact .inl e
      have hne2 : ∀ a b, ¬ (vx = .float a b) ∨ ∀ c d, ¬ (vy = .float c d) := by
        intro a b
        by_cases e : vx = .float a b
        · right
          intro c d e2
          subst e; subst e2
          cases hx with | v _ => cases hy with | v _ => exact n2 _ _ _ _ rfl rfl
        · exact .inl e
      have hne3 : ∀ a, ¬ (vx = .string a) ∨ ∀ c, ¬ (vy = .string c) := by
        intro a
        by_cases e : vx = .string a
        · right
          intro c e2
          subst e; subst e2
          cases hx with | v _ => cases hy with | v _ => exact n3 _ _ rfl rfl
        · exact .inl e
      have hne4 : ∀ k a b, vx ≠ .complex k a b := by
        intro k a b e
        subst e
        cases hx with
        | v _ => unfold deq eqDepth at hb; simp at hb
      cases vx <;> cases vy <;> simp at hne hne2 hne3 hne4 <;> simp [binOp]
    split at h
    · simp only [Option.map_eq_some_iff] at h
      obtain ⟨b, hb, rfl⟩ := h
      have h1 := (key b hb).1
      have h2 := deq_sound hE eqDepth Op.maxDepth t x y b vx vy (by decide) hb hx hy
      exact ⟨.bool b, by simp [eqGuard_run hE hb hx hy, h1, Op.equal, h2], .v rfl⟩
    · simp only [Option.map_eq_some_iff] at h
      obtain ⟨b, hb, rfl⟩ := h
      have h1 := (key b hb).2
      have h2 := deq_sound hE eqDepth Op.maxDepth t x y b vx vy (by decide) hb hx hy
      exact ⟨.bool (!b), by simp [eqGuard_run hE hb hx hy, h1, Op.equal, h2], .v rfl⟩
    · simp at h

theorem unOp_sound {op : UnOp} {x d : D} {vx : Value} (h : unOpD op x = some d) (hx : Rel Φ L s w x vx) : ∃ v, (Op.unary op vx).run P w = .ok v w ∧ Rel Φ L s w d v := by
  unfold unOpD at h
  split at h
  · cases hx.v_inv
    simp [intOp] at h; subst h
    exact ⟨_, by simp [Op.unary, Op.intArith], .v (by simp [plainLeaf])⟩
  · cases hx.v_inv
    simp [intOp] at h; subst h
    exact ⟨_, by simp [Op.unary, Op.intBits], .v (by simp [plainLeaf])⟩
  · cases hx.v_inv
    simp at h; subst h
    exact ⟨_, by simp [Op.unary], .v (by simp [plainLeaf])⟩
  · cases hx.v_inv
    simp at h; subst h
    exact ⟨_, by simp [Op.unary], .v (by simp [plainLeaf])⟩
  · simp at h

theorem fieldAddr_sound (hE : EnvOk E P) {t : TypeId} {x d : D} {f : Nat} {vx : Value} (h : fieldAddrOp E t x f = some d) (hx : Rel Φ L s w x vx) : ∃ v, (Instr.fieldAt t vx f).run P w = .ok v w ∧ Rel Φ L s w d v := by
  unfold fieldAddrOp at h
  split at h
  · rename_i fd hfd
    unfold fieldOf at hfd
    split at hfd
    · rename_i fs hd
      split at h
      · simp at h
      · rename_i sz hsz0 hsz
        have hz : sz ≠ 0 := hsz0
        have run : ∀ (b o : Nat), (Instr.fieldAt t (.pointer (some ⟨b, o, none⟩)) f).run P w = .ok (.pointer (some ⟨b, o + fd.offset, none⟩)) w := by
          intro b o
          simp [Instr.fieldAt, run_und hE hd, hfd, Instr.sureAddr, fieldPlace, run_size hE hsz, hz, addr_add]
        split at h
        · rename_i id st row col
          simp at h; subst h
          cases hx with
          | @ref _ _ _ _ a hst hadr =>
            by_cases hcur : ∃ (rs : List (List D)) (esz : Nat), s.σ[id]? = some (Obj.rows st rs esz)
            · obtain ⟨rs, esz, hrs⟩ := hcur
              have := hadr _ _ hrs
              subst this
              exact ⟨_, run _ _, .ref hst (fun rs' esz' h' => by rw [hrs] at h'; simp at h'; obtain ⟨_, rfl⟩ := h'; simp [Nat.add_assoc])⟩
            · refine ⟨.pointer (some (a.add fd.offset)), ?_, .ref hst (fun rs' esz' h' => absurd ⟨rs', esz', h'⟩ hcur)⟩
              simp [Instr.fieldAt, run_und hE hd, hfd, Instr.sureAddr, fieldPlace, run_size hE hsz, hz]
        · simp at h; subst h
          cases hx with
          | @ipt row col b o g ho hb hcell hrel hid =>
            refine ⟨_, run _ _, ?_⟩
            rw [Nat.add_assoc]
            exact .ipt g ho hb hcell hrel hid
        · simp at h
      · simp at h
    · simp at hfd
  · simp at h

theorem indexAddr_sound (hE : EnvOk E P) {t : TypeId} {x i d : D} {vx vi : Value} (h : indexAddrOp E s t x i = some d) (hx : Rel Φ L s w x vx) (hi : Rel Φ L s w i vi) : ∃ v, (Instr.indexAt t vx vi).run P w = .ok v w ∧ Rel Φ L s w d v := by
  unfold indexAddrOp at h
  split at h
  · rename_i k n
    cases hi.v_inv
    split at h
    · rename_i hn
      split at h
      · rename_i len elem hd
        split at h
        · rename_i sz hsz
          split at h
          · rename_i hlt
            have hlt' : n < (len : Int) := by omega
            have run : ∀ a : Addr, (Instr.indexAt t (.pointer (some a)) (.int k n)).run P w = .ok (.pointer (some (a.add (n.toNat * sz)))) w := by
              intro a
              simp [Instr.indexAt, asIntOf, run_und hE hd, Instr.sureAddr, hn, hlt', run_size hE hsz]
            split at h
            · simp at h; subst h
              cases hx with
              | @ref id st row col a hst hadr =>
                refine ⟨_, run a, .ref hst (fun rs esz hrs => ?_)⟩
                rw [hadr _ _ hrs, addr_add, Nat.add_assoc]
            · simp at h; subst h
              cases hx with
              | @ipt row col b o g ho hb hcell hrel hid =>
                refine ⟨_, run _, ?_⟩
                rw [addr_add, Nat.add_assoc]
                exact .ipt g ho hb hcell hrel hid
            · simp at h
          · simp at h
        · simp at h
      · rename_i elem hd
        split at h
        · rename_i es cap sz hsz
          split at h
          · rename_i r hr
            rw [getL_eq] at hr
            split at h
            · rename_i hrl
              simp at h; subst h
              cases hx with
              | @sl _ _ a len c m g hs ho hb hl hc hk hm hcell hrel hid =>
                have hmem := List.mem_of_getElem? hr
                have hms : sz = m := by rw [← hrl]; exact hm r hmem
                have hlt : n < (len : Int) := by
                  have := lt_of_get hr
                  omega
                have hne : es ≠ [] := by rintro rfl; simp at hr
                have ha : a = ⟨a.block, a.off, none⟩ := by have := hs hne; cases a; simp at this; simp [this]
                refine ⟨.pointer (some (a.add (n.toNat * sz))), ?_, ?_⟩
                · simp [Instr.indexAt, asIntOf, run_und hE hd, hn, hlt, run_size hE hsz]
                · rw [ha, addr_add, hms]
                  exact .ipt (row := r) (col := 0) (o := a.off + n.toNat * m) (g n.toNat) (ho hne) (hb hne) (fun j d hd => hcell _ r hr j d hd) (fun j d hd => hrel _ r hr j d hd) (noIdsR_get _ hid _ _ hr)
            · simp at h
          · simp at h
        · rename_i id st off len sz hsz
          split at h
          · rename_i rs esz hrs
            rw [St.rowsOf_some] at hrs
            split at h
            · rename_i hc
              obtain ⟨hlt, hes⟩ := hc
              simp at h; subst h
              cases hx with
              | @osl _ _ _ _ c a hst hlc hadr =>
                obtain ⟨g1, g2, g3, g4, g5⟩ := hadr _ _ hrs
                have hc0 : c ≠ 0 := by omega
                have g5 := g5.resolve_left hc0
                have ha : a = ⟨a.block, a.off, none⟩ := by cases a; simp at g3; simp [g3]
                have hlt' : n < (len : Int) := by omega
                refine ⟨.pointer (some (a.add (n.toNat * sz))), ?_, .ref hst (fun rs' esz' h' => ?_)⟩
                · simp [Instr.indexAt, asIntOf, run_und hE hd, hn, hlt', run_size hE hsz]
                · rw [hrs] at h'
                  simp at h'
                  obtain ⟨_, rfl⟩ := h'
                  rw [ha, addr_add, g4, g5, hes, Nat.add_mul]
                  simp [Nat.add_assoc]
            · simp at h
          · simp at h
        · rename_i id st row col len esz sz hsz
          split at h
          · rename_i hc
            obtain ⟨hlt, hes⟩ := hc
            simp at h; subst h
            cases hx with
            | @csl _ _ _ _ _ _ c a hst hlc hadr =>
              have hlt' : n < (len : Int) := by omega
              refine ⟨.pointer (some (a.add (n.toNat * sz))), ?_, .ref hst (fun rs' esz' h' => ?_)⟩
              · simp [Instr.indexAt, asIntOf, run_und hE hd, hn, hlt', run_size hE hsz]
              · obtain ⟨g3, g4, g5⟩ := hadr _ _ h'
                have hc0 : c ≠ 0 := by omega
                have g5 := g5.resolve_left hc0
                have ha : a = ⟨a.block, a.off, none⟩ := by cases a; simp at g3; simp [g3]
                rw [ha, addr_add, g4, g5, hes]
                simp [Nat.add_assoc]
          · simp at h
        · simp at h
      · simp at h
    · simp at h
  · simp at h

theorem slLen_sound {x : D} {n : Nat} {vx : Value} (h : slLen x = some n) (hx : Rel Φ L s w x vx) : ∃ a c, vx = .slice a n c := by
  unfold slLen at h
  split at h
  · simp at h; subst h; cases hx.v_inv; exact ⟨_, _, rfl⟩
  · simp at h; subst h
    cases hx with | sl g hs ho hb hl hc hk hm hcell hrel hid => exact ⟨_, _, by rw [hl]⟩
  · simp at h; subst h; cases hx with | osl => exact ⟨_, _, rfl⟩
  · simp at h; subst h; cases hx with | csl => exact ⟨_, _, rfl⟩
  · simp at h
#print axioms indexAddr_sound
end Go.AM
