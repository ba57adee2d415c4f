/- The statement ReplayParts: what the functions that it reaches compute. -/
import Derived.Test.YthkfhpiamddhoaaGreatTab3Ok
import Derived.Test.YthkfhpiamddhoaaGreatAmK
set_option autoImplicit false
set_option linter.unusedVariables false
namespace Go.Proofs.YthkfhpiamddhoaaGreat
open Go.AM
noncomputable section
def spTrue : KSpec := fun _ _ _ _ args s k _ => match args with | [] => k (.v (.bool true)) s | _ => none
def spB (F : List D → Option Bool) : KSpec := fun _ _ _ _ args s k _ => bindO (F args) fun b => k (.v (.bool b)) s
def spS (F : List D → Option ByteArray) : KSpec := fun _ _ _ _ args s k _ => bindO (F args) fun b => k (.v (.string b)) s
theorem few_eq (ac0 : D) (ac1 : D) (ac2 : D) (abn : ByteArray) (ac4 : D) (ac5 : D) (ac6 : D) (ac7 : D) (ac8 : D) (ac9 : D) (ac10 : D) (ac11 : D) (ac12 : D) (ac13 : D) (ac14 : D) (ac15 : D) (ac16 : D) (ac17 : D) (ac18 : D) (ac19 : D) (ac20 : D) (ac21 : D) (ac22 : D) (ac23 : D) (ac24 : D) (ac25 : D) (ac26 : D) (ac27 : D) (ac28 : D) (ac29 : D) (aon : ByteArray) (ac31 : D) (aan : ByteArray) (ac33 : D) (aer : Int) (are : Int) (ahi : Bool) (ave : Int) (aun : ByteArray) (ac39 : D) (ale : Int) (asu : Int) : pureK env (Cof D []) noLoops 5 [.agg [ac0, ac1, ac2, .v (.string abn), ac4, ac5, ac6, ac7, ac8, ac9, ac10, ac11, ac12, ac13, ac14, ac15, ac16, ac17, ac18, ac19, ac20, ac21, ac22, ac23, ac24, ac25, ac26, ac27, ac28, ac29, .v (.string aon), ac31, .v (.string aan), ac33, .v (.int .i64 aer), .v (.int .i64 are), .v (.bool ahi), .v (.int .i64 ave), .v (.string aun), ac39, .v (.int .i64 ale), .v (.int .u32 asu)]] =
  (bindO (lenD env 22 ac1) fun t0 =>
  bindO (binOpD env BinOp.leq 3 t0 (.v (.int .i64 140000))) fun t1 =>
  matchB t1
    (bcond (@Decidable.decide (@LE.le @Int @Int.instLEInt (@Nat.cast @Int @instNatCastInt (@ByteArray.size aan)) (400 : Nat)) (@Int.decLe (@Nat.cast @Int @instNatCastInt (@ByteArray.size aan)) (400 : Nat)))
      (bcond (@Decidable.decide (@LE.le @Int @Int.instLEInt (@Nat.cast @Int @instNatCastInt (@ByteArray.size aon)) (400 : Nat)) (@Int.decLe (@Nat.cast @Int @instNatCastInt (@ByteArray.size aon)) (400 : Nat)))
        (bcond (@Decidable.decide (@LE.le @Int @Int.instLEInt (@Nat.cast @Int @instNatCastInt (@ByteArray.size abn)) (400 : Nat)) (@Int.decLe (@Nat.cast @Int @instNatCastInt (@ByteArray.size abn)) (400 : Nat)))
          (bcond (@Decidable.decide (@LE.le @Int @Int.instLEInt (@Nat.cast @Int @instNatCastInt (@ByteArray.size aun)) (400 : Nat)) (@Int.decLe (@Nat.cast @Int @instNatCastInt (@ByteArray.size aun)) (400 : Nat)))
            (bindO (lenD env 22 ac39) fun t2 =>
            bindO (binOpD env BinOp.leq 3 t2 (.v (.int .i64 3000))) fun t3 =>
            bindO (frz (St.mk [(.rows 0 [[ac0, ac1, ac2, (.v (.string abn)), ac4, ac5, ac6, ac7, ac8, ac9, ac10, ac11, ac12, ac13, ac14, ac15, ac16, ac17, ac18, ac19, ac20, ac21, ac22, ac23, ac24, ac25, ac26, ac27, ac28, ac29, (.v (.string aon)), ac31, (.v (.string aan)), ac33, (.v (.int .i64 aer)), (.v (.int .i64 are)), (.v (.bool ahi)), (.v (.int .i64 ave)), (.v (.string aun)), ac39, (.v (.int .i64 ale)), (.v (.int .u32 asu))]] 42), (.rows 1 [[ac0, ac1, ac2, (.v (.string abn)), ac4, ac5, ac6, ac7, ac8, ac9, ac10, ac11, ac12, ac13, ac14, ac15, ac16, ac17, ac18, ac19, ac20, ac21, ac22, ac23, ac24, ac25, ac26, ac27, ac28, ac29, (.v (.string aon)), ac31, (.v (.string aan)), ac33]] 34)] 2 0 []) 0 12 (packR [t3])) fun t4 =>
            bcond (noIds t4)
              (some t4)
              (none))
            (some (.v (.bool false))))
          (some (.v (.bool false))))
        (some (.v (.bool false))))
      (some (.v (.bool false))))
    (some (.v (.bool false)))) := by kernel_rfl
def parts (aer : Int) (are : Int) (ahi : Bool) (ave : Int) (aun : ByteArray) (ale : Int) (asu : Int) (ber : Int) (bre : Int) (bhi : Bool) (bve : Int) (bun : ByteArray) (ble : Int) (bsu : Int) : Option D :=
  bcond (@bne @Int (@instBEqOfDecidableEq @Int @Int.instDecidableEq) aer ber)
    (some (.v (.string (@ByteArray.mk (.mk [101, 114, 114])))))
    (bcond (@bne @Int (@instBEqOfDecidableEq @Int @Int.instDecidableEq) are bre)
    (some (.v (.string (@ByteArray.mk (.mk [114, 101, 97, 115, 111, 110])))))
    (bcond (@Bool.not (@BEq.beq @Bool (@instBEqOfDecidableEq @Bool @instDecidableEqBool) ahi bhi))
    (some (.v (.string (@ByteArray.mk (.mk [104, 105, 116])))))
    (bcond (@bne @Int (@instBEqOfDecidableEq @Int @Int.instDecidableEq) ave bve)
    (some (.v (.string (@ByteArray.mk (.mk [118, 101, 114, 115, 105, 111, 110])))))
    (bcond (@Bool.not (@BEq.beq (@List @UInt8) (@List.instBEq @UInt8 (@instBEqOfDecidableEq @UInt8 @instDecidableEqUInt8)) (@Array.toList @UInt8 (@ByteArray.data aun)) (@Array.toList @UInt8 (@ByteArray.data bun))))
    (some (.v (.string (@ByteArray.mk (.mk [110, 97, 109, 101])))))
    (bcond (@bne @Int (@instBEqOfDecidableEq @Int @Int.instDecidableEq) ale ble)
    (some (.v (.string (@ByteArray.mk (.mk [108, 101, 110])))))
    (bcond (@bne @Int (@instBEqOfDecidableEq @Int @Int.instDecidableEq) asu bsu)
    (some (.v (.string (@ByteArray.mk (.mk [115, 117, 109])))))
    (some (.v (.string (@ByteArray.mk (.mk [])))))))))))
theorem parts_eq (ac0 : D) (ac1 : D) (ac2 : D) (abn : ByteArray) (ac4 : D) (ac5 : D) (ac6 : D) (ac7 : D) (ac8 : D) (ac9 : D) (ac10 : D) (ac11 : D) (ac12 : D) (ac13 : D) (ac14 : D) (ac15 : D) (ac16 : D) (ac17 : D) (ac18 : D) (ac19 : D) (ac20 : D) (ac21 : D) (ac22 : D) (ac23 : D) (ac24 : D) (ac25 : D) (ac26 : D) (ac27 : D) (ac28 : D) (ac29 : D) (aon : ByteArray) (ac31 : D) (aan : ByteArray) (ac33 : D) (aer : Int) (are : Int) (ahi : Bool) (ave : Int) (aun : ByteArray) (ac39 : D) (ale : Int) (asu : Int) (bc0 : D) (bc1 : D) (bc2 : D) (bbn : ByteArray) (bc4 : D) (bc5 : D) (bc6 : D) (bc7 : D) (bc8 : D) (bc9 : D) (bc10 : D) (bc11 : D) (bc12 : D) (bc13 : D) (bc14 : D) (bc15 : D) (bc16 : D) (bc17 : D) (bc18 : D) (bc19 : D) (bc20 : D) (bc21 : D) (bc22 : D) (bc23 : D) (bc24 : D) (bc25 : D) (bc26 : D) (bc27 : D) (bc28 : D) (bc29 : D) (bon : ByteArray) (bc31 : D) (ban : ByteArray) (bc33 : D) (ber : Int) (bre : Int) (bhi : Bool) (bve : Int) (bun : ByteArray) (bc39 : D) (ble : Int) (bsu : Int) : pureK env (Cof D []) noLoops 6 [.agg [ac0, ac1, ac2, .v (.string abn), ac4, ac5, ac6, ac7, ac8, ac9, ac10, ac11, ac12, ac13, ac14, ac15, ac16, ac17, ac18, ac19, ac20, ac21, ac22, ac23, ac24, ac25, ac26, ac27, ac28, ac29, .v (.string aon), ac31, .v (.string aan), ac33, .v (.int .i64 aer), .v (.int .i64 are), .v (.bool ahi), .v (.int .i64 ave), .v (.string aun), ac39, .v (.int .i64 ale), .v (.int .u32 asu)], .agg [bc0, bc1, bc2, .v (.string bbn), bc4, bc5, bc6, bc7, bc8, bc9, bc10, bc11, bc12, bc13, bc14, bc15, bc16, bc17, bc18, bc19, bc20, bc21, bc22, bc23, bc24, bc25, bc26, bc27, bc28, bc29, .v (.string bon), bc31, .v (.string ban), bc33, .v (.int .i64 ber), .v (.int .i64 bre), .v (.bool bhi), .v (.int .i64 bve), .v (.string bun), bc39, .v (.int .i64 ble), .v (.int .u32 bsu)]] = parts aer are ahi ave aun ale asu ber bre bhi bve bun ble bsu := by kernel_rfl
theorem rparts_eq (ac0 : D) (ac1 : D) (ac2 : D) (abn : ByteArray) (ac4 : D) (ac5 : D) (ac6 : D) (ac7 : D) (ac8 : D) (ac9 : D) (ac10 : D) (ac11 : D) (ac12 : D) (ac13 : D) (ac14 : D) (ac15 : D) (ac16 : D) (ac17 : D) (ac18 : D) (ac19 : D) (ac20 : D) (ac21 : D) (ac22 : D) (ac23 : D) (ac24 : D) (ac25 : D) (ac26 : D) (ac27 : D) (ac28 : D) (ac29 : D) (aon : ByteArray) (ac31 : D) (aan : ByteArray) (ac33 : D) (aer : Int) (are : Int) (ahi : Bool) (ave : Int) (aun : ByteArray) (ac39 : D) (ale : Int) (asu : Int) (bc0 : D) (bc1 : D) (bc2 : D) (bbn : ByteArray) (bc4 : D) (bc5 : D) (bc6 : D) (bc7 : D) (bc8 : D) (bc9 : D) (bc10 : D) (bc11 : D) (bc12 : D) (bc13 : D) (bc14 : D) (bc15 : D) (bc16 : D) (bc17 : D) (bc18 : D) (bc19 : D) (bc20 : D) (bc21 : D) (bc22 : D) (bc23 : D) (bc24 : D) (bc25 : D) (bc26 : D) (bc27 : D) (bc28 : D) (bc29 : D) (bon : ByteArray) (bc31 : D) (ban : ByteArray) (bc33 : D) (ber : Int) (bre : Int) (bhi : Bool) (bve : Int) (bun : ByteArray) (bc39 : D) (ble : Int) (bsu : Int) : pureK env (Cof D []) noLoops 7 [.agg [ac0, ac1, ac2, .v (.string abn), ac4, ac5, ac6, ac7, ac8, ac9, ac10, ac11, ac12, ac13, ac14, ac15, ac16, ac17, ac18, ac19, ac20, ac21, ac22, ac23, ac24, ac25, ac26, ac27, ac28, ac29, .v (.string aon), ac31, .v (.string aan), ac33, .v (.int .i64 aer), .v (.int .i64 are), .v (.bool ahi), .v (.int .i64 ave), .v (.string aun), ac39, .v (.int .i64 ale), .v (.int .u32 asu)], .agg [bc0, bc1, bc2, .v (.string bbn), bc4, bc5, bc6, bc7, bc8, bc9, bc10, bc11, bc12, bc13, bc14, bc15, bc16, bc17, bc18, bc19, bc20, bc21, bc22, bc23, bc24, bc25, bc26, bc27, bc28, bc29, .v (.string bon), bc31, .v (.string ban), bc33, .v (.int .i64 ber), .v (.int .i64 bre), .v (.bool bhi), .v (.int .i64 bve), .v (.string bun), bc39, .v (.int .i64 ble), .v (.int .u32 bsu)]] = parts aer are ahi ave aun ale asu ber bre bhi bve bun ble bsu := by kernel_rfl
theorem law_eq (F : List D → Option Bool) (P Q : List D → Option ByteArray) (ac0 : D) (ac1 : D) (ac2 : D) (abn : ByteArray) (ac4 : D) (ac5 : D) (ac6 : D) (ac7 : D) (ac8 : D) (ac9 : D) (ac10 : D) (ac11 : D) (ac12 : D) (ac13 : D) (ac14 : D) (ac15 : D) (ac16 : D) (ac17 : D) (ac18 : D) (ac19 : D) (ac20 : D) (ac21 : D) (ac22 : D) (ac23 : D) (ac24 : D) (ac25 : D) (ac26 : D) (ac27 : D) (ac28 : D) (ac29 : D) (aon : ByteArray) (ac31 : D) (aan : ByteArray) (ac33 : D) (aer : Int) (are : Int) (ahi : Bool) (ave : Int) (aun : ByteArray) (ac39 : D) (ale : Int) (asu : Int) (bc0 : D) (bc1 : D) (bc2 : D) (bbn : ByteArray) (bc4 : D) (bc5 : D) (bc6 : D) (bc7 : D) (bc8 : D) (bc9 : D) (bc10 : D) (bc11 : D) (bc12 : D) (bc13 : D) (bc14 : D) (bc15 : D) (bc16 : D) (bc17 : D) (bc18 : D) (bc19 : D) (bc20 : D) (bc21 : D) (bc22 : D) (bc23 : D) (bc24 : D) (bc25 : D) (bc26 : D) (bc27 : D) (bc28 : D) (bc29 : D) (bon : ByteArray) (bc31 : D) (ban : ByteArray) (bc33 : D) (ber : Int) (bre : Int) (bhi : Bool) (bve : Int) (bun : ByteArray) (bc39 : D) (ble : Int) (bsu : Int) : pureK env (Cof D [(4, spTrue), (5, spB F), (6, spS P), (7, spS Q)]) noLoops 3 [.agg [ac0, ac1, ac2, .v (.string abn), ac4, ac5, ac6, ac7, ac8, ac9, ac10, ac11, ac12, ac13, ac14, ac15, ac16, ac17, ac18, ac19, ac20, ac21, ac22, ac23, ac24, ac25, ac26, ac27, ac28, ac29, .v (.string aon), ac31, .v (.string aan), ac33, .v (.int .i64 aer), .v (.int .i64 are), .v (.bool ahi), .v (.int .i64 ave), .v (.string aun), ac39, .v (.int .i64 ale), .v (.int .u32 asu)], .agg [bc0, bc1, bc2, .v (.string bbn), bc4, bc5, bc6, bc7, bc8, bc9, bc10, bc11, bc12, bc13, bc14, bc15, bc16, bc17, bc18, bc19, bc20, bc21, bc22, bc23, bc24, bc25, bc26, bc27, bc28, bc29, .v (.string bon), bc31, .v (.string ban), bc33, .v (.int .i64 ber), .v (.int .i64 bre), .v (.bool bhi), .v (.int .i64 bve), .v (.string bun), bc39, .v (.int .i64 ble), .v (.int .u32 bsu)]] =
  (bindO (F [(.agg [ac0, ac1, ac2, (.v (.string abn)), ac4, ac5, ac6, ac7, ac8, ac9, ac10, ac11, ac12, ac13, ac14, ac15, ac16, ac17, ac18, ac19, ac20, ac21, ac22, ac23, ac24, ac25, ac26, ac27, ac28, ac29, (.v (.string aon)), ac31, (.v (.string aan)), ac33, (.v (.int .i64 aer)), (.v (.int .i64 are)), (.v (.bool ahi)), (.v (.int .i64 ave)), (.v (.string aun)), ac39, (.v (.int .i64 ale)), (.v (.int .u32 asu))])]) fun t0 =>
  bcond (@Bool.not t0)
    (some (.v (.bool true)))
    (bindO (F [(.agg [bc0, bc1, bc2, (.v (.string bbn)), bc4, bc5, bc6, bc7, bc8, bc9, bc10, bc11, bc12, bc13, bc14, bc15, bc16, bc17, bc18, bc19, bc20, bc21, bc22, bc23, bc24, bc25, bc26, bc27, bc28, bc29, (.v (.string bon)), bc31, (.v (.string ban)), bc33, (.v (.int .i64 ber)), (.v (.int .i64 bre)), (.v (.bool bhi)), (.v (.int .i64 bve)), (.v (.string bun)), bc39, (.v (.int .i64 ble)), (.v (.int .u32 bsu))])]) fun t1 =>
  bcond (@Bool.not t1)
    (some (.v (.bool true)))
    (bindO (P [(.agg [ac0, ac1, ac2, (.v (.string abn)), ac4, ac5, ac6, ac7, ac8, ac9, ac10, ac11, ac12, ac13, ac14, ac15, ac16, ac17, ac18, ac19, ac20, ac21, ac22, ac23, ac24, ac25, ac26, ac27, ac28, ac29, (.v (.string aon)), ac31, (.v (.string aan)), ac33, (.v (.int .i64 aer)), (.v (.int .i64 are)), (.v (.bool ahi)), (.v (.int .i64 ave)), (.v (.string aun)), ac39, (.v (.int .i64 ale)), (.v (.int .u32 asu))]), (.agg [bc0, bc1, bc2, (.v (.string bbn)), bc4, bc5, bc6, bc7, bc8, bc9, bc10, bc11, bc12, bc13, bc14, bc15, bc16, bc17, bc18, bc19, bc20, bc21, bc22, bc23, bc24, bc25, bc26, bc27, bc28, bc29, (.v (.string bon)), bc31, (.v (.string ban)), bc33, (.v (.int .i64 ber)), (.v (.int .i64 bre)), (.v (.bool bhi)), (.v (.int .i64 bve)), (.v (.string bun)), bc39, (.v (.int .i64 ble)), (.v (.int .u32 bsu))])]) fun t2 =>
  bindO (Q [(.agg [ac0, ac1, ac2, (.v (.string abn)), ac4, ac5, ac6, ac7, ac8, ac9, ac10, ac11, ac12, ac13, ac14, ac15, ac16, ac17, ac18, ac19, ac20, ac21, ac22, ac23, ac24, ac25, ac26, ac27, ac28, ac29, (.v (.string aon)), ac31, (.v (.string aan)), ac33, (.v (.int .i64 aer)), (.v (.int .i64 are)), (.v (.bool ahi)), (.v (.int .i64 ave)), (.v (.string aun)), ac39, (.v (.int .i64 ale)), (.v (.int .u32 asu))]), (.agg [bc0, bc1, bc2, (.v (.string bbn)), bc4, bc5, bc6, bc7, bc8, bc9, bc10, bc11, bc12, bc13, bc14, bc15, bc16, bc17, bc18, bc19, bc20, bc21, bc22, bc23, bc24, bc25, bc26, bc27, bc28, bc29, (.v (.string bon)), bc31, (.v (.string ban)), bc33, (.v (.int .i64 ber)), (.v (.int .i64 bre)), (.v (.bool bhi)), (.v (.int .i64 bve)), (.v (.string bun)), bc39, (.v (.int .i64 ble)), (.v (.int .u32 bsu))])]) fun t3 =>
  bcond (@BEq.beq (@List @UInt8) (@List.instBEq @UInt8 (@instBEqOfDecidableEq @UInt8 @instDecidableEqUInt8)) (@Array.toList @UInt8 (@ByteArray.data t2)) (@Array.toList @UInt8 (@ByteArray.data t3)))
    (bindO (P [(.agg [ac0, ac1, ac2, (.v (.string abn)), ac4, ac5, ac6, ac7, ac8, ac9, ac10, ac11, ac12, ac13, ac14, ac15, ac16, ac17, ac18, ac19, ac20, ac21, ac22, ac23, ac24, ac25, ac26, ac27, ac28, ac29, (.v (.string aon)), ac31, (.v (.string aan)), ac33, (.v (.int .i64 aer)), (.v (.int .i64 are)), (.v (.bool ahi)), (.v (.int .i64 ave)), (.v (.string aun)), ac39, (.v (.int .i64 ale)), (.v (.int .u32 asu))]), (.agg [ac0, ac1, ac2, (.v (.string abn)), ac4, ac5, ac6, ac7, ac8, ac9, ac10, ac11, ac12, ac13, ac14, ac15, ac16, ac17, ac18, ac19, ac20, ac21, ac22, ac23, ac24, ac25, ac26, ac27, ac28, ac29, (.v (.string aon)), ac31, (.v (.string aan)), ac33, (.v (.int .i64 aer)), (.v (.int .i64 are)), (.v (.bool ahi)), (.v (.int .i64 ave)), (.v (.string aun)), ac39, (.v (.int .i64 ale)), (.v (.int .u32 asu))])]) fun t4 =>
    some (.v (.bool (@BEq.beq (@List @UInt8) (@List.instBEq @UInt8 (@instBEqOfDecidableEq @UInt8 @instDecidableEqUInt8)) (@Array.toList @UInt8 (@ByteArray.data t4)) []))))
    (some (.v (.bool false)))))) := by kernel_rfl

theorem mode6 (c r : Nat) : env.mode 6 c r = none ∨ env.mode 6 c r = some .pure := by
  have h : env.mode 6 c r = (match memT pureList 6 c r with | true => some .pure | false => none) := rfl
  rw [h]; split <;> simp
theorem mode7 (c r : Nat) : env.mode 7 c r = none ∨ env.mode 7 c r = some .pure := by
  have h : env.mode 7 c r = (match memT pureList 7 c r with | true => some .pure | false => none) := rfl
  rw [h]; split <;> simp
theorem parts_str (aer : Int) (are : Int) (ahi : Bool) (ave : Int) (aun : ByteArray) (ale : Int) (asu : Int) (ber : Int) (bre : Int) (bhi : Bool) (bve : Int) (bun : ByteArray) (ble : Int) (bsu : Int) : ∃ p, parts aer are ahi ave aun ale asu ber bre bhi bve bun ble bsu = some (.v (.string p)) := by
  unfold parts
  unfold bcond
  repeat (first | exact ⟨_, rfl⟩ | split)
theorem parts_self (aer : Int) (are : Int) (ahi : Bool) (ave : Int) (aun : ByteArray) (ale : Int) (asu : Int) : parts aer are ahi ave aun ale asu aer are ahi ave aun ale asu = some (.v (.string ⟨⟨[]⟩⟩)) := by
  simp [parts, bcond]

def asB : Option D → Option Bool
  | some (.v (.bool b)) => some b
  | _ => none
def asS : Option D → Option ByteArray
  | some (.v (.string b)) => some b
  | _ => none
def fB (E : Env) (f : FuncId) (args : List D) : Option Bool := match noIdsL args with
  | true => asB (pureK E (Cof D []) noLoops f args)
  | false => none
def fS (E : Env) (f : FuncId) (args : List D) : Option ByteArray := match noIdsL args with
  | true => asS (pureK E (Cof D []) noLoops f args)
  | false => none

theorem ct_B {E : Env} {f : FuncId} {n : Nat} (hm : ∀ c r args, noIdsL args = true → modeOf E f c r args = .pure) : CT (kall E (n + 1)) f (spB (fB E f)) := by
  intro β c r h args s k kp x hx
  unfold spB at hx
  obtain ⟨b, h1, h2⟩ := bindO_some.1 hx
  unfold fB at h1
  split at h1
  · rename_i hi
    unfold asB at h1
    split at h1
    · rename_i b' hb
      simp at h1; subst h1
      exact .inl ⟨_, _, call_pureK (hm c r args hi) hi Cof_nil (LOk_none E _ _ _) hb, h2⟩
    · simp at h1
  · simp at h1
theorem ct_S {E : Env} {f : FuncId} {n : Nat} (hm : ∀ c r args, noIdsL args = true → modeOf E f c r args = .pure) : CT (kall E (n + 1)) f (spS (fS E f)) := by
  intro β c r h args s k kp x hx
  unfold spS at hx
  obtain ⟨b, h1, h2⟩ := bindO_some.1 hx
  unfold fS at h1
  split at h1
  · rename_i hi
    unfold asS at h1
    split at h1
    · rename_i b' hb
      simp at h1; subst h1
      exact .inl ⟨_, _, call_pureK (hm c r args hi) hi Cof_nil (LOk_none E _ _ _) hb, h2⟩
    · simp at h1
  · simp at h1

theorem few_bool {ac0 : D} {ac1 : D} {ac2 : D} {abn : ByteArray} {ac4 : D} {ac5 : D} {ac6 : D} {ac7 : D} {ac8 : D} {ac9 : D} {ac10 : D} {ac11 : D} {ac12 : D} {ac13 : D} {ac14 : D} {ac15 : D} {ac16 : D} {ac17 : D} {ac18 : D} {ac19 : D} {ac20 : D} {ac21 : D} {ac22 : D} {ac23 : D} {ac24 : D} {ac25 : D} {ac26 : D} {ac27 : D} {ac28 : D} {ac29 : D} {aon : ByteArray} {ac31 : D} {aan : ByteArray} {ac33 : D} {aer : Int} {are : Int} {ahi : Bool} {ave : Int} {aun : ByteArray} {ac39 : D} {ale : Int} {asu : Int} (h1 : ∃ n, lenD env 22 ac1 = some (.v (.int .i64 n))) (h39 : ∃ n, lenD env 22 ac39 = some (.v (.int .i64 n))) (hi : noIdsL [.agg [ac0, ac1, ac2, .v (.string abn), ac4, ac5, ac6, ac7, ac8, ac9, ac10, ac11, ac12, ac13, ac14, ac15, ac16, ac17, ac18, ac19, ac20, ac21, ac22, ac23, ac24, ac25, ac26, ac27, ac28, ac29, .v (.string aon), ac31, .v (.string aan), ac33, .v (.int .i64 aer), .v (.int .i64 are), .v (.bool ahi), .v (.int .i64 ave), .v (.string aun), ac39, .v (.int .i64 ale), .v (.int .u32 asu)]] = true) :
    ∃ b, fB env 5 [.agg [ac0, ac1, ac2, .v (.string abn), ac4, ac5, ac6, ac7, ac8, ac9, ac10, ac11, ac12, ac13, ac14, ac15, ac16, ac17, ac18, ac19, ac20, ac21, ac22, ac23, ac24, ac25, ac26, ac27, ac28, ac29, .v (.string aon), ac31, .v (.string aan), ac33, .v (.int .i64 aer), .v (.int .i64 are), .v (.bool ahi), .v (.int .i64 ave), .v (.string aun), ac39, .v (.int .i64 ale), .v (.int .u32 asu)]] = some b := by
  unfold fB
  rw [hi]
  simp only
  rw [few_eq]
  obtain ⟨n, hn⟩ := h1
  obtain ⟨m, hm⟩ := h39
  have e1 : binOpD env BinOp.leq 3 (.v (.int .i64 n)) (.v (.int .i64 140000)) = some (.v (.bool (decide (n ≤ 140000)))) := rfl
  have e2 : binOpD env BinOp.leq 3 (.v (.int .i64 m)) (.v (.int .i64 3000)) = some (.v (.bool (decide (m ≤ 3000)))) := rfl
  have e3 : ∀ (s : St) (b : Bool), frz s 0 12 (packR [.v (.bool b)]) = some (.v (.bool b)) := fun _ _ => rfl
  have e4 : ∀ b : Bool, noIds (.v (.bool b)) = true := fun _ => rfl
  simp only [hn, hm, bindO, e1, e2, e3, e4, matchB]
  unfold bcond
  repeat (first | exact ⟨_, rfl⟩ | split)

theorem law_run {n : Nat} (h4 : CT (kall env (n + 1)) 4 spTrue) (ac0 : D) (ac1 : D) (ac2 : D) (abn : ByteArray) (ac4 : D) (ac5 : D) (ac6 : D) (ac7 : D) (ac8 : D) (ac9 : D) (ac10 : D) (ac11 : D) (ac12 : D) (ac13 : D) (ac14 : D) (ac15 : D) (ac16 : D) (ac17 : D) (ac18 : D) (ac19 : D) (ac20 : D) (ac21 : D) (ac22 : D) (ac23 : D) (ac24 : D) (ac25 : D) (ac26 : D) (ac27 : D) (ac28 : D) (ac29 : D) (aon : ByteArray) (ac31 : D) (aan : ByteArray) (ac33 : D) (aer : Int) (are : Int) (ahi : Bool) (ave : Int) (aun : ByteArray) (ac39 : D) (ale : Int) (asu : Int) (bc0 : D) (bc1 : D) (bc2 : D) (bbn : ByteArray) (bc4 : D) (bc5 : D) (bc6 : D) (bc7 : D) (bc8 : D) (bc9 : D) (bc10 : D) (bc11 : D) (bc12 : D) (bc13 : D) (bc14 : D) (bc15 : D) (bc16 : D) (bc17 : D) (bc18 : D) (bc19 : D) (bc20 : D) (bc21 : D) (bc22 : D) (bc23 : D) (bc24 : D) (bc25 : D) (bc26 : D) (bc27 : D) (bc28 : D) (bc29 : D) (bon : ByteArray) (bc31 : D) (ban : ByteArray) (bc33 : D) (ber : Int) (bre : Int) (bhi : Bool) (bve : Int) (bun : ByteArray) (bc39 : D) (ble : Int) (bsu : Int) (h1 : ∃ n, lenD env 22 ac1 = some (.v (.int .i64 n))) (h39 : ∃ n, lenD env 22 ac39 = some (.v (.int .i64 n))) (h1' : ∃ n, lenD env 22 bc1 = some (.v (.int .i64 n))) (h39' : ∃ n, lenD env 22 bc39 = some (.v (.int .i64 n)))
    (hi : noIdsL [.agg [ac0, ac1, ac2, .v (.string abn), ac4, ac5, ac6, ac7, ac8, ac9, ac10, ac11, ac12, ac13, ac14, ac15, ac16, ac17, ac18, ac19, ac20, ac21, ac22, ac23, ac24, ac25, ac26, ac27, ac28, ac29, .v (.string aon), ac31, .v (.string aan), ac33, .v (.int .i64 aer), .v (.int .i64 are), .v (.bool ahi), .v (.int .i64 ave), .v (.string aun), ac39, .v (.int .i64 ale), .v (.int .u32 asu)]] = true) (hi' : noIdsL [.agg [bc0, bc1, bc2, .v (.string bbn), bc4, bc5, bc6, bc7, bc8, bc9, bc10, bc11, bc12, bc13, bc14, bc15, bc16, bc17, bc18, bc19, bc20, bc21, bc22, bc23, bc24, bc25, bc26, bc27, bc28, bc29, .v (.string bon), bc31, .v (.string ban), bc33, .v (.int .i64 ber), .v (.int .i64 bre), .v (.bool bhi), .v (.int .i64 bve), .v (.string bun), bc39, .v (.int .i64 ble), .v (.int .u32 bsu)]] = true) :
    (kall env (n + 2)).call 0 0 [] 3 [.agg [ac0, ac1, ac2, .v (.string abn), ac4, ac5, ac6, ac7, ac8, ac9, ac10, ac11, ac12, ac13, ac14, ac15, ac16, ac17, ac18, ac19, ac20, ac21, ac22, ac23, ac24, ac25, ac26, ac27, ac28, ac29, .v (.string aon), ac31, .v (.string aan), ac33, .v (.int .i64 aer), .v (.int .i64 are), .v (.bool ahi), .v (.int .i64 ave), .v (.string aun), ac39, .v (.int .i64 ale), .v (.int .u32 asu)], .agg [bc0, bc1, bc2, .v (.string bbn), bc4, bc5, bc6, bc7, bc8, bc9, bc10, bc11, bc12, bc13, bc14, bc15, bc16, bc17, bc18, bc19, bc20, bc21, bc22, bc23, bc24, bc25, bc26, bc27, bc28, bc29, .v (.string bon), bc31, .v (.string ban), bc33, .v (.int .i64 ber), .v (.int .i64 bre), .v (.bool bhi), .v (.int .i64 bve), .v (.string bun), bc39, .v (.int .i64 ble), .v (.int .u32 bsu)]] .empty = some (.ret (.v (.bool true)), .empty) := by
  have hii : noIdsL [.agg [ac0, ac1, ac2, .v (.string abn), ac4, ac5, ac6, ac7, ac8, ac9, ac10, ac11, ac12, ac13, ac14, ac15, ac16, ac17, ac18, ac19, ac20, ac21, ac22, ac23, ac24, ac25, ac26, ac27, ac28, ac29, .v (.string aon), ac31, .v (.string aan), ac33, .v (.int .i64 aer), .v (.int .i64 are), .v (.bool ahi), .v (.int .i64 ave), .v (.string aun), ac39, .v (.int .i64 ale), .v (.int .u32 asu)], .agg [bc0, bc1, bc2, .v (.string bbn), bc4, bc5, bc6, bc7, bc8, bc9, bc10, bc11, bc12, bc13, bc14, bc15, bc16, bc17, bc18, bc19, bc20, bc21, bc22, bc23, bc24, bc25, bc26, bc27, bc28, bc29, .v (.string bon), bc31, .v (.string ban), bc33, .v (.int .i64 ber), .v (.int .i64 bre), .v (.bool bhi), .v (.int .i64 bve), .v (.string bun), bc39, .v (.int .i64 ble), .v (.int .u32 bsu)]] = true := by
    simp only [noIdsL, Bool.and_true] at hi hi' ⊢
    rw [hi, hi']; rfl
  have haa : noIdsL [.agg [ac0, ac1, ac2, .v (.string abn), ac4, ac5, ac6, ac7, ac8, ac9, ac10, ac11, ac12, ac13, ac14, ac15, ac16, ac17, ac18, ac19, ac20, ac21, ac22, ac23, ac24, ac25, ac26, ac27, ac28, ac29, .v (.string aon), ac31, .v (.string aan), ac33, .v (.int .i64 aer), .v (.int .i64 are), .v (.bool ahi), .v (.int .i64 ave), .v (.string aun), ac39, .v (.int .i64 ale), .v (.int .u32 asu)], .agg [ac0, ac1, ac2, .v (.string abn), ac4, ac5, ac6, ac7, ac8, ac9, ac10, ac11, ac12, ac13, ac14, ac15, ac16, ac17, ac18, ac19, ac20, ac21, ac22, ac23, ac24, ac25, ac26, ac27, ac28, ac29, .v (.string aon), ac31, .v (.string aan), ac33, .v (.int .i64 aer), .v (.int .i64 are), .v (.bool ahi), .v (.int .i64 ave), .v (.string aun), ac39, .v (.int .i64 ale), .v (.int .u32 asu)]] = true := by
    simp only [noIdsL, Bool.and_true] at hi ⊢
    rw [hi]; rfl
  have pm : ∀ (f c r : Nat) (args : List D), (env.mode f c r = none ∨ env.mode f c r = some .pure) → noIdsL args = true → modeOf env f c r args = .pure := by
    intro f c r args hm ha
    unfold modeOf
    rcases hm with hm | hm <;> rw [hm]
    simp only [ha, if_true]
  have C : HOk (Cof D [(4, spTrue), (5, spB (fB env 5)), (6, spS (fS env 6)), (7, spS (fS env 7))]) (kall env (n + 1)) :=
    Cof_cons h4 (Cof_cons (ct_B (fun c r args => pm 5 c r args (.inl rfl))) (Cof_cons (ct_S (fun c r args => pm 6 c r args (mode6 c r))) (Cof_cons (ct_S (fun c r args => pm 7 c r args (mode7 c r))) Cof_nil)))
  refine call_pureK (pm 3 0 0 _ (.inl rfl) hii) hii C (LOk_none env _ _ _) ?_
  rw [law_eq]
  obtain ⟨fa, hfa⟩ := few_bool h1 h39 hi
  obtain ⟨fb, hfb⟩ := few_bool h1' h39' hi'
  obtain ⟨p, hp⟩ := parts_str aer are ahi ave aun ale asu ber bre bhi bve bun ble bsu
  have hP : fS env 6 [.agg [ac0, ac1, ac2, .v (.string abn), ac4, ac5, ac6, ac7, ac8, ac9, ac10, ac11, ac12, ac13, ac14, ac15, ac16, ac17, ac18, ac19, ac20, ac21, ac22, ac23, ac24, ac25, ac26, ac27, ac28, ac29, .v (.string aon), ac31, .v (.string aan), ac33, .v (.int .i64 aer), .v (.int .i64 are), .v (.bool ahi), .v (.int .i64 ave), .v (.string aun), ac39, .v (.int .i64 ale), .v (.int .u32 asu)], .agg [bc0, bc1, bc2, .v (.string bbn), bc4, bc5, bc6, bc7, bc8, bc9, bc10, bc11, bc12, bc13, bc14, bc15, bc16, bc17, bc18, bc19, bc20, bc21, bc22, bc23, bc24, bc25, bc26, bc27, bc28, bc29, .v (.string bon), bc31, .v (.string ban), bc33, .v (.int .i64 ber), .v (.int .i64 bre), .v (.bool bhi), .v (.int .i64 bve), .v (.string bun), bc39, .v (.int .i64 ble), .v (.int .u32 bsu)]] = some p := by
    unfold fS; rw [hii]; simp only; rw [parts_eq, hp]; rfl
  have hQ : fS env 7 [.agg [ac0, ac1, ac2, .v (.string abn), ac4, ac5, ac6, ac7, ac8, ac9, ac10, ac11, ac12, ac13, ac14, ac15, ac16, ac17, ac18, ac19, ac20, ac21, ac22, ac23, ac24, ac25, ac26, ac27, ac28, ac29, .v (.string aon), ac31, .v (.string aan), ac33, .v (.int .i64 aer), .v (.int .i64 are), .v (.bool ahi), .v (.int .i64 ave), .v (.string aun), ac39, .v (.int .i64 ale), .v (.int .u32 asu)], .agg [bc0, bc1, bc2, .v (.string bbn), bc4, bc5, bc6, bc7, bc8, bc9, bc10, bc11, bc12, bc13, bc14, bc15, bc16, bc17, bc18, bc19, bc20, bc21, bc22, bc23, bc24, bc25, bc26, bc27, bc28, bc29, .v (.string bon), bc31, .v (.string ban), bc33, .v (.int .i64 ber), .v (.int .i64 bre), .v (.bool bhi), .v (.int .i64 bve), .v (.string bun), bc39, .v (.int .i64 ble), .v (.int .u32 bsu)]] = some p := by
    unfold fS; rw [hii]; simp only; rw [rparts_eq, hp]; rfl
  have hPA : fS env 6 [.agg [ac0, ac1, ac2, .v (.string abn), ac4, ac5, ac6, ac7, ac8, ac9, ac10, ac11, ac12, ac13, ac14, ac15, ac16, ac17, ac18, ac19, ac20, ac21, ac22, ac23, ac24, ac25, ac26, ac27, ac28, ac29, .v (.string aon), ac31, .v (.string aan), ac33, .v (.int .i64 aer), .v (.int .i64 are), .v (.bool ahi), .v (.int .i64 ave), .v (.string aun), ac39, .v (.int .i64 ale), .v (.int .u32 asu)], .agg [ac0, ac1, ac2, .v (.string abn), ac4, ac5, ac6, ac7, ac8, ac9, ac10, ac11, ac12, ac13, ac14, ac15, ac16, ac17, ac18, ac19, ac20, ac21, ac22, ac23, ac24, ac25, ac26, ac27, ac28, ac29, .v (.string aon), ac31, .v (.string aan), ac33, .v (.int .i64 aer), .v (.int .i64 are), .v (.bool ahi), .v (.int .i64 ave), .v (.string aun), ac39, .v (.int .i64 ale), .v (.int .u32 asu)]] = some ⟨⟨[]⟩⟩ := by
    unfold fS; rw [haa]; simp only; rw [parts_eq, parts_self]; rfl
  simp only [hfa, hfb, hP, hQ, hPA, bindO]
  cases fa <;> cases fb <;> simp [bcond]
end
end Go.Proofs.YthkfhpiamddhoaaGreat
