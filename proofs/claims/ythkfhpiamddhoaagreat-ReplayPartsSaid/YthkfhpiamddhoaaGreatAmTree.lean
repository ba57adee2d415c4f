/- Tables as trees, so that a look-up takes few steps. -/
import Derived.Test.YthkfhpiamddhoaaGreatAmDef
set_option autoImplicit false
namespace Go.AM
inductive Tree (α : Type) where
  | nil
  | node (l : Tree α) (i : Nat) (x : α) (r : Tree α)
def Tree.get {α : Type} : Tree α → Nat → Option α
  | .nil, _ => none
  | .node l i x r, k => match Nat.ble i k with
    | true => match Nat.beq k i with
      | true => some x
      | false => r.get k
    | false => l.get k
def Tree.toList {α : Type} : Tree α → List α
  | .nil => []
  | .node l _ x r => l.toList ++ x :: r.toList
/-- the tree holds the places from lo to hi (exclusive) -/
def Tree.ok {α : Type} : Tree α → Nat → Nat → Bool
  | .nil, lo, hi => lo == hi
  | .node l i _ r, lo, hi => l.ok lo i && r.ok (i + 1) hi
theorem Tree.ok_len {α : Type} (t : Tree α) : ∀ lo hi, t.ok lo hi = true → hi = lo + t.toList.length := by
  induction t with
  | nil => intro lo hi h; simp [Tree.ok] at h; simp [Tree.toList, h]
  | node l i x r ihl ihr =>
    intro lo hi h
    simp only [Tree.ok, Bool.and_eq_true] at h
    have h1 := ihl _ _ h.1
    have h2 := ihr _ _ h.2
    simp only [Tree.toList, List.length_append, List.length_cons]
    omega
theorem Tree.get_eq {α : Type} (t : Tree α) : ∀ lo hi, t.ok lo hi = true → ∀ k, lo ≤ k → t.get k = t.toList[k - lo]? := by
  induction t with
  | nil => intro lo hi _ k _; simp [Tree.get, Tree.toList]
  | node l i x r ihl ihr =>
    intro lo hi h k hk
    simp only [Tree.ok, Bool.and_eq_true] at h
    have h1 := Tree.ok_len l _ _ h.1
    have hl := ihl _ _ h.1
    have hr := ihr _ _ h.2
    simp only [Tree.get, Tree.toList]
    by_cases c : i ≤ k
    · rw [Nat.ble_eq_true_of_le c]
      by_cases e : k = i
      · subst e
        rw [Nat.beq_refl]
        rw [List.getElem?_append_right (by omega)]
        simp [show k - lo - l.toList.length = 0 from by omega]
      · have hb : Nat.beq k i = false := by
          cases hh : Nat.beq k i with
          | false => rfl
          | true => exact absurd (Nat.eq_of_beq_eq_true hh) e
        simp only [hb]
        rw [hr k (by omega), List.getElem?_append_right (by omega)]
        rw [show k - lo - l.toList.length = (k - (i + 1)) + 1 from by omega]
        simp
    · have hb : Nat.ble i k = false := by
        cases hh : Nat.ble i k with
        | false => rfl
        | true => exact absurd (Nat.le_of_ble_eq_true hh) c
      simp only [hb]
      rw [hl k hk, List.getElem?_append_left (by omega)]
theorem Tree.get_list {α : Type} (t : Tree α) (l : List α) (n : Nat) (hn : t.ok 0 n = true) (hl : t.toList = l) (k : Nat) : t.get k = l[k]? := by
  rw [Tree.get_eq t 0 n hn k (Nat.zero_le _), hl]; simp
end Go.AM
