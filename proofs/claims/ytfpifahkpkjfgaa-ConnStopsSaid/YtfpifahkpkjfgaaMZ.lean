/- Short names for the lemmas of the frame's simp sets. -/
import Derived.Calls
namespace Go.Proofs.Ytfpifahkpkjfgaa
theorem zA {α : Type _} {xs : List α} {i : Nat} (h : i < xs.toArray.size) : xs.toArray[i]'h = xs[i]'(by simpa using h) := rfl
theorem zB {α : Type _} (a : α) (as : List α) (i : Nat) (h : i + 1 < (a :: as).length) : (a :: as)[i + 1]'h = as[i]'(Nat.lt_of_succ_lt_succ h) := rfl
theorem zC {α : Type _} (a : α) (as : List α) (h : 0 < (a :: as).length) : (a :: as)[0]'h = a := rfl
theorem zD {α : Type _} (l : List α) (i : Nat) (a : α) : l.toArray.setIfInBounds i a = (l.set i a).toArray := List.setIfInBounds_toArray ..
theorem zE {α : Type _} {x : α} {xs : List α} {a : α} : (x :: xs).set 0 a = a :: xs := rfl
theorem zz : (∀ (t : Array Value) (df : List Deferred) (d : Tmp) (v : Value), Act.put ⟨t, df⟩ (some d) v = ⟨t.setIfInBounds d v, df⟩) ∧ (∀ (a : Act) (v : Value), Act.put a none v = a) ∧ (∀ (α : Type) (xs : List α) (i : Nat) (h : i < xs.toArray.size), xs.toArray[i]'h = xs[i]'(by simpa using h)) ∧ (∀ (α : Type) (a : α) (as : List α) (i : Nat) (h : i + 1 < (a :: as).length), (a :: as)[i + 1]'h = as[i]'(Nat.lt_of_succ_lt_succ h)) ∧ (∀ (α : Type) (a : α) (as : List α) (h : 0 < (a :: as).length), (a :: as)[0]'h = a) ∧ (∀ (α : Type) (l : List α) (i : Nat) (a : α), l.toArray.setIfInBounds i a = (l.set i a).toArray) ∧ (∀ (α : Type) (x : α) (xs : List α) (a : α), (x :: xs).set 0 a = a :: xs) ∧ (∀ (α : Type) (x : α) (xs : List α) (i : Nat) (a : α), (x :: xs).set (i + 1) a = x :: xs.set i a) :=
  ⟨fun _ _ _ _ => rfl, fun _ _ => rfl, fun _ _ _ _ => rfl, fun _ _ _ _ _ => rfl, fun _ _ _ _ => rfl, fun _ _ _ _ => List.setIfInBounds_toArray .., fun _ _ _ _ => rfl, fun _ _ _ _ _ => rfl⟩
theorem zF {α : Type _} {x : α} {xs : List α} {i : Nat} {a : α} : (x :: xs).set (i + 1) a = x :: xs.set i a := rfl
end Go.Proofs.Ytfpifahkpkjfgaa
