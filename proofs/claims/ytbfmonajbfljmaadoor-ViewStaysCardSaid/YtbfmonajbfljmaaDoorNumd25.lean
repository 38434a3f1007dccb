import Derived.Test.YtbfmonajbfljmaaDoorPlain12
namespace Go.Proofs.YtbfmonajbfljmaaDoor
open Go Go.RowKit Go.Proofs.YtbfmonajbfljmaaDoorVm
attribute [local irreducible] opsWp AnswersE OpsS
set_option maxHeartbeats 400000
set_option maxRecDepth 100000
set_option linter.all false
theorem put_dig1 : ∀ (f : Nat) (b : List UInt8) (n : Nat), n < 128 ^ (f + 1) → n < 18446744073709551616 → ∀ m : Int, m = (n : Int) →
    (put_L0 (f + 1) b m).1 ++ [by8 (put_L0 (f + 1) b m).2] = b ++ v7 f n
  | 0, b, n, h, _, m, e => by
    subst e
    have h' : n < 128 := by simpa using h
    rw [put_L0, v7, if_neg (show ¬ ((n : Int) > 127) by omega)]
    simp only
    rw [by8_lt (by omega)]
  | f + 1, b, n, h, h64, m, e => by
    subst e
    rw [put_L0, v7]
    have h1 : (128 : Nat) ^ (f + 1 + 1) = 128 ^ (f + 1) * 128 := Nat.pow_succ _ _
    by_cases h2 : n < 128
    · rw [if_neg (show ¬ ((n : Int) > 127) by omega), if_pos h2]
      simp only
      rw [by8_lt (by omega)]
    · rw [if_pos (show ((n : Int) > 127) by omega), if_neg h2]
      have h3 : n / 128 < 128 ^ (f + 1) := by rw [h1] at h; exact Nat.div_lt_of_lt_mul (by rw [Nat.mul_comm]; exact h)
      have ih := fun b => put_dig1 f b (n / 128) h3 (by omega) ((n / 128 : Nat) : Int) rfl
      have e1 : shrK IntKind.u64 (n : Int) 7 = ((n / 128 : Nat) : Int) := by rw [shr7 (by omega)]; omega
      have e3 : by8 (n : Int) ||| 128 = UInt8.ofNat (n % 128 + 128) := by
        rw [or128, by8_is]; congr 1; omega
      rw [e1, e3]
      have i := ih (b ++ [UInt8.ofNat (n % 128 + 128)])
      rw [i, List.append_assoc]; rfl
theorem putI_eq1 (b : List UInt8) {n : Int} (h : InR n) : putI b n = b ++ v7 9 (fd n).toNat := by
  have h1 := fd_in h
  have := put_dig1 9 b (fd n).toNat (Nat.lt_of_lt_of_le (show (fd n).toNat < 18446744073709551616 by omega) (by decide)) (by omega) (fd n) (by omega)
  unfold putI put; rw [fold_eq h]; exact this
theorem encM_L0_is1 : ∀ (l : List Int) (k : Nat) (b : List UInt8), (∀ y ∈ l, InR y) → encM_L0 l k b = b ++ l.flatMap VV
  | [], k, b, _ => by rw [encM_L0]; simp
  | x :: l, k, b, h => by
    rw [encM_L0, encM_L0_is1 l _ _ (fun y hy => h y (List.mem_cons_of_mem _ hy)), putI_eq1 _ (h x (List.mem_cons_self ..)), List.flatMap_cons, List.append_assoc]; rfl
theorem encM_is1 {m : GMessage} (h : ∀ y ∈ m.L, InR y) : encM m = if rightM m = true then (bodyM m, 0) else ([], 1) := by
  unfold encM
  split
  · simp only; rw [encM_L0_is1 _ _ _ h, List.append_assoc]; rfl
  · rfl

end Go.Proofs.YtbfmonajbfljmaaDoor
