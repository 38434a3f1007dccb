import Derived.Test.YtbfmonajbfljmaaDoorNumb
namespace Go.Proofs.YtbfmonajbfljmaaDoor
open Go Go.RowKit Go.Proofs.YtbfmonajbfljmaaDoorVm
attribute [local irreducible] opsWp AnswersE OpsS
set_option maxHeartbeats 400000
set_option maxRecDepth 100000
set_option linter.all false
/-- a number's bytes -/
def VV (n : Int) : List UInt8 := v7 9 (fd n).toNat
/-- a number read from a place on -/
def rI (b : List UInt8) (k : Nat) : Int × Int × Int := match rd (b.drop k) with
  | none => (0, (k : Int), 2)
  | some (n, s) => (uf n, ((k + s : Nat) : Int), 0)
theorem rd_pos {b : List UInt8} {n s : Nat} (h : rd b = some (n, s)) : 0 < s := by
  have h1 := (rd_some h).2.2.1
  have h2 := v7_len 9 n; omega
theorem readI_is {b : List UInt8} (hb : b.length ≤ 9223372036854775807) {k : Nat} (hk : k ≤ b.length) : readI b (k : Int) = rI b k := by
  unfold readI read rI
  rw [if_neg (show ¬ (k : Int) < 0 by omega), if_neg (show ¬ (k : Int) > b.length by omega), Int.toNat_natCast, take_is]
  cases h : rd (b.drop k) with
  | none => simp only [if_true]; rfl
  | some p =>
    obtain ⟨n, s⟩ := p
    have h0 := rd_pos h
    have h1 := rd_some h
    rw [List.length_drop] at h1
    simp only
    rw [if_neg (by omega)]
    simp only
    rw [unfo_eq (by omega) (by omega), show IntKind.i64.wrap ((k : Int) + (s : Int)) = ((k + s : Nat) : Int) by rw [IntKind.wrap_i64]; omega]
theorem half_odd {n : Int} (h0 : 0 ≤ n) (h : n < 18446744073709551616) : IntKind.i64.wrap (IntKind.i64.wrap (0 - IntKind.i64.wrap (IntKind.u64.wrap (n / 2))) - 1) = -(n / 2) - 1 := by
  have h1 : IntKind.u64.wrap (n / 2) = n / 2 := by rw [u64_is]; omega
  rw [h1]
  have h2 : 0 ≤ n / 2 ∧ n / 2 < 9223372036854775808 := by omega
  generalize n / 2 = m at h2 ⊢
  have h3 : IntKind.i64.wrap m = m := wrap_lt (by omega) (by omega)
  have h4 : IntKind.i64.wrap (0 - m) = -m := by rw [Int.zero_sub]; exact wrap_lt (by omega) (by omega)
  rw [h3, h4]
  exact wrap_lt (by omega) (by omega)
theorem half_even {n : Int} (h0 : 0 ≤ n) (h : n < 18446744073709551616) : IntKind.i64.wrap (IntKind.u64.wrap (n / 2)) = n / 2 := by
  have h1 : IntKind.u64.wrap (n / 2) = n / 2 := by rw [u64_is]; omega
  rw [h1]
  exact wrap_lt (by omega) (by omega)
theorem rI_VV {n : Int} (h : InR n) (b r : List UInt8) (k : Nat) (hd : b.drop k = VV n ++ r) : rI b k = (n, ((k + (VV n).length : Nat) : Int), 0) := by
  have h1 := fd_in h
  unfold rI
  rw [hd, VV, rd_v7 (by omega)]
  simp only
  rw [Int.toNat_of_nonneg h1.1, uf_fd]
theorem rI_ok {b : List UInt8} {k : Nat} (h : (rI b k).2.2 = 0) : InR (rI b k).1 ∧ b.drop k = VV (rI b k).1 ++ b.drop (k + (VV (rI b k).1).length) ∧ (rI b k).2.1 = ((k + (VV (rI b k).1).length : Nat) : Int) ∧ k + (VV (rI b k).1).length ≤ b.length := by
  unfold rI at h ⊢
  cases h2 : rd (b.drop k) with
  | none => rw [h2] at h; simp at h
  | some p =>
    obtain ⟨n, s⟩ := p
    obtain ⟨h3, h4, h5, h6⟩ := rd_some h2
    have hp := rd_pos h2
    simp only
    have e : VV (uf n) = v7 9 n := by unfold VV; rw [fd_uf (by omega)]; rfl
    rw [e, ← h5]
    rw [List.drop_drop] at h4
    rw [List.length_drop] at h6
    exact ⟨uf_in (by omega) (by omega), h4, rfl, by omega⟩
theorem rI_in (b : List UInt8) (k : Nat) : InR (rI b k).1 := by
  by_cases h : (rI b k).2.2 = 0
  · exact (rI_ok h).1
  · unfold rI at h ⊢
    cases h2 : rd (b.drop k) with
    | none => simp only; unfold InR; omega
    | some p => rw [h2] at h; exact absurd rfl h
theorem rI_next (b : List UInt8) (k : Nat) (hk : k ≤ b.length) : ∃ j : Nat, (rI b k).2.1 = (j : Int) ∧ j ≤ b.length := by
  by_cases h : (rI b k).2.2 = 0
  · obtain ⟨_, _, h3, h4⟩ := rI_ok h
    exact ⟨_, h3, h4⟩
  · unfold rI at h ⊢
    cases h2 : rd (b.drop k) with
    | none => exact ⟨k, rfl, hk⟩
    | some p => rw [h2] at h; exact absurd rfl h
theorem VV_len (n : Int) : (VV n).length ≤ 10 := (v7_len 9 _).2
theorem readI_range {b : List UInt8} (hb : b.length ≤ 9223372036854775807) {a : Int} (h0 : 0 ≤ a) (h1 : a ≤ b.length) : 0 ≤ (readI b a).2.1 ∧ (readI b a).2.1 ≤ b.length := by
  have e := readI_is hb (k := a.toNat) (by omega)
  rw [Int.toNat_of_nonneg h0] at e
  obtain ⟨j, h2, h3⟩ := rI_next b a.toNat (by omega)
  rw [e]; omega

end Go.Proofs.YtbfmonajbfljmaaDoor
