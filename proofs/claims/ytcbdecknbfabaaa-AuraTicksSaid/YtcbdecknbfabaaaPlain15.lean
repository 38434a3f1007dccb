import Derived.Test.YtcbdecknbfabaaaLaw15
namespace Go.Proofs.Ytcbdecknbfabaaa
open Go Go.RowKit Go.Proofs.YtcbdecknbfabaaaVm
attribute [local irreducible] opsWp AnswersE OpsS
set_option maxHeartbeats 400000
set_option maxRecDepth 100000
set_option linter.all false
theorem small15_true : small15 = true := by decide +kernel
theorem getU_known (a : GAura) : getU (known15 a) a.Id = (a, true) := by
  simp [getU, findU, known15, fidx, isU, idU, List.findIdx?_cons]
theorem tick_one (a : GAura) (x : GActive) (now : Int) (hx : x.Aura = a.Id) (he : a.Every > 0) : tick15 (known15 a) [x] now = if x.Next ≤ now then ([{ x with Next := addM x.Next a.Every }], [x]) else ([x], []) := by
  unfold tick15
  show (match tick15_L0 (known15 a) now 1 0 [x] [] with | (row_0, due_0) => (row_0, due_0)) = _
  rw [tick15_L0]
  have e : ([x].getD 0 default) = x := rfl
  rw [e, hx, getU_known]
  dsimp only
  rw [if_pos rfl, if_pos he]
  by_cases h : x.Next ≤ now
  · rw [if_pos h, if_pos h, tick15_L0]; simp [hx]
  · rw [if_neg h, if_neg h, tick15_L0]
theorem ticks_go {every ticks frm to : Int} (h1 : 1 ≤ every) (h2 : every ≤ 50) (h3 : 0 ≤ frm) (h4 : frm ≤ 1048576) (h5 : 0 ≤ to) (h6 : to ≤ 500) (u lf : Int) : ∀ (f : Nat) (n k now : Int), k = n * every → 0 ≤ n → frm ≤ now → now ≤ frm + to + 1 → (frm + to + 1 - now).toNat < f → (k = 0 ∨ k ≤ now - 1 - frm) → now ≤ frm + k + every → ticks15_L0 every ticks frm to f [⟨1, 0, 1, u, frm + k + every, lf⟩] n now = .inr (to / every)
  | 0, n, k, now, _, _, _, _, hf, _, _ => by omega
  | f + 1, n, k, now, hk, hn, a1, a2, hf, a3, a4 => by
    have hnk : n ≤ k := by
      have : n * 1 ≤ n * every := Int.mul_le_mul_of_nonneg_left h1 hn
      rw [hk]; omega
    rw [ticks15_L0]
    have ew : IntKind.i64.wrap (frm + to) = frm + to := by simp only [IntKind.wrap_i64]; omega
    have e1 : IntKind.i64.wrap (now + 1) = now + 1 := by simp only [IntKind.wrap_i64]; omega
    rw [ew, tick_one _ _ _ rfl (show (every : Int) > 0 by omega)]
    dsimp only
    by_cases hle : now ≤ frm + to
    · rw [if_pos hle]
      by_cases hd : frm + k + every ≤ now
      · simp only [if_pos hd, List.length_cons, List.length_nil]
        rw [if_neg (by omega), if_pos (by omega), e1]
        have en : IntKind.i64.wrap (n + ((0 + 1 : Nat) : Int)) = n + 1 := by simp only [IntKind.wrap_i64]; omega
        rw [en, addM_eq (by unfold InR; omega) (by unfold InR; omega)]
        have ea : max (min (frm + k + every + every) 9223372036854775807) (-9223372036854775808) = frm + (k + every) + every := by omega
        rw [ea]
        exact ticks_go h1 h2 h3 h4 h5 h6 u lf f (n + 1) (k + every) (now + 1) (by rw [hk, Int.add_mul, Int.one_mul]) (by omega) (by omega) (by omega) (by omega) (by omega) (by omega)
      · simp only [if_neg hd, List.length_cons, List.length_nil]
        rw [if_neg (by omega), if_pos (by omega), e1]
        have en : IntKind.i64.wrap (n + ((0 : Nat) : Int)) = n := by simp only [IntKind.wrap_i64]; omega
        rw [en]
        exact ticks_go h1 h2 h3 h4 h5 h6 u lf f n k (now + 1) hk (by omega) (by omega) (by omega) (by omega) (by omega) (by omega)
    · rw [if_neg hle]
      congr 1
      have b1 : n ≤ to / every := (Int.le_ediv_iff_mul_le (by omega)).2 (by rw [← hk]; omega)
      have b2 : to / every < n + 1 := (Int.ediv_lt_iff_lt_mul (by omega)).2 (by rw [Int.add_mul, ← hk]; omega)
      omega
theorem ticks15_true (every ticks frm to : Int) : ticks15 every ticks frm to = true := by
  unfold ticks15
  rw [small15_true]
  by_cases h1 : every < 1
  · rw [if_pos h1]
  rw [if_neg h1]
  by_cases h2 : every > 50
  · rw [if_pos h2]
  rw [if_neg h2]
  by_cases h3 : ticks < 1
  · rw [if_pos h3]
  rw [if_neg h3]
  by_cases h4 : ticks > 500
  · rw [if_pos h4]
  rw [if_neg h4]
  by_cases h5 : frm < 0
  · rw [if_pos h5]
  rw [if_neg h5]
  by_cases h6 : frm > 1048576
  · rw [if_pos h6]
  rw [if_neg h6]
  by_cases h7 : to < 0
  · rw [if_pos h7]
  rw [if_neg h7]
  by_cases h8 : to > 500
  · rw [if_pos h8]
  rw [if_neg h8]
  have ea : apply15 (known15 ⟨1, 2, ticks, every, 1, 1, false⟩) [] 1 0 frm = ([first15 ⟨1, 2, ticks, every, 1, 1, false⟩ 0 frm], 0) := by
    have hg := getU_known ⟨1, 2, ticks, every, 1, 1, false⟩
    dsimp only at hg
    unfold apply15
    rw [hg]
    simp [fidx]
  rw [ea]
  dsimp only
  rw [if_pos rfl]
  have ef : first15 ⟨1, 2, ticks, every, 1, 1, false⟩ 0 frm = ⟨1, 0, 1, addM frm ticks, frm + 0 + every, 0⟩ := by
    unfold first15 leftA
    rw [if_neg (show ¬ every = 0 by omega), addM_eq (a := frm) (b := every) (by unfold InR; omega) (by unfold InR; omega)]
    have : max (min (frm + every) 9223372036854775807) (-9223372036854775808) = frm + 0 + every := by omega
    rw [this]
    rfl
  rw [ef, ticks_go (by omega) (by omega) (by omega) (by omega) (by omega) (by omega) _ _ 600 0 0 frm (by omega) (by omega) (by omega) (by omega) (by omega) (.inl rfl) (by omega)]
  dsimp only
  rw [if_pos rfl, Int.tdiv_eq_ediv_of_nonneg (by omega)]
  have b : 0 ≤ to / every ∧ to / every ≤ to := ⟨Int.ediv_nonneg (by omega) (by omega), Int.ediv_le_self _ (by omega)⟩
  have e : IntKind.i64.wrap (to / every) = to / every := by simp only [IntKind.wrap_i64]; omega
  rw [e]; simp
theorem ticks15_yes (every ticks frm to : Int) : Ok Try.prog 4 [I every, I ticks, I frm, I to] [] (B true) [] [] := by
  have h := ticks15_ok every ticks frm to
  rwa [ticks15_true] at h

end Go.Proofs.Ytcbdecknbfabaaa
