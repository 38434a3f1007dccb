import Derived.Test.YtkncpoaddamlbaaLaw20
namespace Go.Proofs.Ytkncpoaddamlbaa
open Go Go.RowKit Go.Proofs.YtkncpoaddamlbaaVm
attribute [local irreducible] opsWp AnswersE OpsS
set_option maxHeartbeats 400000
set_option maxRecDepth 100000
set_option linter.all false
/-- the lines that come, which they are, and whether a phase begins -/
def fire (s : GBoss) (u : GUnit) (now : Int) : List GLine → List Bool → List GLine × List Bool × Bool
  | x :: rest, c :: cs => if dueB x s c u now = false then ((fire s u now rest cs).1, false :: (fire s u now rest cs).2.1, (fire s u now rest cs).2.2)
    else if x.Do = 1 then ([x], true :: List.replicate rest.length false, true)
    else (x :: (fire s u now rest cs).1, true :: (fire s u now rest cs).2.1, (fire s u now rest cs).2.2)
  | _, _ => ([], [], false)
theorem due_same {x : GLine} {s t : GBoss} {c : Bool} {u : GUnit} {now : Int} (h1 : t.Phase = s.Phase) (h2 : t.Since = s.Since) : dueB x t c u now = dueB x s c u now := by
  unfold dueB; rw [h1, h2]
theorem due_phase {x : GLine} {s : GBoss} {c : Bool} {u : GUnit} {now : Int} (h : dueB x s c u now = true) : x.Phase = s.Phase := by
  unfold dueB at h
  split at h
  · cases h
  · rename_i h1; simpa using h1
theorem due_came {x : GLine} {s : GBoss} {c : Bool} {u : GUnit} {now : Int} (h : dueB x s c u now = true) (h2 : x.When ≠ 2) : c = false := by
  unfold dueB at h
  cases c <;> simp_all
theorem clearL_get : ∀ {sc : List GLine} {n : Int} {cs : List Bool} {j : Nat} {l : GLine} {b : Bool}, sc[j]? = some l → cs[j]? = some b → (clearL sc n cs)[j]? = some (if l.Phase = n then false else b)
  | [], _, _, _, _, _, h, _ => by simp at h
  | _ :: _, _, [], _, _, _, _, h => by simp at h
  | x :: sc, n, c :: cs, 0, l, b, h1, h2 => by simp at h1 h2; subst h1; subst h2; simp [clearL]
  | x :: sc, n, c :: cs, j + 1, l, b, h1, h2 => by
    simp only [clearL, List.getElem?_cons_succ] at h1 h2 ⊢
    exact clearL_get h1 h2
/-- runGo, told by fire -/
theorem runGo_fire {sc : List GLine} {s : GBoss} {u : GUnit} {now : Int} : ∀ {rest : List GLine} {k : Nat} {t : GBoss} {out : List GLine}, t.Phase = s.Phase → t.Since = s.Since → (∀ j, k ≤ j → t.Came[j]? = s.Came[j]?) → t.Came.length = s.Came.length → k + rest.length = s.Came.length →
    (runGo sc u now k rest t out).2 = out ++ (fire s u now rest (s.Came.drop k)).1 ∧
    ((fire s u now rest (s.Came.drop k)).2.2 = false → (runGo sc u now k rest t out).1.Phase = s.Phase ∧ (runGo sc u now k rest t out).1.Since = s.Since) ∧
    ((fire s u now rest (s.Came.drop k)).2.2 = true → (runGo sc u now k rest t out).1.Since = now ∧ ∃ x, (fire s u now rest (s.Came.drop k)).1.getLast? = some x ∧ x.Do = 1 ∧ (runGo sc u now k rest t out).1.Phase = x.Value) ∧
    (∀ j l b, j < k → sc[j]? = some l → t.Came[j]? = some b → (runGo sc u now k rest t out).1.Came[j]? = some (if (fire s u now rest (s.Came.drop k)).2.2 = true ∧ l.Phase = (runGo sc u now k rest t out).1.Phase then false else b)) ∧
    (∀ j l b, sc[k + j]? = some l → rest[j]? = some l → s.Came[k + j]? = some b → (runGo sc u now k rest t out).1.Came[k + j]? = some (if (fire s u now rest (s.Came.drop k)).2.2 = true ∧ l.Phase = (runGo sc u now k rest t out).1.Phase then false else (b || ((fire s u now rest (s.Came.drop k)).2.1.getD j false && l.When != 2))))
  | [], k, t, out, h1, h2, h3, h4, h5 => by
    have e : fire s u now [] (s.Came.drop k) = ([], [], false) := by simp [fire]
    rw [e]
    refine ⟨by simp [runGo], fun _ => ⟨h1, h2⟩, fun h => (by cases h), fun j l b _ _ hb => by simpa [runGo] using hb, fun j l b _ h => by simp at h⟩
  | x :: rest, k, t, out, h1, h2, h3, h4, h5 => by
    simp only [List.length_cons] at h5
    have hk : k < s.Came.length := by omega
    obtain ⟨c0, hc0⟩ : ∃ z, s.Came[k]? = some z := ⟨_, List.getElem?_eq_getElem hk⟩
    have ht0 : t.Came[k]? = some c0 := by rw [h3 k (Nat.le_refl _)]; exact hc0
    have hg : t.Came.getD k false = c0 := by simp [List.getD, ht0]
    have hd : dueB x t c0 u now = dueB x s c0 u now := due_same h1 h2
    rw [drop_cons hc0]
    by_cases hdue : dueB x s c0 u now = false
    · have eR : runGo sc u now k (x :: rest) t out = runGo sc u now (k + 1) rest t out := by rw [runGo, hg, hd, if_pos hdue]
      have eF : fire s u now (x :: rest) (c0 :: s.Came.drop (k + 1)) = ((fire s u now rest (s.Came.drop (k + 1))).1, false :: (fire s u now rest (s.Came.drop (k + 1))).2.1, (fire s u now rest (s.Came.drop (k + 1))).2.2) := by rw [fire, if_pos hdue]
      obtain ⟨g1, g2, g3, g4, g5⟩ := runGo_fire (sc := sc) (s := s) (u := u) (now := now) (rest := rest) (k := k + 1) (t := t) (out := out) h1 h2 (fun j hj => h3 j (by omega)) h4 (by omega)
      rw [eR, eF]
      refine ⟨g1, g2, g3, fun j l b hj hl hb => g4 j l b (by omega) hl hb, fun j l b hl hr hb => ?_⟩
      cases j with
      | zero =>
        rw [Nat.add_zero] at hl hb ⊢
        rw [hc0] at hb; cases hb
        have := g4 k l c0 (by omega) hl ht0
        simpa using this
      | succ j =>
        have := g5 j l b (by rw [show k + 1 + j = k + (j + 1) by omega]; exact hl) (by simpa using hr) (by rw [show k + 1 + j = k + (j + 1) by omega]; exact hb)
        rw [show k + 1 + j = k + (j + 1) by omega] at this
        simpa using this
    · by_cases hdo : x.Do = 1
      · have eR : runGo sc u now k (x :: rest) t out = (phaseB sc { t with Came := t.Came.set k (c0 || x.When != 2) } x.Value now, out ++ [x]) := by
          rw [runGo, hg, hd, if_neg hdue, if_neg (by omega), if_pos hdo]
        have eF : fire s u now (x :: rest) (c0 :: s.Came.drop (k + 1)) = ([x], true :: List.replicate rest.length false, true) := by rw [fire, if_neg hdue, if_pos hdo]
        rw [eR, eF]
        refine ⟨rfl, fun h => (by cases h), fun _ => ⟨rfl, x, rfl, hdo, rfl⟩, fun j l b hj hl hb => ?_, fun j l b hl hr hb => ?_⟩
        · have hq : (t.Came.set k (c0 || x.When != 2))[j]? = some b := by rw [List.getElem?_set_ne (by omega)]; exact hb
          have := clearL_get (n := x.Value) hl hq
          simpa [phaseB] using this
        · cases j with
          | zero =>
            rw [Nat.add_zero] at hl hb ⊢
            rw [hc0] at hb; cases hb
            simp at hr; subst hr
            have hq : (t.Came.set k (c0 || x.When != 2))[k]? = some (c0 || x.When != 2) := by rw [List.getElem?_set_self (by omega)]
            have := clearL_get (n := x.Value) hl hq
            simpa [phaseB] using this
          | succ j =>
            have hq : (t.Came.set k (c0 || x.When != 2))[k + (j + 1)]? = some b := by rw [List.getElem?_set_ne (by omega), h3 _ (by omega)]; exact hb
            have := clearL_get (n := x.Value) hl hq
            have hrep : ((true :: List.replicate rest.length false : List Bool).getD (j + 1) false) = false := by simp [List.getD, List.getElem?_replicate]; split <;> rfl
            rw [hrep]
            simpa [phaseB] using this
      · obtain ⟨t', et, e1, e2, e3⟩ : ∃ t' : GBoss, runGo sc u now k (x :: rest) t out = runGo sc u now (k + 1) rest t' (out ++ [x]) ∧ t'.Phase = t.Phase ∧ t'.Since = t.Since ∧ t'.Came = t.Came.set k (c0 || x.When != 2) := by
          rw [runGo, hg, hd, if_neg hdue]
          by_cases h4 : x.Do = 4
          · rw [if_pos h4]; exact ⟨_, rfl, rfl, rfl, rfl⟩
          · rw [if_neg h4, if_neg hdo]; exact ⟨_, rfl, rfl, rfl, rfl⟩
        have eF : fire s u now (x :: rest) (c0 :: s.Came.drop (k + 1)) = (x :: (fire s u now rest (s.Came.drop (k + 1))).1, true :: (fire s u now rest (s.Came.drop (k + 1))).2.1, (fire s u now rest (s.Came.drop (k + 1))).2.2) := by rw [fire, if_neg hdue, if_neg hdo]
        obtain ⟨g1, g2, g3, g4, g5⟩ := runGo_fire (sc := sc) (s := s) (u := u) (now := now) (rest := rest) (k := k + 1) (t := t') (out := out ++ [x]) (e1.trans h1) (e2.trans h2) (fun j hj => by rw [e3, List.getElem?_set_ne (by omega)]; exact h3 j (by omega)) (by rw [e3, List.length_set]; exact h4) (by omega)
        rw [et, eF]
        refine ⟨by rw [g1]; simp, g2, fun h => ?_, fun j l b hj hl hb => g4 j l b (by omega) hl (by rw [e3, List.getElem?_set_ne (by omega)]; exact hb), fun j l b hl hr hb => ?_⟩
        · obtain ⟨q1, y, q2, q3, q4⟩ := g3 h
          refine ⟨q1, y, ?_, q3, q4⟩
          rw [List.getLast?_cons, q2]; rfl
        · cases j with
          | zero =>
            rw [Nat.add_zero] at hl hb ⊢
            rw [hc0] at hb; cases hb
            simp at hr; subst hr
            have := g4 k x (c0 || x.When != 2) (by omega) hl (by rw [e3, List.getElem?_set_self (by omega)])
            simpa using this
          | succ j =>
            have := g5 j l b (by rw [show k + 1 + j = k + (j + 1) by omega]; exact hl) (by simpa using hr) (by rw [show k + 1 + j = k + (j + 1) by omega]; exact hb)
            rw [show k + 1 + j = k + (j + 1) by omega] at this
            simpa using this


theorem fire_phase {s : GBoss} {u : GUnit} {now : Int} : ∀ {rest : List GLine} {cs : List Bool}, ∀ x ∈ (fire s u now rest cs).1, x.Phase = s.Phase
  | [], cs, x, h => by simp [fire] at h
  | _ :: _, [], x, h => by simp [fire] at h
  | y :: rest, c :: cs, x, h => by
    rw [fire] at h
    split at h
    · exact fire_phase x h
    · rename_i hd
      have hy : y.Phase = s.Phase := due_phase (by simpa using hd)
      split at h
      · rw [List.mem_singleton] at h; subst h; exact hy
      · rcases List.mem_cons.1 h with rfl | h
        · exact hy
        · exact fire_phase x h
theorem fire_do {s : GBoss} {u : GUnit} {now : Int} : ∀ {rest : List GLine} {cs : List Bool} {k : Nat} {x : GLine}, (fire s u now rest cs).1[k]? = some x → x.Do = 1 → k + 1 = (fire s u now rest cs).1.length ∧ (fire s u now rest cs).2.2 = true
  | [], cs, k, x, h, _ => by simp [fire] at h
  | _ :: _, [], k, x, h, _ => by simp [fire] at h
  | y :: rest, c :: cs, k, x, h, h2 => by
    rw [fire] at h ⊢
    by_cases hd : dueB y s c u now = false
    · rw [if_pos hd] at h ⊢; exact fire_do h h2
    · rw [if_neg hd] at h ⊢
      by_cases ho : y.Do = 1
      · rw [if_pos ho] at h ⊢
        cases k with
        | zero => exact ⟨rfl, rfl⟩
        | succ k => simp at h
      · rw [if_neg ho] at h ⊢
        cases k with
        | zero => simp at h; subst h; exact absurd h2 ho
        | succ k =>
          have := fire_do (rest := rest) (cs := cs) (k := k) (x := x) (by simpa using h) h2
          exact ⟨by simp only [List.length_cons]; omega, this.2⟩
theorem fire_mem {s : GBoss} {u : GUnit} {now : Int} : ∀ {rest : List GLine} {cs : List Bool}, ∀ x ∈ (fire s u now rest cs).1, ∃ (i : Nat) (b : Bool), rest[i]? = some x ∧ cs[i]? = some b ∧ dueB x s b u now = true
  | [], cs, x, h => by simp [fire] at h
  | _ :: _, [], x, h => by simp [fire] at h
  | y :: rest, c :: cs, x, h => by
    rw [fire] at h
    by_cases hd : dueB y s c u now = false
    · rw [if_pos hd] at h
      obtain ⟨i, b, h1, h2, h3⟩ := fire_mem x h
      exact ⟨i + 1, b, h1, h2, h3⟩
    · rw [if_neg hd] at h
      have hd : dueB y s c u now = true := by simpa using hd
      by_cases ho : y.Do = 1
      · rw [if_pos ho] at h
        simp at h; subst h; exact ⟨0, c, rfl, rfl, hd⟩
      · rw [if_neg ho] at h
        rcases List.mem_cons.1 h with rfl | h
        · exact ⟨0, c, rfl, rfl, hd⟩
        · obtain ⟨i, b, h1, h2, h3⟩ := fire_mem x h
          exact ⟨i + 1, b, h1, h2, h3⟩
theorem fire_flag {s : GBoss} {u : GUnit} {now : Int} : ∀ {rest : List GLine} {cs : List Bool} {i : Nat} {x : GLine} {b : Bool}, (fire s u now rest cs).2.2 = false → rest[i]? = some x → cs[i]? = some b → (fire s u now rest cs).2.1.getD i false = dueB x s b u now
  | [], cs, i, x, b, _, h, _ => by simp at h
  | _ :: _, [], i, x, b, _, _, h => by simp at h
  | y :: rest, c :: cs, i, x, b, hT, h1, h2 => by
    rw [fire] at hT ⊢
    by_cases hd : dueB y s c u now = false
    · rw [if_pos hd] at hT ⊢
      cases i with
      | zero => simp at h1 h2; subst h1; subst h2; simp [hd]
      | succ i => simpa using fire_flag (s := s) (u := u) (now := now) (rest := rest) (cs := cs) (i := i) hT (by simpa using h1) (by simpa using h2)
    · rw [if_neg hd] at hT ⊢
      by_cases ho : y.Do = 1
      · rw [if_pos ho] at hT; cases hT
      · rw [if_neg ho] at hT ⊢
        have hd : dueB y s c u now = true := by simpa using hd
        cases i with
        | zero => simp at h1 h2; subst h1; subst h2; simp [hd]
        | succ i => simpa using fire_flag (s := s) (u := u) (now := now) (rest := rest) (cs := cs) (i := i) hT (by simpa using h1) (by simpa using h2)
def fireB (f : GFoe) (s : GBoss) (u : GUnit) (now : Int) : List GLine × List Bool × Bool := if u.Health < 1 then ([], [], false) else fire s u now f.Script s.Came
def turnedL (l : List GLine) : Bool := match l.getLast? with | some x => x.Do == 1 | none => false
/-- a tick -/
structure Tick (f : GFoe) (s : GBoss) (u : GUnit) (now : Int) (t : GBoss) (L : List GLine) (F : List Bool) (T : Bool) : Prop where
  turn : turnedL L = T
  phase : ∀ x ∈ L, x.Phase = s.Phase
  does : ∀ (k : Nat) x, L[k]? = some x → x.Do = 1 → k + 1 = L.length ∧ t.Phase = x.Value ∧ t.Since = now
  stays : T = false → t.Phase = s.Phase ∧ t.Since = s.Since
  dead : u.Health < 1 → L = []
  came : ∀ (i : Nat) l b, f.Script[i]? = some l → s.Came[i]? = some b → t.Came[i]? = some (if T = true ∧ l.Phase = t.Phase then false else (b || (F.getD i false && l.When != 2)))
  flag : T = false → 1 ≤ u.Health → ∀ (i : Nat) l b, f.Script[i]? = some l → s.Came[i]? = some b → F.getD i false = dueB l s b u now
theorem tick_of {f : GFoe} {s : GBoss} {u : GUnit} {now : Int} (hl : s.Came.length = f.Script.length) : (runB f s u now).2 = (fireB f s u now).1 ∧ Tick f s u now (runB f s u now).1 (runB f s u now).2 (fireB f s u now).2.1 (fireB f s u now).2.2 := by
  by_cases hu : u.Health < 1
  · have e1 : runB f s u now = (s, []) := if_pos (.inr hu)
    have e2 : fireB f s u now = ([], [], false) := if_pos hu
    rw [e1, e2]
    exact ⟨rfl, rfl, by simp, by simp, fun _ => ⟨rfl, rfl⟩, fun _ => rfl, fun i l b _ h => by simpa using h, fun _ h => by omega⟩
  · have e1 : runB f s u now = runGo f.Script u now 0 f.Script s [] := if_neg (by omega)
    have e2 : fireB f s u now = fire s u now f.Script s.Came := if_neg hu
    obtain ⟨g1, g2, g3, _, g5⟩ := runGo_fire (sc := f.Script) (s := s) (u := u) (now := now) (rest := f.Script) (k := 0) (t := s) (out := []) rfl rfl (fun _ _ => rfl) rfl (by omega)
    rw [List.drop_zero] at g1 g2 g3 g5
    rw [List.nil_append] at g1
    rw [e1, e2]
    refine ⟨g1, ?_, ?_, ?_, g2, fun h => absurd h hu, fun i l b h1 h2 => ?_, fun hT _ i l b h1 h2 => fire_flag hT h1 h2⟩
    · rw [g1]
      cases hT : (fire s u now f.Script s.Came).2.2 with
      | true =>
        obtain ⟨_, x, h1, h2, _⟩ := g3 hT
        unfold turnedL; rw [h1]; simp [h2]
      | false =>
        unfold turnedL
        cases h1 : (fire s u now f.Script s.Came).1.getLast? with
        | none => rfl
        | some x =>
          simp only
          rw [List.getLast?_eq_getElem?] at h1
          by_cases h2 : x.Do = 1
          · have := (fire_do h1 h2).2; rw [hT] at this; cases this
          · simpa using h2
    · rw [g1]; exact fire_phase
    · intro k x hx hdo
      rw [g1] at hx ⊢
      obtain ⟨h1, h2⟩ := fire_do hx hdo
      obtain ⟨q1, y, q2, q3, q4⟩ := g3 h2
      rw [List.getLast?_eq_getElem?, show (fire s u now f.Script s.Came).1.length - 1 = k by omega, hx] at q2
      cases q2
      exact ⟨h1, q4, q1⟩
    · have := g5 i l b (by rw [Nat.zero_add]; exact h1) h1 (by rw [Nat.zero_add]; exact h2)
      rw [Nat.zero_add] at this
      exact this
/-- between two lines -/
def Mid (f : GFoe) (s : GBoss) (u : GUnit) (now : Int) (L : List GLine) (F : List Bool) (i p : Nat) : Prop := p ≤ L.length ∧ ((L.drop p = (fire s u now (f.Script.drop i) (s.Came.drop i)).1 ∧ ∀ j, F.getD (i + j) false = (fire s u now (f.Script.drop i) (s.Came.drop i)).2.1.getD j false) ∨ p = L.length)
theorem mid_0 {f : GFoe} {s : GBoss} {u : GUnit} {now : Int} : Mid f s u now (fireB f s u now).1 (fireB f s u now).2.1 0 0 := by
  refine ⟨Nat.zero_le _, ?_⟩
  unfold fireB
  split
  · right; rfl
  · left; simp
theorem mid_end {f : GFoe} {s : GBoss} {u : GUnit} {now : Int} {L : List GLine} {F : List Bool} {p : Nat} (h : Mid f s u now L F f.Script.length p) : p = L.length := by
  rcases h.2 with ⟨h1, _⟩ | h1
  · rw [List.drop_length] at h1
    have : L.drop p = [] := by rw [h1]; simp [fire]
    have h2 := congrArg List.length this
    rw [List.length_drop] at h2
    have := h.1
    simp at h2
    omega
  · exact h1
theorem mid_yes {f : GFoe} {s : GBoss} {u : GUnit} {now : Int} {L : List GLine} {F : List Bool} {i p : Nat} {x : GLine} {c : Bool} (h : Mid f s u now L F i p) (hx : f.Script[i]? = some x) (hc : s.Came[i]? = some c) (hL : p < L.length) (hd : dueB x s c u now = true) : Mid f s u now L F (i + 1) (p + 1) ∧ F.getD i false = true := by
  rcases h.2 with ⟨h1, h2⟩ | h1
  · rw [drop_cons hx, drop_cons hc, fire, if_neg (by simp [hd])] at h1 h2
    have h3 := h2 0
    by_cases ho : x.Do = 1
    · rw [if_pos ho] at h1 h3
      have h4 := congrArg List.length h1
      rw [List.length_drop] at h4
      simp at h4
      exact ⟨⟨by omega, .inr (by omega)⟩, by simpa using h3⟩
    · rw [if_neg ho] at h1 h2 h3
      refine ⟨⟨by omega, .inl ⟨?_, fun j => ?_⟩⟩, by simpa using h3⟩
      · rw [← List.drop_drop, h1]; rfl
      · have := h2 (j + 1)
        rw [show i + (j + 1) = i + 1 + j by omega] at this
        simpa using this
  · omega
theorem mid_no {f : GFoe} {s : GBoss} {u : GUnit} {now : Int} {L : List GLine} {F : List Bool} {i p : Nat} {x : GLine} {c : Bool} (h : Mid f s u now L F i p) (hx : f.Script[i]? = some x) (hc : s.Came[i]? = some c) (hn : L[p]? = some x → dueB x s c u now = true → False) : Mid f s u now L F (i + 1) p := by
  refine ⟨h.1, ?_⟩
  rcases h.2 with ⟨h1, h2⟩ | h1
  · left
    rw [drop_cons hx, drop_cons hc, fire] at h1 h2
    by_cases hd : dueB x s c u now = false
    · rw [if_pos hd] at h1 h2
      refine ⟨h1, fun j => ?_⟩
      have := h2 (j + 1)
      rw [show i + (j + 1) = i + 1 + j by omega] at this
      simpa using this
    · exfalso
      refine hn ?_ (by simpa using hd)
      have h3 : (L.drop p)[0]? = some x := by
        rw [h1, if_neg hd]; split <;> rfl
      rwa [List.getElem?_drop, Nat.add_zero] at h3
  · exact .inr h1
/-- how often each line came -/
def Bnd (f : GFoe) (s t : GBoss) (i : Nat) (Cs : List Int) : Prop := ∀ (j : Nat) l c b, f.Script[j]? = some l → Cs[j]? = some c → l.When ≠ 2 → (if j < i then t.Came[j]? else s.Came[j]?) = some b → 0 ≤ c ∧ c ≤ if b = true then 1 else 0
theorem bnd_step {f : GFoe} {s t : GBoss} {i : Nat} {Cs : List Int} {c' : Int} {x : GLine} {b : Bool} (h : Bnd f s t i Cs) (hx : f.Script[i]? = some x) (hb : t.Came[i]? = some b) (hc : x.When ≠ 2 → 0 ≤ c' ∧ c' ≤ if b = true then 1 else 0) : Bnd f s t (i + 1) (Cs.set i c') := by
  intro j l c b' h1 h2 h3 h4
  by_cases e : j = i
  · subst e
    rw [hx] at h1; cases h1
    rw [if_pos (by omega), hb] at h4; cases h4
    have hlt : j < Cs.length := by have := (List.getElem?_eq_some_iff.1 h2).1; simpa using this
    rw [List.getElem?_set_self hlt] at h2; cases h2
    exact hc h3
  · rw [List.getElem?_set_ne (Ne.symm e)] at h2
    refine h j l c b' h1 h2 h3 ?_
    by_cases e2 : j < i
    · rw [if_pos e2]; rwa [if_pos (by omega)] at h4
    · rw [if_neg e2]; rwa [if_neg (by omega)] at h4
theorem more_every {f : GFoe} {s t : GBoss} {u : GUnit} {now : Int} {L : List GLine} {F : List Bool} (h : Tick f s u now t L F false) (hl : s.Came.length = f.Script.length) (hl2 : t.Came.length = f.Script.length) : ∀ x ∈ (runB f t u now).2, x.When = 2 := by
  intro x hx
  obtain ⟨e1, _⟩ := tick_of (f := f) (s := t) (u := u) (now := now) hl2
  rw [e1] at hx
  unfold fireB at hx
  split at hx
  · cases hx
  · rename_i hu
    obtain ⟨i, b, h1, h2, h3⟩ := fire_mem x hx
    by_cases hw : x.When = 2
    · exact hw
    · exfalso
      have hb := due_came h3 hw
      subst hb
      have hi : i < s.Came.length := by have := (List.getElem?_eq_some_iff.1 h1).1; omega
      obtain ⟨c, hc⟩ : ∃ z, s.Came[i]? = some z := ⟨_, List.getElem?_eq_getElem hi⟩
      have h4 := h.came i x c h1 hc
      rw [h2, h.flag rfl (by omega) i x c h1 hc] at h4
      have h5 := h.stays rfl
      rw [due_same h5.1 h5.2] at h3
      cases c
      · rw [h3] at h4; simp [hw] at h4
      · simp at h4


theorem bnd_0 {f : GFoe} {z : GBoss} {n : Nat} : Bnd f z z 0 (List.replicate n 0) := by
  intro j l c b _ h2 _ _
  rw [List.getElem?_replicate] at h2
  split at h2
  · cases h2; split <;> omega
  · cases h2
theorem bnd_next {f : GFoe} {s t : GBoss} {Cs : List Int} (h : Bnd f s t f.Script.length Cs) : Bnd f t t 0 Cs := by
  intro j l c b h1 h2 h3 h4
  refine h j l c b h1 h2 h3 ?_
  rw [if_pos (List.getElem?_eq_some_iff.1 h1).1]
  rwa [if_neg (by omega)] at h4
theorem bnd_first {f : GFoe} {z t : GBoss} {Cs : List Int} (h : Bnd f z z 0 Cs) : Bnd f z t 0 Cs := by
  intro j l c b h1 h2 h3 h4
  refine h j l c b h1 h2 h3 ?_
  rw [if_neg (by omega)] at h4 ⊢
  exact h4
theorem turned_snoc {L : List GLine} {j : Nat} {y : GLine} (h : L[j]? = some y) : turnedL (L.take (j + 1)) = (y.Do == 1) := by
  rw [take_snoc h]; simp [turnedL]
theorem waits_due {f : GFoe} {s : GBoss} {u : GUnit} {i : Nat} {now : Int} {x : GLine} {c : Bool} (hl : s.Came.length = f.Script.length) (hx : f.Script[i]? = some x) (hc : s.Came[i]? = some c) : waitsB f s u i now = !dueB x s c u now := by
  have hi := (List.getElem?_eq_some_iff.1 hx).1
  unfold waitsB
  rw [decide_eq_true (by omega)]
  simp [List.getD, hx, hc]
theorem val_no {cc : Int} {c0 q : Bool} (h : 0 ≤ cc ∧ cc ≤ if c0 = true then 1 else 0) : 0 ≤ cc ∧ cc ≤ if (c0 || q) = true then 1 else 0 := by
  cases c0 <;> cases q <;> simp at h ⊢ <;> omega
theorem val_yes {cc : Int} (h : 0 ≤ cc ∧ cc ≤ if false = true then 1 else 0) : 0 ≤ IntKind.i64.wrap (cc + 1) ∧ IntKind.i64.wrap (cc + 1) ≤ if (false || (true && true)) = true then 1 else 0 := by
  simp at h
  have : cc = 0 := by omega
  subst this
  decide
theorem line_eq {a b : GLine} (h1 : a.Phase = b.Phase) (h2 : a.When = b.When) (h3 : a.Arg = b.Arg) (h4 : a.Do = b.Do) (h5 : a.Value = b.Value) : a = b := by
  cases a; cases b; simp_all

set_option maxHeartbeats 4000000 in
theorem bossOnce_ok (f : GFoe) (healths : List Int) (healths_f : Bool) (hf0 : f.Script.length ≤ 140737488355328) : Ok Try.prog 4 [aGFoe f, .pv (.slc healths.length healths_f (encI healths))] [] (B true) [] [] := by
 refine Ok.len fun hlen => ?_
 have hl_f_Script : f.Script.length ≤ maxLen := hlen _ (by simp [lensL, lens, lensP])
 have hl_f_Hoard : f.Hoard.length ≤ maxLen := hlen _ (by simp [lensL, lens, lensP])
 have hl_healths : healths.length ≤ maxLen := hlen _ (by simp [lensL, lens, lensP])
 unfold maxLen at hl_f_Script hl_f_Hoard hl_healths
 refine ok_of_sem Try.func4 rfl ?_
 show Walks Try.prog _ _ ⟨[(0, aGFoe f), (1, .pv (.slc healths.length healths_f (encI healths)))], [], 0, [], 238, 0⟩
 refine sem_seq ?_
 refine sem_region rfl ?_
 refine step_n (o := .box [_, _, _, _, _, _, _, _]) (nx' := 1) rfl rfl rfl trivial ?_
 refine step_r rfl rfl trivial ?_
 refine step_nil ?_
 refine seqK_n ?_
 refine sem_seq ?_
 refine sem_region rfl ?_
 refine step_call rfl rfl rfl rfl (small20_ok ) rfl rfl rfl ?_
 refine step_r rfl rfl trivial ?_
 refine step_nil ?_
 refine seqK_n ?_
 refine sem_seq ?_
 refine sem_region rfl ?_
 refine step_r (v := (.agg [_, _, _, _, _, _, _, _])) rfl rfl (Nat.le_of_ble_eq_true rfl) ?_
 refine step_callJ (Hin := []) (out' := .agg [_, _, .ref 1 _ _ _, _]) (H' := [(1, .row _ _ _), (0, .box [_, _, _, _, _, _, _, _])]) (nx' := 2) [] rfl rfl rfl rfl rfl rfl rfl rfl rfl (by (repeat' apply And.intro) <;> first | trivial | rfl | exact flat_len (fun _ => rfl) _ | exact encI_len _ | exact encB_len _ | exact encY_len _ | assumption) (start_ok f 0 (by first | omega | decide +kernel | (simp; done) | (simp; omega) | simp_all)) rfl (by decide) rfl rfl ⟨encB_solid, trivial⟩ rfl rfl rfl rfl ?_
 refine step_n (o := .box [_, _, _, _]) (nx' := 3) rfl rfl rfl trivial ?_
 refine step_store (H' := [(2, .box [_, _, _, _]), (1, .row _ _ _), (0, .box [_, _, _, _, _, _, _, _])]) rfl rfl rfl rfl rfl rfl (Nat.le_of_ble_eq_true rfl) (.inl rfl) rfl ?_
 refine step_nil ?_
 refine seqK_n ?_
 refine sem_seq ?_
 refine sem_region rfl ?_
 refine step_r (v := (.agg [_, _, _, _, _, _, _, _])) rfl rfl (Nat.le_of_ble_eq_true rfl) ?_
 refine step_r (v := (.agg [_, _, _, _])) rfl rfl (Nat.le_of_ble_eq_true rfl) ?_
 refine step_callJ (Hin := [.row _ _ _]) (H' := [(2, .box [_, _, _, _]), (1, .row _ _ _), (0, .box [_, _, _, _, _, _, _, _])]) (nx' := 3) [1] rfl rfl rfl rfl rfl rfl rfl rfl rfl (by (repeat' apply And.intro) <;> first | trivial | rfl | exact flat_len (fun _ => rfl) _ | exact encI_len _ | exact encB_len _ | exact encY_len _ | assumption) (fits_ok f (⟨1, 0, (List.replicate f.Script.length false), 0⟩ : GBoss) 0) rfl (by decide) rfl rfl trivial rfl rfl rfl rfl ?_
 refine step_r rfl rfl trivial ?_
 refine step_nil ?_
 refine seqK_n ?_
 refine sem_seq ?_
 refine sem_seq ?_
 refine sem_region rfl ?_
 refine step_r rfl rfl trivial ?_
 refine step_r rfl rfl trivial ?_
 refine step_r rfl rfl trivial ?_
 refine step_gs rfl (fun h3 => ?_) (fun h3 => ?_)
 ·have g3 := h3
  try simp at g3
  refine step_g0 rfl h3 rfl ?_
  refine step_g0 rfl h3 rfl ?_
  refine step_g0 rfl h3 rfl ?_
  refine step_pickT rfl h3 rfl rfl ?_
  refine step_nil ?_
  refine seqK_n ?_
  refine sem_condT rfl ?_
  refine sem_seq ?_
  refine sem_region rfl ?_
  refine step_r rfl rfl trivial ?_
  refine step_r rfl rfl trivial ?_
  refine step_nil ?_
  refine seqK_n ?_
  refine sem_ret ?_
  refine seqK_r ?_
  exact answersR rfl ⟨trivial, trivial⟩ (rfl) rfl
 ·have g3 := h3
  try simp at g3
  obtain ⟨q1, q2, q3, q4, q5, q6, q7, q8, q9⟩ : fitsP f (startB f 0) 0 := by have h := h3; simp at h; exact h
  refine step_g1 rfl h3 ?_
  refine step_r rfl rfl trivial ?_
  refine step_g1 rfl h3 ?_
  refine step_r rfl rfl trivial ?_
  refine step_g1 rfl h3 ?_
  refine step_bin rfl rfl rfl rfl rfl trivial ?_
  refine step_pickF rfl h3 rfl rfl ?_
  refine step_nil ?_
  refine seqK_n ?_
  refine sem_cond rfl (fun h5 => ?_) (fun h5 => ?_)
  ·have g5 := h5
   try simp at g5
   refine sem_seq ?_
   refine sem_region rfl ?_
   refine step_r rfl rfl trivial ?_
   refine step_r rfl rfl trivial ?_
   refine step_nil ?_
   refine seqK_n ?_
   refine sem_ret ?_
   refine seqK_r ?_
   exact answersR rfl ⟨trivial, trivial⟩ (rfl) rfl
  ·have g5 := h5
   try simp at g5
   refine sem_skip ?_
   refine seqK_n ?_
   refine sem_seq ?_
   refine sem_region rfl ?_
   refine step_r rfl rfl (by decide) ?_
   refine step_r rfl rfl trivial ?_
   refine step_r rfl rfl trivial ?_
   refine step_mkS (sz := 1) (n := f.Script.length) (n' := (List.replicate f.Script.length (0 : Int)).length) (cs := encI (List.replicate f.Script.length (0 : Int))) rfl rfl rfl rfl rfl rfl rfl (by unfold maxGrow; omega) (repeatZ_map _) (List.length_replicate ..).symm rfl rfl ?_
   refine step_r rfl rfl trivial ?_
   refine step_nil ?_
   refine seqK_n ?_
   refine sem_seq ?_
   refine sem_seq ?_
   refine sem_region rfl ?_
   refine step_r rfl rfl trivial ?_
   refine step_nil ?_
   refine seqK_n ?_
   refine sem_block ?_
   refine sem_loop_of (fun a : Nat × GBoss × List Int => match a with | (k, z, Cs) => (⟨[(1, .pv (.slc healths.length healths_f (encI healths))), (2, .ptr 0 0), (5, B true), (6, .ptr 2 0), (8, .ref 3 1 0 Cs.length), (9, I k)], [(0, .box [I f.Id, I f.Health, I f.Hit, I f.Every, I f.Reach, .pv (.slc f.Script.length false (f.Script.flatMap encGLine)), .pv (.slc f.Hoard.length false (f.Hoard.flatMap encGPrize)), I f.Drops]), (1, .row 4 1 (encB z.Came)), (2, .box [I z.Phase, I z.Since, .ref 1 1 0 z.Came.length, I z.Rage]), (3, .row 3 1 (encI Cs))], 4, [], 238, 0⟩ : St)) (fun a : Nat × GBoss × List Int => match a with | (k, z, Cs) => k ≤ healths.length ∧ z.Came.length = f.Script.length ∧ Cs.length = f.Script.length ∧ Bnd f z z 0 Cs) (fun a : Nat × GBoss × List Int => match a with | (k, z, Cs) => healths.length - k) (0, startB f 0, _) (⟨Nat.zero_le _, by simp [startB], by simp, bnd_0⟩) (less_of rfl ⟨⟨rfl, rfl⟩, ⟨rfl, rfl⟩, ⟨rfl, rfl⟩, ⟨rfl, rfl⟩, ⟨rfl, rfl⟩, ⟨rfl, rfl⟩, trivial⟩ ⟨⟨rfl, rfl, rfl⟩, ⟨rfl, rfl, rfl⟩, ⟨rfl, rfl, rfl⟩, ⟨rfl, rfl, rfl⟩, trivial⟩ (fun _ _ => .inr (Nat.zero_le _))) (fun a hI => ?_)
   obtain ⟨k, z, Cs⟩ := a
   show Walks Try.prog _ _ (⟨[(1, .pv (.slc healths.length healths_f (encI healths))), (2, .ptr 0 0), (5, B true), (6, .ptr 2 0), (8, .ref 3 1 0 Cs.length), (9, I k)], [(0, .box [I f.Id, I f.Health, I f.Hit, I f.Every, I f.Reach, .pv (.slc f.Script.length false (f.Script.flatMap encGLine)), .pv (.slc f.Hoard.length false (f.Hoard.flatMap encGPrize)), I f.Drops]), (1, .row 4 1 (encB z.Came)), (2, .box [I z.Phase, I z.Since, .ref 1 1 0 z.Came.length, I z.Rage]), (3, .row 3 1 (encI Cs))], 4, [], 238, 0⟩ : St)
   refine sem_seq ?_
   refine sem_seq ?_
   refine sem_region rfl ?_
   refine step_r rfl rfl trivial ?_
   refine step_r rfl rfl trivial ?_
   refine step_r rfl rfl trivial ?_
   refine step_bin rfl rfl rfl rfl rfl trivial ?_
   refine step_nil ?_
   refine seqK_n ?_
   refine sem_cond rfl (fun h7 => ?_) (fun h7 => ?_)
   ·have hk : k < healths.length := by simpa using h7
    obtain ⟨x, hx⟩ : ∃ z_, healths[k]? = some z_ := ⟨_, List.getElem?_eq_getElem hk⟩
    obtain ⟨i1, hzl, hCs, hB0⟩ := hI
    obtain ⟨hfe, hT⟩ := tick_of (f := f) (s := z) (u := ⟨0, 0, 0, x, 100, 0, 0, ⟨0, 0⟩, 0⟩) (now := (k : Int)) hzl
    have htl := runB_len (f := f) (s := z) (u := ⟨0, 0, 0, x, 100, 0, 0, ⟨0, 0⟩, 0⟩) (now := (k : Int))
    have hLo := runB_out (f := f) (s := z) (u := ⟨0, 0, 0, x, 100, 0, 0, ⟨0, 0⟩, 0⟩) (now := (k : Int))
    refine sem_skip ?_
    refine seqK_n ?_
    refine sem_seq ?_
    refine sem_block ?_
    refine sem_seq ?_
    refine sem_region rfl ?_
    refine step_r rfl rfl trivial ?_
    refine step_r rfl rfl trivial ?_
    refine step_idxS (k := k) rfl rfl rfl rfl hk (encI_ne hk) rfl ?_
    refine step_load_one rfl rfl rfl (encI_get hx) rfl ?_
    refine step_r (v := (.agg [_, _, _, _, _, _, _, _, _, _])) rfl rfl trivial ?_
    refine step_n (o := .box [_, _, _, _, _, _, _, _, _, _]) (nx' := 5) rfl rfl rfl trivial ?_
    refine step_store (H' := [(4, .box [_, _, _, _, _, _, _, _, _, _]), (0, .box [_, _, _, _, _, _, _, _]), (1, .row _ _ _), (2, .box [_, _, _, _]), (3, .row _ _ _)]) rfl rfl rfl rfl rfl rfl (Nat.le_of_ble_eq_true rfl) (.inl rfl) rfl ?_
    refine step_nil ?_
    refine seqK_n ?_
    refine sem_seq ?_
    refine sem_region rfl ?_
    refine step_r (v := (.agg [_, _, _, _, _, _, _, _])) rfl rfl (Nat.le_of_ble_eq_true rfl) ?_
    refine step_r (v := (.agg [_, _, _, _])) rfl rfl (Nat.le_of_ble_eq_true rfl) ?_
    refine step_r (v := (.agg [_, _, _, _, _, _, _, _, _, _])) rfl rfl (Nat.le_of_ble_eq_true rfl) ?_
    refine step_r rfl rfl trivial ?_
    refine step_callJ (Hin := [.row _ _ _]) (out' := .tup [.agg [_, _, .ref 5 _ _ _, _], .ref 6 _ _ _]) (H' := [(5, .row _ _ _), (6, .row _ _ _), (4, .box [_, _, _, _, _, _, _, _, _, _]), (0, .box [_, _, _, _, _, _, _, _]), (1, .row _ _ _), (2, .box [_, _, _, _]), (3, .row _ _ _)]) (nx' := 7) [1] rfl rfl rfl rfl rfl rfl rfl rfl rfl (by (repeat' apply And.intro) <;> first | trivial | rfl | exact flat_len (fun _ => rfl) _ | exact encI_len _ | exact encB_len _ | exact encY_len _ | assumption) (run_ok f z (⟨0, 0, 0, x, 100, 0, 0, (⟨0, 0⟩ : GPos), 0⟩ : GUnit) k (by first | omega | decide +kernel | (simp; done) | (simp; omega) | simp_all) (by first | omega | decide +kernel | (simp; done) | (simp; omega) | simp_all)) rfl (by decide) rfl rfl ⟨encB_solid, encGLine_solid, trivial⟩ rfl rfl rfl rfl ?_
    refine step_r rfl rfl trivial ?_
    refine step_r rfl rfl trivial ?_
    refine step_r rfl rfl trivial ?_
    refine step_n (o := .box [_, _, _, _]) (nx' := 8) rfl rfl rfl trivial ?_
    refine step_store (H' := [(7, .box [_, _, _, _]), (5, .row _ _ _), (6, .row _ _ _), (4, .box [_, _, _, _, _, _, _, _, _, _]), (0, .box [_, _, _, _, _, _, _, _]), (1, .row _ _ _), (2, .box [_, _, _, _]), (3, .row _ _ _)]) rfl rfl rfl rfl rfl rfl (Nat.le_of_ble_eq_true rfl) (.inl rfl) rfl ?_
    refine step_r rfl rfl trivial ?_
    refine step_nil ?_
    refine seqK_n ?_
    refine sem_seq ?_
    refine sem_region rfl ?_
    refine step_r rfl rfl trivial ?_
    refine step_nil ?_
    refine seqK_n ?_
    refine sem_seq ?_
    refine sem_seq ?_
    refine sem_region rfl ?_
    refine step_r rfl rfl trivial ?_
    refine step_nil ?_
    refine seqK_n ?_
    refine sem_block ?_
    refine sem_loop_of (fun j : Nat => (⟨[(1, .pv (.slc healths.length healths_f (encI healths))), (2, .ptr 0 0), (5, B true), (6, .ptr 2 0), (8, .ref 3 1 0 Cs.length), (9, I k), (10, .ptr 4 0), (11, .ptr 7 0), (12, .ref 6 5 0 (runB f z (⟨0, 0, 0, x, 100, 0, 0, (⟨0, 0⟩ : GPos), 0⟩ : GUnit) k).2.length), (13, B (turnedL ((runB f z ⟨0, 0, 0, x, 100, 0, 0, ⟨0, 0⟩, 0⟩ (k : Int)).2.take j))), (14, I j)], [(0, .box [I f.Id, I f.Health, I f.Hit, I f.Every, I f.Reach, .pv (.slc f.Script.length false (f.Script.flatMap encGLine)), .pv (.slc f.Hoard.length false (f.Hoard.flatMap encGPrize)), I f.Drops]), (1, .row 4 1 (encB z.Came)), (2, .box [I z.Phase, I z.Since, .ref 1 1 0 z.Came.length, I z.Rage]), (3, .row 3 1 (encI Cs)), (4, .box [I 0, I 0, I 0, I x, I 100, I 0, I 0, I 0, I 0, I 0]), (5, .row 4 1 (encB (runB f z (⟨0, 0, 0, x, 100, 0, 0, (⟨0, 0⟩ : GPos), 0⟩ : GUnit) k).1.Came)), (6, .row 40 5 ((runB f z (⟨0, 0, 0, x, 100, 0, 0, (⟨0, 0⟩ : GPos), 0⟩ : GUnit) k).2.flatMap encGLine)), (7, .box [I (runB f z (⟨0, 0, 0, x, 100, 0, 0, (⟨0, 0⟩ : GPos), 0⟩ : GUnit) k).1.Phase, I (runB f z (⟨0, 0, 0, x, 100, 0, 0, (⟨0, 0⟩ : GPos), 0⟩ : GUnit) k).1.Since, .ref 5 1 0 (runB f z (⟨0, 0, 0, x, 100, 0, 0, (⟨0, 0⟩ : GPos), 0⟩ : GUnit) k).1.Came.length, I (runB f z (⟨0, 0, 0, x, 100, 0, 0, (⟨0, 0⟩ : GPos), 0⟩ : GUnit) k).1.Rage])], 8, [], 238, 0⟩ : St)) (fun j : Nat => j ≤ (runB f z ⟨0, 0, 0, x, 100, 0, 0, ⟨0, 0⟩, 0⟩ (k : Int)).2.length) (fun j : Nat => (runB f z ⟨0, 0, 0, x, 100, 0, 0, ⟨0, 0⟩, 0⟩ (k : Int)).2.length - j) 0 (Nat.zero_le _) (less_of rfl ⟨⟨rfl, rfl⟩, ⟨rfl, rfl⟩, ⟨rfl, rfl⟩, ⟨rfl, rfl⟩, ⟨rfl, rfl⟩, ⟨rfl, rfl⟩, ⟨rfl, rfl⟩, ⟨rfl, rfl⟩, ⟨rfl, rfl⟩, ⟨rfl, rfl⟩, ⟨rfl, rfl⟩, trivial⟩ ⟨⟨rfl, rfl, rfl⟩, ⟨rfl, rfl, rfl⟩, ⟨rfl, rfl, rfl⟩, ⟨rfl, rfl, rfl⟩, ⟨rfl, rfl, rfl⟩, ⟨rfl, rfl, rfl⟩, ⟨rfl, rfl, rfl⟩, ⟨rfl, rfl, rfl⟩, trivial⟩ (fun _ _ => .inr (Nat.zero_le _))) (fun j hI => ?_)
    show Walks Try.prog _ _ (⟨[(1, .pv (.slc healths.length healths_f (encI healths))), (2, .ptr 0 0), (5, B true), (6, .ptr 2 0), (8, .ref 3 1 0 Cs.length), (9, I k), (10, .ptr 4 0), (11, .ptr 7 0), (12, .ref 6 5 0 (runB f z (⟨0, 0, 0, x, 100, 0, 0, (⟨0, 0⟩ : GPos), 0⟩ : GUnit) k).2.length), (13, B (turnedL ((runB f z ⟨0, 0, 0, x, 100, 0, 0, ⟨0, 0⟩, 0⟩ (k : Int)).2.take j))), (14, I j)], [(0, .box [I f.Id, I f.Health, I f.Hit, I f.Every, I f.Reach, .pv (.slc f.Script.length false (f.Script.flatMap encGLine)), .pv (.slc f.Hoard.length false (f.Hoard.flatMap encGPrize)), I f.Drops]), (1, .row 4 1 (encB z.Came)), (2, .box [I z.Phase, I z.Since, .ref 1 1 0 z.Came.length, I z.Rage]), (3, .row 3 1 (encI Cs)), (4, .box [I 0, I 0, I 0, I x, I 100, I 0, I 0, I 0, I 0, I 0]), (5, .row 4 1 (encB (runB f z (⟨0, 0, 0, x, 100, 0, 0, (⟨0, 0⟩ : GPos), 0⟩ : GUnit) k).1.Came)), (6, .row 40 5 ((runB f z (⟨0, 0, 0, x, 100, 0, 0, (⟨0, 0⟩ : GPos), 0⟩ : GUnit) k).2.flatMap encGLine)), (7, .box [I (runB f z (⟨0, 0, 0, x, 100, 0, 0, (⟨0, 0⟩ : GPos), 0⟩ : GUnit) k).1.Phase, I (runB f z (⟨0, 0, 0, x, 100, 0, 0, (⟨0, 0⟩ : GPos), 0⟩ : GUnit) k).1.Since, .ref 5 1 0 (runB f z (⟨0, 0, 0, x, 100, 0, 0, (⟨0, 0⟩ : GPos), 0⟩ : GUnit) k).1.Came.length, I (runB f z (⟨0, 0, 0, x, 100, 0, 0, (⟨0, 0⟩ : GPos), 0⟩ : GUnit) k).1.Rage])], 8, [], 238, 0⟩ : St)
    refine sem_seq ?_
    refine sem_seq ?_
    refine sem_region rfl ?_
    refine step_r rfl rfl trivial ?_
    refine step_r rfl rfl trivial ?_
    refine step_r rfl rfl trivial ?_
    refine step_bin rfl rfl rfl rfl rfl trivial ?_
    refine step_nil ?_
    refine seqK_n ?_
    refine sem_cond rfl (fun h9 => ?_) (fun h9 => ?_)
    ·have hj : j < (runB f z ⟨0, 0, 0, x, 100, 0, 0, ⟨0, 0⟩, 0⟩ (k : Int)).2.length := by simpa using h9
     obtain ⟨y, hy⟩ : ∃ z_, (runB f z ⟨0, 0, 0, x, 100, 0, 0, ⟨0, 0⟩, 0⟩ (k : Int)).2[j]? = some z_ := ⟨_, List.getElem?_eq_getElem hj⟩
     have hyp := hT.phase y (List.mem_of_getElem? hy)
     refine sem_skip ?_
     refine seqK_n ?_
     refine sem_seq ?_
     refine sem_block ?_
     refine sem_seq ?_
     refine sem_region rfl ?_
     refine step_r rfl rfl trivial ?_
     refine step_r rfl rfl trivial ?_
     refine step_idxR (k := j) rfl rfl rfl rfl hj rfl ?_
     refine step_r rfl rfl (by decide) ?_
     refine step_load_oneR rfl rfl rfl rfl (flat_get (s := 5) (enc := encGLine) (fun _ => rfl) hy (o := 3) rfl (by decide)) rfl ?_
     refine step_bin rfl rfl rfl rfl rfl trivial ?_
     refine step_r rfl rfl trivial ?_
     refine step_nil ?_
     refine seqK_n ?_
     refine sem_seq ?_
     refine sem_drawn rfl (by decide +kernel) rfl ?_
     refine step_r rfl rfl trivial ?_
     refine step_r rfl rfl trivial ?_
     refine step_idxR (k := j) rfl rfl rfl rfl hj rfl ?_
     refine step_r rfl rfl (by decide) ?_
     refine step_load_oneR rfl rfl rfl rfl (flat_get (s := 5) (enc := encGLine) (fun _ => rfl) hy (o := 0) rfl (by decide)) rfl ?_
     refine step_r rfl rfl (by decide) ?_
     refine step_r rfl rfl trivial ?_
     refine step_bin rfl rfl rfl rfl rfl trivial ?_
     refine step_r rfl rfl trivial ?_
     refine step_gs rfl (fun h12 => ?_) (fun h12 => ?_)
     ·have h := h12
      simp [hyp] at h
     ·have g12 := h12
      try simp at g12
      refine step_g1 rfl h12 ?_
      refine step_r rfl rfl trivial ?_
      refine step_g1 rfl h12 ?_
      refine step_r rfl rfl trivial ?_
      refine step_gs rfl (fun h13 => ?_) (fun h13 => ?_)
      ·have g13 := h13
       try simp at g13
       obtain ⟨d1, d2, d3⟩ := hT.does j y hy (by simpa using h13)
       have hwl : IntKind.i64.wrap (((runB f z ⟨0, 0, 0, x, 100, 0, 0, ⟨0, 0⟩, 0⟩ (k : Int)).2.length : Int) - 1) = (j : Int) := by rw [IntKind.wrap_i64]; omega
       refine step_g1 rfl h13 ?_
       refine step_r rfl rfl trivial ?_
       refine step_g1 rfl h13 ?_
       refine step_r rfl rfl trivial ?_
       refine step_g1 rfl h13 ?_
       refine step_r rfl rfl trivial ?_
       refine step_g1 rfl h13 ?_
       refine step_bin rfl rfl rfl rfl rfl trivial ?_
       refine step_g1 rfl h13 ?_
       refine step_bin rfl rfl rfl rfl rfl trivial ?_
       refine step_g1 rfl h13 ?_
       refine step_r rfl rfl trivial ?_
       refine step_gs rfl (fun h15 => ?_) (fun h15 => ?_)
       ·have h := h15
        rw [hwl] at h
        simp at h
       ·have g15 := h15
        try simp at g15
        refine step_g1 rfl h15 ?_
        refine step_r rfl rfl (by decide) ?_
        refine step_g1 rfl h15 ?_
        refine step_r rfl rfl trivial ?_
        refine step_g1 rfl h15 ?_
        refine step_r rfl rfl trivial ?_
        refine step_g1 rfl h15 ?_
        refine step_r rfl rfl trivial ?_
        refine step_g1 rfl h15 ?_
        refine step_idxR (k := j) rfl rfl rfl rfl hj rfl ?_
        refine step_g1 rfl h15 ?_
        refine step_r rfl rfl (by decide) ?_
        refine step_g1 rfl h15 ?_
        refine step_load_oneR rfl rfl rfl rfl (flat_get (s := 5) (enc := encGLine) (fun _ => rfl) hy (o := 4) rfl (by decide)) rfl ?_
        refine step_g1 rfl h15 ?_
        refine step_bin rfl rfl rfl rfl rfl trivial ?_
        refine step_g1 rfl h13 ?_
        refine step_pickF rfl h15 rfl rfl ?_
        refine step_g1 rfl h13 ?_
        refine step_r rfl rfl trivial ?_
        refine step_gs rfl (fun h17 => ?_) (fun h17 => ?_)
        ·have h := h17
         rw [d2] at h
         simp at h
        ·have g17 := h17
         try simp at g17
         refine step_g1 rfl h17 ?_
         refine step_r rfl rfl (by decide) ?_
         refine step_g1 rfl h17 ?_
         refine step_r rfl rfl trivial ?_
         refine step_g1 rfl h17 ?_
         refine step_r rfl rfl trivial ?_
         refine step_g1 rfl h17 ?_
         refine step_bin rfl rfl rfl rfl rfl trivial ?_
         refine step_g1 rfl h13 ?_
         refine step_pickF rfl h17 rfl rfl ?_
         refine step_g1 rfl h12 ?_
         refine step_pickT rfl h13 rfl rfl ?_
         refine step_pickF rfl h12 rfl rfl ?_
         refine step_nil ?_
         refine seqK_n ?_
         refine sem_cond rfl (fun h20 => ?_) (fun h20 => ?_)
         ·have h := h20
          rw [d3] at h
          simp at h
         ·have g20 := h20
          try simp at g20
          refine sem_skip ?_
          refine blkK_n ?_
          refine seqK_n ?_
          refine sem_region rfl ?_
          refine step_r rfl rfl trivial ?_
          refine step_bin rfl rfl rfl rfl rfl trivial ?_
          refine step_r rfl rfl trivial ?_
          refine step_nil ?_
          exact lup_again (j+1) (hj) (by omega) (less_of rfl ⟨⟨rfl, rfl⟩, ⟨rfl, rfl⟩, ⟨rfl, rfl⟩, ⟨rfl, rfl⟩, ⟨rfl, rfl⟩, ⟨rfl, rfl⟩, ⟨rfl, rfl⟩, ⟨rfl, rfl⟩, ⟨rfl, rfl⟩, ⟨congrArg (fun b => some (B b)) (turned_snoc hy).symm, rfl⟩, ⟨congrArg (fun n => some (I n)) (wrapK hj (by unfold maxLen; omega)), rfl⟩, trivial⟩ ⟨⟨rfl, rfl, rfl⟩, ⟨rfl, rfl, rfl⟩, ⟨rfl, rfl, rfl⟩, ⟨rfl, rfl, rfl⟩, ⟨rfl, rfl, rfl⟩, ⟨rfl, rfl, rfl⟩, ⟨rfl, rfl, rfl⟩, ⟨rfl, rfl, rfl⟩, trivial⟩ (fun _ _ => .inr (Nat.zero_le _)))
      ·have g13 := h13
       try simp at g13
       refine step_g0 rfl h13 rfl ?_
       refine step_g0 rfl h13 rfl ?_
       refine step_g0 rfl h13 rfl ?_
       refine step_g0 rfl h13 rfl ?_
       refine step_g0 rfl h13 rfl ?_
       refine step_g0 rfl h13 rfl ?_
       refine step_gf rfl rfl ?_
       refine step_gf rfl rfl ?_
       refine step_gf rfl rfl ?_
       refine step_gf rfl rfl ?_
       refine step_gf rfl rfl ?_
       refine step_gf rfl rfl ?_
       refine step_gf rfl rfl ?_
       refine step_gf rfl rfl ?_
       refine step_g0 rfl h13 rfl ?_
       refine step_g0 rfl h13 rfl ?_
       refine step_gf rfl rfl ?_
       refine step_gf rfl rfl ?_
       refine step_gf rfl rfl ?_
       refine step_gf rfl rfl ?_
       refine step_g0 rfl h13 rfl ?_
       refine step_g1 rfl h12 ?_
       refine step_pickF rfl h13 rfl rfl ?_
       refine step_pickF rfl h12 rfl rfl ?_
       refine step_nil ?_
       refine seqK_n ?_
       refine sem_condF rfl ?_
       refine sem_skip ?_
       refine blkK_n ?_
       refine seqK_n ?_
       refine sem_region rfl ?_
       refine step_r rfl rfl trivial ?_
       refine step_bin rfl rfl rfl rfl rfl trivial ?_
       refine step_r rfl rfl trivial ?_
       refine step_nil ?_
       exact lup_again (j+1) (hj) (by omega) (less_of rfl ⟨⟨rfl, rfl⟩, ⟨rfl, rfl⟩, ⟨rfl, rfl⟩, ⟨rfl, rfl⟩, ⟨rfl, rfl⟩, ⟨rfl, rfl⟩, ⟨rfl, rfl⟩, ⟨rfl, rfl⟩, ⟨rfl, rfl⟩, ⟨congrArg (fun b => some (B b)) (turned_snoc hy).symm, rfl⟩, ⟨congrArg (fun n => some (I n)) (wrapK hj (by unfold maxLen; omega)), rfl⟩, trivial⟩ ⟨⟨rfl, rfl, rfl⟩, ⟨rfl, rfl, rfl⟩, ⟨rfl, rfl, rfl⟩, ⟨rfl, rfl, rfl⟩, ⟨rfl, rfl, rfl⟩, ⟨rfl, rfl, rfl⟩, ⟨rfl, rfl, rfl⟩, ⟨rfl, rfl, rfl⟩, trivial⟩ (fun _ _ => .inr (Nat.zero_le _)))
    ·have hj : j = (runB f z ⟨0, 0, 0, x, 100, 0, 0, ⟨0, 0⟩, 0⟩ (k : Int)).2.length := by have h := h9; simp at h; omega
     have htu : turnedL ((runB f z ⟨0, 0, 0, x, 100, 0, 0, ⟨0, 0⟩, 0⟩ (k : Int)).2.take j) = (fireB f z ⟨0, 0, 0, x, 100, 0, 0, ⟨0, 0⟩, 0⟩ (k : Int)).2.2 := by rw [hj, List.take_length]; exact hT.turn
     refine sem_exit ?_
     refine seqK_e ?_
     refine lupK_e ?_
     refine blkK_t rfl ?_
     refine seqK_n ?_
     refine sem_seq ?_
     refine sem_seq ?_
     refine sem_cut (fun e S => e = .normal ∧ S = (⟨[(1, .pv (.slc healths.length healths_f (encI healths))), (2, .ptr 0 0), (5, B true), (6, .ptr 2 0), (8, .ref 3 1 0 Cs.length), (9, I k), (10, .ptr 4 0), (11, .ptr 7 0), (12, .ref 6 5 0 (runB f z (⟨0, 0, 0, x, 100, 0, 0, (⟨0, 0⟩ : GPos), 0⟩ : GUnit) k).2.length), (13, B (turnedL ((runB f z ⟨0, 0, 0, x, 100, 0, 0, ⟨0, 0⟩, 0⟩ (k : Int)).2.take j))), (134, B false)], [(0, .box [I f.Id, I f.Health, I f.Hit, I f.Every, I f.Reach, .pv (.slc f.Script.length false (f.Script.flatMap encGLine)), .pv (.slc f.Hoard.length false (f.Hoard.flatMap encGPrize)), I f.Drops]), (1, .row 4 1 (encB z.Came)), (2, .box [I z.Phase, I z.Since, .ref 1 1 0 z.Came.length, I z.Rage]), (3, .row 3 1 (encI Cs)), (4, .box [I 0, I 0, I 0, I x, I 100, I 0, I 0, I 0, I 0, I 0]), (5, .row 4 1 (encB (runB f z (⟨0, 0, 0, x, 100, 0, 0, (⟨0, 0⟩ : GPos), 0⟩ : GUnit) k).1.Came)), (6, .row 40 5 ((runB f z (⟨0, 0, 0, x, 100, 0, 0, (⟨0, 0⟩ : GPos), 0⟩ : GUnit) k).2.flatMap encGLine)), (7, .box [I (runB f z (⟨0, 0, 0, x, 100, 0, 0, (⟨0, 0⟩ : GPos), 0⟩ : GUnit) k).1.Phase, I (runB f z (⟨0, 0, 0, x, 100, 0, 0, (⟨0, 0⟩ : GPos), 0⟩ : GUnit) k).1.Since, .ref 5 1 0 (runB f z (⟨0, 0, 0, x, 100, 0, 0, (⟨0, 0⟩ : GPos), 0⟩ : GUnit) k).1.Came.length, I (runB f z (⟨0, 0, 0, x, 100, 0, 0, (⟨0, 0⟩ : GPos), 0⟩ : GUnit) k).1.Rage])], 8, [], 238, 0⟩ : St)) ?_ ?_
     ·refine sem_region rfl ?_
      refine step_r rfl rfl trivial ?_
      refine step_r rfl rfl trivial ?_
      refine step_r rfl rfl trivial ?_
      refine step_gs rfl (fun h25 => ?_) (fun h25 => ?_)
      ·have g25 := h25
       try simp at g25
       have hT0 : (fireB f z ⟨0, 0, 0, x, 100, 0, 0, ⟨0, 0⟩, 0⟩ (k : Int)).2.2 = false := by rw [← htu]; simpa using h25
       obtain ⟨st1, st2⟩ := hT.stays hT0
       refine step_g1 rfl h25 ?_
       refine step_r rfl rfl (by decide) ?_
       refine step_g1 rfl h25 ?_
       refine step_r rfl rfl trivial ?_
       refine step_g1 rfl h25 ?_
       refine step_r rfl rfl (by decide) ?_
       refine step_g1 rfl h25 ?_
       refine step_r rfl rfl trivial ?_
       refine step_g1 rfl h25 ?_
       refine step_bin rfl rfl rfl rfl rfl trivial ?_
       refine step_g1 rfl h25 ?_
       refine step_r rfl rfl trivial ?_
       refine step_gs rfl (fun h27 => ?_) (fun h27 => ?_)
       ·have h := h27
        rw [st1] at h
        simp at h
       ·have g27 := h27
        try simp at g27
        refine step_g1 rfl h27 ?_
        refine step_r rfl rfl (by decide) ?_
        refine step_g1 rfl h27 ?_
        refine step_r rfl rfl trivial ?_
        refine step_g1 rfl h27 ?_
        refine step_r rfl rfl (by decide) ?_
        refine step_g1 rfl h27 ?_
        refine step_r rfl rfl trivial ?_
        refine step_g1 rfl h27 ?_
        refine step_bin rfl rfl rfl rfl rfl trivial ?_
        refine step_g1 rfl h25 ?_
        refine step_pickF rfl h27 rfl rfl ?_
        refine step_pickT rfl h25 rfl rfl ?_
        refine step_r rfl rfl trivial ?_
        refine step_gs rfl (fun h29 => ?_) (fun h29 => ?_)
        ·have h := h29
         rw [st2] at h
         simp at h
        ·have g29 := h29
         try simp at g29
         refine step_g1 rfl h29 ?_
         refine step_r rfl rfl (by decide) ?_
         refine step_g1 rfl h29 ?_
         refine step_r rfl rfl trivial ?_
         refine step_g1 rfl h29 ?_
         refine step_bin rfl rfl rfl rfl rfl trivial ?_
         refine step_g1 rfl h29 ?_
         refine step_r rfl rfl trivial ?_
         refine step_gs rfl (fun h31 => ?_) (fun h31 => ?_)
         ·have g31 := h31
          try simp at g31
          have hdead := hT.dead (by show x < 1; simpa using h31)
          refine step_g1 rfl h31 ?_
          refine step_r rfl rfl trivial ?_
          refine step_g1 rfl h31 ?_
          refine step_r rfl rfl trivial ?_
          refine step_g1 rfl h31 ?_
          refine step_bin rfl rfl rfl rfl rfl trivial ?_
          refine step_g1 rfl h29 ?_
          refine step_pickT rfl h31 rfl rfl ?_
          refine step_pickF rfl h29 rfl rfl ?_
          refine step_r rfl rfl trivial ?_
          refine step_gs rfl (fun h33 => ?_) (fun h33 => ?_)
          ·have h := h33
           rw [hdead] at h
           simp at h
          ·have g33 := h33
           try simp at g33
           refine step_g1 rfl h33 ?_
           refine step_r (v := (.agg [_, _, _, _, _, _, _, _])) rfl rfl (Nat.le_of_ble_eq_true rfl) ?_
           refine step_g1 rfl h33 ?_
           refine step_r (v := (.agg [_, _, _, _])) rfl rfl (Nat.le_of_ble_eq_true rfl) ?_
           refine step_g1 rfl h33 ?_
           refine step_callJ (Hin := [.row _ _ _]) (H' := [(0, .box [_, _, _, _, _, _, _, _]), (1, .row _ _ _), (2, .box [_, _, _, _]), (3, .row _ _ _), (4, .box [_, _, _, _, _, _, _, _, _, _]), (5, .row _ _ _), (6, .row _ _ _), (7, .box [_, _, _, _])]) (nx' := 8) [5] rfl rfl rfl rfl rfl rfl rfl rfl rfl (by (repeat' apply And.intro) <;> first | trivial | rfl | exact flat_len (fun _ => rfl) _ | exact encI_len _ | exact encB_len _ | exact encY_len _ | assumption) (rightB_ok f ((runB f z (⟨0, 0, 0, x, 100, 0, 0, (⟨0, 0⟩ : GPos), 0⟩ : GUnit) k).1)) rfl (by decide) rfl rfl trivial rfl rfl rfl rfl ?_
           refine step_g1 rfl h33 ?_
           refine step_r rfl rfl trivial ?_
           refine step_pickF rfl h33 rfl rfl ?_
           refine step_nil ?_
           unfold cutK
           exact ⟨(⟨[(1, .pv (.slc healths.length healths_f (encI healths))), (2, .ptr 0 0), (5, B true), (6, .ptr 2 0), (8, .ref 3 1 0 Cs.length), (9, I k), (10, .ptr 4 0), (11, .ptr 7 0), (12, .ref 6 5 0 (runB f z (⟨0, 0, 0, x, 100, 0, 0, (⟨0, 0⟩ : GPos), 0⟩ : GUnit) k).2.length), (13, B (turnedL ((runB f z ⟨0, 0, 0, x, 100, 0, 0, ⟨0, 0⟩, 0⟩ (k : Int)).2.take j))), (134, B false)], [(0, .box [I f.Id, I f.Health, I f.Hit, I f.Every, I f.Reach, .pv (.slc f.Script.length false (f.Script.flatMap encGLine)), .pv (.slc f.Hoard.length false (f.Hoard.flatMap encGPrize)), I f.Drops]), (1, .row 4 1 (encB z.Came)), (2, .box [I z.Phase, I z.Since, .ref 1 1 0 z.Came.length, I z.Rage]), (3, .row 3 1 (encI Cs)), (4, .box [I 0, I 0, I 0, I x, I 100, I 0, I 0, I 0, I 0, I 0]), (5, .row 4 1 (encB (runB f z (⟨0, 0, 0, x, 100, 0, 0, (⟨0, 0⟩ : GPos), 0⟩ : GUnit) k).1.Came)), (6, .row 40 5 ((runB f z (⟨0, 0, 0, x, 100, 0, 0, (⟨0, 0⟩ : GPos), 0⟩ : GUnit) k).2.flatMap encGLine)), (7, .box [I (runB f z (⟨0, 0, 0, x, 100, 0, 0, (⟨0, 0⟩ : GPos), 0⟩ : GUnit) k).1.Phase, I (runB f z (⟨0, 0, 0, x, 100, 0, 0, (⟨0, 0⟩ : GPos), 0⟩ : GUnit) k).1.Since, .ref 5 1 0 (runB f z (⟨0, 0, 0, x, 100, 0, 0, (⟨0, 0⟩ : GPos), 0⟩ : GUnit) k).1.Came.length, I (runB f z (⟨0, 0, 0, x, 100, 0, 0, (⟨0, 0⟩ : GPos), 0⟩ : GUnit) k).1.Rage])], 8, [], 238, 0⟩ : St), (less_of rfl ⟨⟨rfl, rfl⟩, ⟨rfl, rfl⟩, ⟨rfl, rfl⟩, ⟨rfl, rfl⟩, ⟨rfl, rfl⟩, ⟨rfl, rfl⟩, ⟨rfl, rfl⟩, ⟨rfl, rfl⟩, ⟨rfl, rfl⟩, ⟨rfl, rfl⟩, ⟨congrArg (fun b => some (B b)) (by simp [htl, hzl]), rfl⟩, trivial⟩ ⟨⟨rfl, rfl, rfl⟩, ⟨rfl, rfl, rfl⟩, ⟨rfl, rfl, rfl⟩, ⟨rfl, rfl, rfl⟩, ⟨rfl, rfl, rfl⟩, ⟨rfl, rfl, rfl⟩, ⟨rfl, rfl, rfl⟩, ⟨rfl, rfl, rfl⟩, trivial⟩ (fun _ _ => .inr (Nat.zero_le _))), rfl, rfl⟩
         ·have g31 := h31
          try simp at g31
          refine step_g0 rfl h31 rfl ?_
          refine step_g0 rfl h31 rfl ?_
          refine step_g0 rfl h31 rfl ?_
          refine step_g1 rfl h29 ?_
          refine step_pickF rfl h31 rfl rfl ?_
          refine step_pickF rfl h29 rfl rfl ?_
          refine step_r rfl rfl trivial ?_
          refine step_gt rfl ?_
          refine step_r (v := (.agg [_, _, _, _, _, _, _, _])) rfl rfl (Nat.le_of_ble_eq_true rfl) ?_
          refine step_gt rfl ?_
          refine step_r (v := (.agg [_, _, _, _])) rfl rfl (Nat.le_of_ble_eq_true rfl) ?_
          refine step_gt rfl ?_
          refine step_callJ (Hin := [.row _ _ _]) (H' := [(0, .box [_, _, _, _, _, _, _, _]), (1, .row _ _ _), (2, .box [_, _, _, _]), (3, .row _ _ _), (4, .box [_, _, _, _, _, _, _, _, _, _]), (5, .row _ _ _), (6, .row _ _ _), (7, .box [_, _, _, _])]) (nx' := 8) [5] rfl rfl rfl rfl rfl rfl rfl rfl rfl (by (repeat' apply And.intro) <;> first | trivial | rfl | exact flat_len (fun _ => rfl) _ | exact encI_len _ | exact encB_len _ | exact encY_len _ | assumption) (rightB_ok f ((runB f z (⟨0, 0, 0, x, 100, 0, 0, (⟨0, 0⟩ : GPos), 0⟩ : GUnit) k).1)) rfl (by decide) rfl rfl trivial rfl rfl rfl rfl ?_
          refine step_gt rfl ?_
          refine step_r rfl rfl trivial ?_
          refine step_r rfl rfl trivial ?_
          refine step_nil ?_
          unfold cutK
          exact ⟨(⟨[(1, .pv (.slc healths.length healths_f (encI healths))), (2, .ptr 0 0), (5, B true), (6, .ptr 2 0), (8, .ref 3 1 0 Cs.length), (9, I k), (10, .ptr 4 0), (11, .ptr 7 0), (12, .ref 6 5 0 (runB f z (⟨0, 0, 0, x, 100, 0, 0, (⟨0, 0⟩ : GPos), 0⟩ : GUnit) k).2.length), (13, B (turnedL ((runB f z ⟨0, 0, 0, x, 100, 0, 0, ⟨0, 0⟩, 0⟩ (k : Int)).2.take j))), (134, B false)], [(0, .box [I f.Id, I f.Health, I f.Hit, I f.Every, I f.Reach, .pv (.slc f.Script.length false (f.Script.flatMap encGLine)), .pv (.slc f.Hoard.length false (f.Hoard.flatMap encGPrize)), I f.Drops]), (1, .row 4 1 (encB z.Came)), (2, .box [I z.Phase, I z.Since, .ref 1 1 0 z.Came.length, I z.Rage]), (3, .row 3 1 (encI Cs)), (4, .box [I 0, I 0, I 0, I x, I 100, I 0, I 0, I 0, I 0, I 0]), (5, .row 4 1 (encB (runB f z (⟨0, 0, 0, x, 100, 0, 0, (⟨0, 0⟩ : GPos), 0⟩ : GUnit) k).1.Came)), (6, .row 40 5 ((runB f z (⟨0, 0, 0, x, 100, 0, 0, (⟨0, 0⟩ : GPos), 0⟩ : GUnit) k).2.flatMap encGLine)), (7, .box [I (runB f z (⟨0, 0, 0, x, 100, 0, 0, (⟨0, 0⟩ : GPos), 0⟩ : GUnit) k).1.Phase, I (runB f z (⟨0, 0, 0, x, 100, 0, 0, (⟨0, 0⟩ : GPos), 0⟩ : GUnit) k).1.Since, .ref 5 1 0 (runB f z (⟨0, 0, 0, x, 100, 0, 0, (⟨0, 0⟩ : GPos), 0⟩ : GUnit) k).1.Came.length, I (runB f z (⟨0, 0, 0, x, 100, 0, 0, (⟨0, 0⟩ : GPos), 0⟩ : GUnit) k).1.Rage])], 8, [], 238, 0⟩ : St), (less_of rfl ⟨⟨rfl, rfl⟩, ⟨rfl, rfl⟩, ⟨rfl, rfl⟩, ⟨rfl, rfl⟩, ⟨rfl, rfl⟩, ⟨rfl, rfl⟩, ⟨rfl, rfl⟩, ⟨rfl, rfl⟩, ⟨rfl, rfl⟩, ⟨rfl, rfl⟩, ⟨congrArg (fun b => some (B b)) (by simp [htl, hzl]), rfl⟩, trivial⟩ ⟨⟨rfl, rfl, rfl⟩, ⟨rfl, rfl, rfl⟩, ⟨rfl, rfl, rfl⟩, ⟨rfl, rfl, rfl⟩, ⟨rfl, rfl, rfl⟩, ⟨rfl, rfl, rfl⟩, ⟨rfl, rfl, rfl⟩, ⟨rfl, rfl, rfl⟩, trivial⟩ (fun _ _ => .inr (Nat.zero_le _))), rfl, rfl⟩
      ·have g25 := h25
       try simp at g25
       skip
       refine step_g0 rfl h25 rfl ?_
       refine step_g0 rfl h25 rfl ?_
       refine step_g0 rfl h25 rfl ?_
       refine step_g0 rfl h25 rfl ?_
       refine step_g0 rfl h25 rfl ?_
       refine step_g0 rfl h25 rfl ?_
       refine step_gf rfl rfl ?_
       refine step_gf rfl rfl ?_
       refine step_gf rfl rfl ?_
       refine step_gf rfl rfl ?_
       refine step_gf rfl rfl ?_
       refine step_g0 rfl h25 rfl ?_
       refine step_pickF rfl h25 rfl rfl ?_
       refine step_r rfl rfl trivial ?_
       refine step_gt rfl ?_
       refine step_r rfl rfl (by decide) ?_
       refine step_gt rfl ?_
       refine step_r rfl rfl trivial ?_
       refine step_gt rfl ?_
       refine step_bin rfl rfl rfl rfl rfl trivial ?_
       refine step_gt rfl ?_
       refine step_r rfl rfl trivial ?_
       refine step_gs rfl (fun h37 => ?_) (fun h37 => ?_)
       ·have g37 := h37
        try simp at g37
        have hdead := hT.dead (by show x < 1; simpa using h37)
        refine step_g1 rfl h37 ?_
        refine step_r rfl rfl trivial ?_
        refine step_g1 rfl h37 ?_
        refine step_r rfl rfl trivial ?_
        refine step_g1 rfl h37 ?_
        refine step_bin rfl rfl rfl rfl rfl trivial ?_
        refine step_gt rfl ?_
        refine step_pickT rfl h37 rfl rfl ?_
        refine step_r rfl rfl trivial ?_
        refine step_r rfl rfl trivial ?_
        refine step_gs rfl (fun h39 => ?_) (fun h39 => ?_)
        ·have h := h39
         rw [hdead] at h
         simp at h
        ·have g39 := h39
         try simp at g39
         refine step_g1 rfl h39 ?_
         refine step_r (v := (.agg [_, _, _, _, _, _, _, _])) rfl rfl (Nat.le_of_ble_eq_true rfl) ?_
         refine step_g1 rfl h39 ?_
         refine step_r (v := (.agg [_, _, _, _])) rfl rfl (Nat.le_of_ble_eq_true rfl) ?_
         refine step_g1 rfl h39 ?_
         refine step_callJ (Hin := [.row _ _ _]) (H' := [(0, .box [_, _, _, _, _, _, _, _]), (1, .row _ _ _), (2, .box [_, _, _, _]), (3, .row _ _ _), (4, .box [_, _, _, _, _, _, _, _, _, _]), (5, .row _ _ _), (6, .row _ _ _), (7, .box [_, _, _, _])]) (nx' := 8) [5] rfl rfl rfl rfl rfl rfl rfl rfl rfl (by (repeat' apply And.intro) <;> first | trivial | rfl | exact flat_len (fun _ => rfl) _ | exact encI_len _ | exact encB_len _ | exact encY_len _ | assumption) (rightB_ok f ((runB f z (⟨0, 0, 0, x, 100, 0, 0, (⟨0, 0⟩ : GPos), 0⟩ : GUnit) k).1)) rfl (by decide) rfl rfl trivial rfl rfl rfl rfl ?_
         refine step_g1 rfl h39 ?_
         refine step_r rfl rfl trivial ?_
         refine step_pickF rfl h39 rfl rfl ?_
         refine step_nil ?_
         unfold cutK
         exact ⟨(⟨[(1, .pv (.slc healths.length healths_f (encI healths))), (2, .ptr 0 0), (5, B true), (6, .ptr 2 0), (8, .ref 3 1 0 Cs.length), (9, I k), (10, .ptr 4 0), (11, .ptr 7 0), (12, .ref 6 5 0 (runB f z (⟨0, 0, 0, x, 100, 0, 0, (⟨0, 0⟩ : GPos), 0⟩ : GUnit) k).2.length), (13, B (turnedL ((runB f z ⟨0, 0, 0, x, 100, 0, 0, ⟨0, 0⟩, 0⟩ (k : Int)).2.take j))), (134, B false)], [(0, .box [I f.Id, I f.Health, I f.Hit, I f.Every, I f.Reach, .pv (.slc f.Script.length false (f.Script.flatMap encGLine)), .pv (.slc f.Hoard.length false (f.Hoard.flatMap encGPrize)), I f.Drops]), (1, .row 4 1 (encB z.Came)), (2, .box [I z.Phase, I z.Since, .ref 1 1 0 z.Came.length, I z.Rage]), (3, .row 3 1 (encI Cs)), (4, .box [I 0, I 0, I 0, I x, I 100, I 0, I 0, I 0, I 0, I 0]), (5, .row 4 1 (encB (runB f z (⟨0, 0, 0, x, 100, 0, 0, (⟨0, 0⟩ : GPos), 0⟩ : GUnit) k).1.Came)), (6, .row 40 5 ((runB f z (⟨0, 0, 0, x, 100, 0, 0, (⟨0, 0⟩ : GPos), 0⟩ : GUnit) k).2.flatMap encGLine)), (7, .box [I (runB f z (⟨0, 0, 0, x, 100, 0, 0, (⟨0, 0⟩ : GPos), 0⟩ : GUnit) k).1.Phase, I (runB f z (⟨0, 0, 0, x, 100, 0, 0, (⟨0, 0⟩ : GPos), 0⟩ : GUnit) k).1.Since, .ref 5 1 0 (runB f z (⟨0, 0, 0, x, 100, 0, 0, (⟨0, 0⟩ : GPos), 0⟩ : GUnit) k).1.Came.length, I (runB f z (⟨0, 0, 0, x, 100, 0, 0, (⟨0, 0⟩ : GPos), 0⟩ : GUnit) k).1.Rage])], 8, [], 238, 0⟩ : St), (less_of rfl ⟨⟨rfl, rfl⟩, ⟨rfl, rfl⟩, ⟨rfl, rfl⟩, ⟨rfl, rfl⟩, ⟨rfl, rfl⟩, ⟨rfl, rfl⟩, ⟨rfl, rfl⟩, ⟨rfl, rfl⟩, ⟨rfl, rfl⟩, ⟨rfl, rfl⟩, ⟨congrArg (fun b => some (B b)) (by simp [htl, hzl]), rfl⟩, trivial⟩ ⟨⟨rfl, rfl, rfl⟩, ⟨rfl, rfl, rfl⟩, ⟨rfl, rfl, rfl⟩, ⟨rfl, rfl, rfl⟩, ⟨rfl, rfl, rfl⟩, ⟨rfl, rfl, rfl⟩, ⟨rfl, rfl, rfl⟩, ⟨rfl, rfl, rfl⟩, trivial⟩ (fun _ _ => .inr (Nat.zero_le _))), rfl, rfl⟩
       ·have g37 := h37
        try simp at g37
        refine step_g0 rfl h37 rfl ?_
        refine step_g0 rfl h37 rfl ?_
        refine step_g0 rfl h37 rfl ?_
        refine step_gt rfl ?_
        refine step_pickF rfl h37 rfl rfl ?_
        refine step_r rfl rfl trivial ?_
        refine step_r rfl rfl trivial ?_
        refine step_gt rfl ?_
        refine step_r (v := (.agg [_, _, _, _, _, _, _, _])) rfl rfl (Nat.le_of_ble_eq_true rfl) ?_
        refine step_gt rfl ?_
        refine step_r (v := (.agg [_, _, _, _])) rfl rfl (Nat.le_of_ble_eq_true rfl) ?_
        refine step_gt rfl ?_
        refine step_callJ (Hin := [.row _ _ _]) (H' := [(0, .box [_, _, _, _, _, _, _, _]), (1, .row _ _ _), (2, .box [_, _, _, _]), (3, .row _ _ _), (4, .box [_, _, _, _, _, _, _, _, _, _]), (5, .row _ _ _), (6, .row _ _ _), (7, .box [_, _, _, _])]) (nx' := 8) [5] rfl rfl rfl rfl rfl rfl rfl rfl rfl (by (repeat' apply And.intro) <;> first | trivial | rfl | exact flat_len (fun _ => rfl) _ | exact encI_len _ | exact encB_len _ | exact encY_len _ | assumption) (rightB_ok f ((runB f z (⟨0, 0, 0, x, 100, 0, 0, (⟨0, 0⟩ : GPos), 0⟩ : GUnit) k).1)) rfl (by decide) rfl rfl trivial rfl rfl rfl rfl ?_
        refine step_gt rfl ?_
        refine step_r rfl rfl trivial ?_
        refine step_r rfl rfl trivial ?_
        refine step_nil ?_
        unfold cutK
        exact ⟨(⟨[(1, .pv (.slc healths.length healths_f (encI healths))), (2, .ptr 0 0), (5, B true), (6, .ptr 2 0), (8, .ref 3 1 0 Cs.length), (9, I k), (10, .ptr 4 0), (11, .ptr 7 0), (12, .ref 6 5 0 (runB f z (⟨0, 0, 0, x, 100, 0, 0, (⟨0, 0⟩ : GPos), 0⟩ : GUnit) k).2.length), (13, B (turnedL ((runB f z ⟨0, 0, 0, x, 100, 0, 0, ⟨0, 0⟩, 0⟩ (k : Int)).2.take j))), (134, B false)], [(0, .box [I f.Id, I f.Health, I f.Hit, I f.Every, I f.Reach, .pv (.slc f.Script.length false (f.Script.flatMap encGLine)), .pv (.slc f.Hoard.length false (f.Hoard.flatMap encGPrize)), I f.Drops]), (1, .row 4 1 (encB z.Came)), (2, .box [I z.Phase, I z.Since, .ref 1 1 0 z.Came.length, I z.Rage]), (3, .row 3 1 (encI Cs)), (4, .box [I 0, I 0, I 0, I x, I 100, I 0, I 0, I 0, I 0, I 0]), (5, .row 4 1 (encB (runB f z (⟨0, 0, 0, x, 100, 0, 0, (⟨0, 0⟩ : GPos), 0⟩ : GUnit) k).1.Came)), (6, .row 40 5 ((runB f z (⟨0, 0, 0, x, 100, 0, 0, (⟨0, 0⟩ : GPos), 0⟩ : GUnit) k).2.flatMap encGLine)), (7, .box [I (runB f z (⟨0, 0, 0, x, 100, 0, 0, (⟨0, 0⟩ : GPos), 0⟩ : GUnit) k).1.Phase, I (runB f z (⟨0, 0, 0, x, 100, 0, 0, (⟨0, 0⟩ : GPos), 0⟩ : GUnit) k).1.Since, .ref 5 1 0 (runB f z (⟨0, 0, 0, x, 100, 0, 0, (⟨0, 0⟩ : GPos), 0⟩ : GUnit) k).1.Came.length, I (runB f z (⟨0, 0, 0, x, 100, 0, 0, (⟨0, 0⟩ : GPos), 0⟩ : GUnit) k).1.Rage])], 8, [], 238, 0⟩ : St), (less_of rfl ⟨⟨rfl, rfl⟩, ⟨rfl, rfl⟩, ⟨rfl, rfl⟩, ⟨rfl, rfl⟩, ⟨rfl, rfl⟩, ⟨rfl, rfl⟩, ⟨rfl, rfl⟩, ⟨rfl, rfl⟩, ⟨rfl, rfl⟩, ⟨rfl, rfl⟩, ⟨congrArg (fun b => some (B b)) (by simp [htl, hzl]), rfl⟩, trivial⟩ ⟨⟨rfl, rfl, rfl⟩, ⟨rfl, rfl, rfl⟩, ⟨rfl, rfl, rfl⟩, ⟨rfl, rfl, rfl⟩, ⟨rfl, rfl, rfl⟩, ⟨rfl, rfl, rfl⟩, ⟨rfl, rfl, rfl⟩, ⟨rfl, rfl, rfl⟩, trivial⟩ (fun _ _ => .inr (Nat.zero_le _))), rfl, rfl⟩
     ·rintro e S ⟨rfl, rfl⟩
      refine seqK_n ?_
      refine sem_condF rfl ?_
      refine sem_skip ?_
      refine seqK_n ?_
      refine sem_seq ?_
      refine sem_region rfl ?_
      refine step_r rfl rfl trivial ?_
      refine step_nil ?_
      refine seqK_n ?_
      refine sem_seq ?_
      refine sem_seq ?_
      refine sem_region rfl ?_
      refine step_r rfl rfl trivial ?_
      refine step_nil ?_
      refine seqK_n ?_
      refine sem_block ?_
      refine sem_loop_of (fun a : Nat × Nat × List Int => match a with | (i_, p, Ds) => (⟨[(1, .pv (.slc healths.length healths_f (encI healths))), (2, .ptr 0 0), (5, B true), (6, .ptr 2 0), (8, .ref 3 1 0 Ds.length), (9, I k), (10, .ptr 4 0), (11, .ptr 7 0), (12, .ref 6 5 0 (runB f z (⟨0, 0, 0, x, 100, 0, 0, (⟨0, 0⟩ : GPos), 0⟩ : GUnit) k).2.length), (13, B (turnedL ((runB f z ⟨0, 0, 0, x, 100, 0, 0, ⟨0, 0⟩, 0⟩ (k : Int)).2.take j))), (15, I p), (16, I i_)], [(0, .box [I f.Id, I f.Health, I f.Hit, I f.Every, I f.Reach, .pv (.slc f.Script.length false (f.Script.flatMap encGLine)), .pv (.slc f.Hoard.length false (f.Hoard.flatMap encGPrize)), I f.Drops]), (1, .row 4 1 (encB z.Came)), (2, .box [I z.Phase, I z.Since, .ref 1 1 0 z.Came.length, I z.Rage]), (3, .row 3 1 (encI Ds)), (4, .box [I 0, I 0, I 0, I x, I 100, I 0, I 0, I 0, I 0, I 0]), (5, .row 4 1 (encB (runB f z (⟨0, 0, 0, x, 100, 0, 0, (⟨0, 0⟩ : GPos), 0⟩ : GUnit) k).1.Came)), (6, .row 40 5 ((runB f z (⟨0, 0, 0, x, 100, 0, 0, (⟨0, 0⟩ : GPos), 0⟩ : GUnit) k).2.flatMap encGLine)), (7, .box [I (runB f z (⟨0, 0, 0, x, 100, 0, 0, (⟨0, 0⟩ : GPos), 0⟩ : GUnit) k).1.Phase, I (runB f z (⟨0, 0, 0, x, 100, 0, 0, (⟨0, 0⟩ : GPos), 0⟩ : GUnit) k).1.Since, .ref 5 1 0 (runB f z (⟨0, 0, 0, x, 100, 0, 0, (⟨0, 0⟩ : GPos), 0⟩ : GUnit) k).1.Came.length, I (runB f z (⟨0, 0, 0, x, 100, 0, 0, (⟨0, 0⟩ : GPos), 0⟩ : GUnit) k).1.Rage])], 8, [], 238, 0⟩ : St)) (fun a : Nat × Nat × List Int => match a with | (i_, p, Ds) => i_ ≤ f.Script.length ∧ Mid f z ⟨0, 0, 0, x, 100, 0, 0, ⟨0, 0⟩, 0⟩ (k : Int) (runB f z ⟨0, 0, 0, x, 100, 0, 0, ⟨0, 0⟩, 0⟩ (k : Int)).2 (fireB f z ⟨0, 0, 0, x, 100, 0, 0, ⟨0, 0⟩, 0⟩ (k : Int)).2.1 i_ p ∧ Ds.length = f.Script.length ∧ Bnd f z (runB f z ⟨0, 0, 0, x, 100, 0, 0, ⟨0, 0⟩, 0⟩ (k : Int)).1 i_ Ds) (fun a : Nat × Nat × List Int => match a with | (i_, p, Ds) => f.Script.length - i_) (0, 0, Cs) (⟨Nat.zero_le _, hfe ▸ mid_0, hCs, bnd_first hB0⟩) (less_of rfl ⟨⟨rfl, rfl⟩, ⟨rfl, rfl⟩, ⟨rfl, rfl⟩, ⟨rfl, rfl⟩, ⟨rfl, rfl⟩, ⟨rfl, rfl⟩, ⟨rfl, rfl⟩, ⟨rfl, rfl⟩, ⟨rfl, rfl⟩, ⟨rfl, rfl⟩, ⟨rfl, rfl⟩, ⟨rfl, rfl⟩, trivial⟩ ⟨⟨rfl, rfl, rfl⟩, ⟨rfl, rfl, rfl⟩, ⟨rfl, rfl, rfl⟩, ⟨rfl, rfl, rfl⟩, ⟨rfl, rfl, rfl⟩, ⟨rfl, rfl, rfl⟩, ⟨rfl, rfl, rfl⟩, ⟨rfl, rfl, rfl⟩, trivial⟩ (fun _ _ => .inr (Nat.zero_le _))) (fun a hI => ?_)
      obtain ⟨i_, p, Ds⟩ := a
      show Walks Try.prog _ _ (⟨[(1, .pv (.slc healths.length healths_f (encI healths))), (2, .ptr 0 0), (5, B true), (6, .ptr 2 0), (8, .ref 3 1 0 Ds.length), (9, I k), (10, .ptr 4 0), (11, .ptr 7 0), (12, .ref 6 5 0 (runB f z (⟨0, 0, 0, x, 100, 0, 0, (⟨0, 0⟩ : GPos), 0⟩ : GUnit) k).2.length), (13, B (turnedL ((runB f z ⟨0, 0, 0, x, 100, 0, 0, ⟨0, 0⟩, 0⟩ (k : Int)).2.take j))), (15, I p), (16, I i_)], [(0, .box [I f.Id, I f.Health, I f.Hit, I f.Every, I f.Reach, .pv (.slc f.Script.length false (f.Script.flatMap encGLine)), .pv (.slc f.Hoard.length false (f.Hoard.flatMap encGPrize)), I f.Drops]), (1, .row 4 1 (encB z.Came)), (2, .box [I z.Phase, I z.Since, .ref 1 1 0 z.Came.length, I z.Rage]), (3, .row 3 1 (encI Ds)), (4, .box [I 0, I 0, I 0, I x, I 100, I 0, I 0, I 0, I 0, I 0]), (5, .row 4 1 (encB (runB f z (⟨0, 0, 0, x, 100, 0, 0, (⟨0, 0⟩ : GPos), 0⟩ : GUnit) k).1.Came)), (6, .row 40 5 ((runB f z (⟨0, 0, 0, x, 100, 0, 0, (⟨0, 0⟩ : GPos), 0⟩ : GUnit) k).2.flatMap encGLine)), (7, .box [I (runB f z (⟨0, 0, 0, x, 100, 0, 0, (⟨0, 0⟩ : GPos), 0⟩ : GUnit) k).1.Phase, I (runB f z (⟨0, 0, 0, x, 100, 0, 0, (⟨0, 0⟩ : GPos), 0⟩ : GUnit) k).1.Since, .ref 5 1 0 (runB f z (⟨0, 0, 0, x, 100, 0, 0, (⟨0, 0⟩ : GPos), 0⟩ : GUnit) k).1.Came.length, I (runB f z (⟨0, 0, 0, x, 100, 0, 0, (⟨0, 0⟩ : GPos), 0⟩ : GUnit) k).1.Rage])], 8, [], 238, 0⟩ : St)
      refine sem_seq ?_
      refine sem_seq ?_
      refine sem_region rfl ?_
      refine step_r rfl rfl trivial ?_
      refine step_r rfl rfl (by decide) ?_
      refine step_r rfl rfl trivial ?_
      refine step_r rfl rfl trivial ?_
      refine step_bin rfl rfl rfl rfl rfl trivial ?_
      refine step_nil ?_
      refine seqK_n ?_
      refine sem_cond rfl (fun h43 => ?_) (fun h43 => ?_)
      ·obtain ⟨j1, hM, hDs, hBd⟩ := hI
       have hi : i_ < f.Script.length := by have h := h43; simp at h; omega
       obtain ⟨ln, hln⟩ : ∃ z_, f.Script[i_]? = some z_ := ⟨_, List.getElem?_eq_getElem hi⟩
       have hi2 : i_ < Ds.length := by omega
       have hiz : i_ < z.Came.length := by omega
       obtain ⟨cc, hcc⟩ : ∃ z_, Ds[i_]? = some z_ := ⟨_, List.getElem?_eq_getElem hi2⟩
       obtain ⟨c0, hc0⟩ : ∃ z_, z.Came[i_]? = some z_ := ⟨_, List.getElem?_eq_getElem hiz⟩
       obtain ⟨bb, hbb, hbe⟩ : ∃ b_, (runB f z ⟨0, 0, 0, x, 100, 0, 0, ⟨0, 0⟩, 0⟩ (k : Int)).1.Came[i_]? = some b_ ∧ b_ = _ := ⟨_, hT.came i_ ln c0 hln hc0, rfl⟩
       have hcb := fun hw => hBd i_ ln cc c0 hln hcc hw (by rw [if_neg (Nat.lt_irrefl _)]; exact hc0)
       have hwd := waits_due (u := ⟨0, 0, 0, x, 100, 0, 0, ⟨0, 0⟩, 0⟩) (now := (k : Int)) hzl hln hc0
       have hpL := hM.1
       refine sem_skip ?_
       refine seqK_n ?_
       refine sem_seq ?_
       refine sem_block ?_
       refine sem_seq ?_
       refine sem_seq ?_
       refine sem_drawn rfl (by decide +kernel) rfl ?_
       refine step_r rfl rfl trivial ?_
       refine step_r rfl rfl trivial ?_
       refine step_r rfl rfl trivial ?_
       refine step_bin rfl rfl rfl rfl rfl trivial ?_
       refine step_r rfl rfl trivial ?_
       refine step_gs rfl (fun h46 => ?_) (fun h46 => ?_)
       ·have g46 := h46
        try simp at g46
        have hp : p < (runB f z ⟨0, 0, 0, x, 100, 0, 0, ⟨0, 0⟩, 0⟩ (k : Int)).2.length := by simpa using h46
        obtain ⟨y, hy⟩ : ∃ z_, (runB f z ⟨0, 0, 0, x, 100, 0, 0, ⟨0, 0⟩, 0⟩ (k : Int)).2[p]? = some z_ := ⟨_, List.getElem?_eq_getElem hp⟩
        refine step_g1 rfl h46 ?_
        refine step_r rfl rfl (by decide) ?_
        refine step_g1 rfl h46 ?_
        refine step_r rfl rfl trivial ?_
        refine step_g1 rfl h46 ?_
        refine step_r rfl rfl trivial ?_
        refine step_g1 rfl h46 ?_
        refine step_idxS (k := i_) rfl rfl rfl rfl hi (flat_ne (s := 5) (enc := encGLine) (fun _ => rfl) (by decide) hi) rfl ?_
        refine step_g1 rfl h46 ?_
        refine step_load_row rfl rfl rfl (flat_lt (s := 5) (enc := encGLine) (fun _ => rfl) hi) (flat_take (s := 5) (enc := encGLine) (fun _ => rfl) hln) rfl ?_
        refine step_g1 rfl h46 ?_
        refine step_r rfl rfl trivial ?_
        refine step_g1 rfl h46 ?_
        refine step_r rfl rfl trivial ?_
        refine step_g1 rfl h46 ?_
        refine step_idxR (k := p) rfl rfl rfl rfl hp rfl ?_
        refine step_g1 rfl h46 ?_
        refine step_load_rowR rfl rfl rfl rfl (flat_lt (s := 5) (enc := encGLine) (fun _ => rfl) hp) (flat_take (s := 5) (enc := encGLine) (fun _ => rfl) hy) rfl ?_
        refine step_g1 rfl h46 ?_
        refine step_eqlA rfl rfl rfl (by kernel_rfl) rfl rfl rfl rfl rfl ?_
        refine step_pickT rfl h46 rfl rfl ?_
        refine step_r rfl rfl trivial ?_
        refine step_gs rfl (fun h48 => ?_) (fun h48 => ?_)
        ·have g48 := h48
         try simp at g48
         have hly : ln = y := by have h := h48; simp at h; exact line_eq h.1 h.2.1 h.2.2.1 h.2.2.2.1 h.2.2.2.2
         refine step_g1 rfl h48 ?_
         refine step_r (v := (.agg [_, _, _, _, _, _, _, _])) rfl rfl (Nat.le_of_ble_eq_true rfl) ?_
         refine step_g1 rfl h48 ?_
         refine step_r (v := (.agg [_, _, _, _])) rfl rfl (Nat.le_of_ble_eq_true rfl) ?_
         refine step_g1 rfl h48 ?_
         refine step_r (v := (.agg [_, _, _, _, _, _, _, _, _, _])) rfl rfl (Nat.le_of_ble_eq_true rfl) ?_
         refine step_g1 rfl h48 ?_
         refine step_r rfl rfl trivial ?_
         refine step_g1 rfl h48 ?_
         refine step_r rfl rfl trivial ?_
         refine step_g1 rfl h48 ?_
         refine step_callJ (Hin := [.row _ _ _]) (H' := [(0, .box [_, _, _, _, _, _, _, _]), (1, .row _ _ _), (2, .box [_, _, _, _]), (3, .row _ _ _), (4, .box [_, _, _, _, _, _, _, _, _, _]), (5, .row _ _ _), (6, .row _ _ _), (7, .box [_, _, _, _])]) (nx' := 8) [1] rfl rfl rfl rfl rfl rfl rfl rfl rfl (by (repeat' apply And.intro) <;> first | trivial | rfl | exact flat_len (fun _ => rfl) _ | exact encI_len _ | exact encB_len _ | exact encY_len _ | assumption) (waits_ok f z (⟨0, 0, 0, x, 100, 0, 0, (⟨0, 0⟩ : GPos), 0⟩ : GUnit) i_ k) rfl (by decide) rfl rfl trivial rfl rfl rfl rfl ?_
         refine step_g1 rfl h48 ?_
         refine step_r rfl rfl trivial ?_
         refine step_pickT rfl h48 rfl rfl ?_
         refine step_nil ?_
         refine seqK_n ?_
         refine sem_cond rfl (fun h51 => ?_) (fun h51 => ?_)
         ·have g51 := h51
          try simp at g51
          have hdu : dueB ln z c0 ⟨0, 0, 0, x, 100, 0, 0, ⟨0, 0⟩, 0⟩ (k : Int) = true := by have h := h51; rw [hwd] at h; simpa using h
          obtain ⟨hM2, hF⟩ := mid_yes hM hln hc0 hp hdu
          have hcl := due_came hdu
          refine sem_seq ?_
          refine sem_region rfl ?_
          refine step_r rfl rfl trivial ?_
          refine step_bin rfl rfl rfl rfl rfl trivial ?_
          refine step_r rfl rfl trivial ?_
          refine step_nil ?_
          refine seqK_n ?_
          refine sem_region rfl ?_
          refine step_r rfl rfl trivial ?_
          refine step_r rfl rfl trivial ?_
          refine step_idxR (k := i_) rfl rfl rfl rfl hi2 rfl ?_
          refine step_load_oneR rfl rfl rfl rfl (encI_get hcc) rfl ?_
          refine step_bin rfl rfl rfl rfl rfl trivial ?_
          refine step_idxR (k := i_) rfl rfl rfl rfl hi2 rfl ?_
          refine step_storeR rfl rfl rfl rfl (by have := hi2; simp [encI]; omega) (encI_set Ds i_ (IntKind.i64.wrap (cc + 1))) (.inl rfl) rfl ?_
          refine step_nil ?_
          refine seqK_n ?_
          refine sem_seq ?_
          refine sem_seq ?_
          refine sem_drawn rfl (by decide +kernel) rfl ?_
          refine step_r rfl rfl trivial ?_
          refine step_r rfl rfl trivial ?_
          refine step_gs rfl (fun h54 => ?_) (fun h54 => ?_)
          ·have g54 := h54
           try simp at g54
           have hT1 : (fireB f z ⟨0, 0, 0, x, 100, 0, 0, ⟨0, 0⟩, 0⟩ (k : Int)).2.2 = true := by rw [← htu]; exact h54
           refine step_g1 rfl h54 ?_
           refine step_r rfl rfl (by decide) ?_
           refine step_g1 rfl h54 ?_
           refine step_r rfl rfl trivial ?_
           refine step_g1 rfl h54 ?_
           refine step_r rfl rfl trivial ?_
           refine step_g1 rfl h54 ?_
           refine step_idxS (k := i_) rfl rfl rfl rfl hi (flat_ne (s := 5) (enc := encGLine) (fun _ => rfl) (by decide) hi) rfl ?_
           refine step_g1 rfl h54 ?_
           refine step_r rfl rfl (by decide) ?_
           refine step_g1 rfl h54 ?_
           refine step_load_one rfl rfl rfl (flat_get (s := 5) (enc := encGLine) (fun _ => rfl) hln (o := 0) rfl (by decide)) rfl ?_
           refine step_g1 rfl h54 ?_
           refine step_r rfl rfl (by decide) ?_
           refine step_g1 rfl h54 ?_
           refine step_r rfl rfl trivial ?_
           refine step_g1 rfl h54 ?_
           refine step_bin rfl rfl rfl rfl rfl trivial ?_
           refine step_pickT rfl h54 rfl rfl ?_
           refine step_nil ?_
           refine seqK_n ?_
           refine sem_cond rfl (fun h56 => ?_) (fun h56 => ?_)
           ·have g56 := h56
            try simp at g56
            have hv : ln.When ≠ 2 → 0 ≤ (0 : Int) ∧ (0 : Int) ≤ if bb = true then 1 else 0 := fun _ => ⟨by decide, by split <;> decide⟩
            refine sem_region rfl ?_
            refine step_r rfl rfl trivial ?_
            refine step_r rfl rfl trivial ?_
            refine step_idxR (k := i_) rfl rfl rfl rfl hi2 rfl ?_
            refine step_storeR rfl rfl rfl rfl (by have := hi2; simp [encI]; omega) (encI_set (Ds.set i_ (IntKind.i64.wrap (cc + 1))) i_ 0) (.inl rfl) rfl ?_
            refine step_nil ?_
            refine seqK_n ?_
            refine sem_seq ?_
            refine sem_region rfl ?_
            refine step_r rfl rfl (by decide) ?_
            refine step_r rfl rfl trivial ?_
            refine step_r rfl rfl trivial ?_
            refine step_idxS (k := i_) rfl rfl rfl rfl hi (flat_ne (s := 5) (enc := encGLine) (fun _ => rfl) (by decide) hi) rfl ?_
            refine step_r rfl rfl (by decide) ?_
            refine step_load_one rfl rfl rfl (flat_get (s := 5) (enc := encGLine) (fun _ => rfl) hln (o := 1) rfl (by decide)) rfl ?_
            refine step_bin rfl rfl rfl rfl rfl trivial ?_
            refine step_r rfl rfl trivial ?_
            refine step_gs rfl (fun h58 => ?_) (fun h58 => ?_)
            ·have g58 := h58
             try simp at g58
             have hwn : ln.When ≠ 2 := by simpa using h58
             refine step_g1 rfl h58 ?_
             refine step_r rfl rfl trivial ?_
             refine step_g1 rfl h58 ?_
             refine step_r rfl rfl trivial ?_
             refine step_g1 rfl h58 ?_
             refine step_idxR (k := i_) rfl rfl rfl rfl hi2 rfl ?_
             refine step_g1 rfl h58 ?_
             refine step_load_oneR rfl rfl rfl rfl (encI_get (List.getElem?_set_self (by first | exact hi2 | (rw [List.length_set]; exact hi2)))) rfl ?_
             refine step_g1 rfl h58 ?_
             refine step_bin rfl rfl rfl rfl rfl trivial ?_
             refine step_pickT rfl h58 rfl rfl ?_
             refine step_nil ?_
             refine seqK_n ?_
             refine sem_cond rfl (fun h60 => ?_) (fun h60 => ?_)
             ·have h := of_decide_eq_true h60
              have h2 := hv hwn
              cases bb <;> simp at h2 <;> omega
             ·have g60 := h60
              try simp at g60
              refine sem_skip ?_
              refine blkK_n ?_
              refine seqK_n ?_
              refine sem_region rfl ?_
              refine step_r rfl rfl trivial ?_
              refine step_bin rfl rfl rfl rfl rfl trivial ?_
              refine step_r rfl rfl trivial ?_
              refine step_nil ?_
              exact lup_again (i_+1, p+1, ((Ds.set i_ (IntKind.i64.wrap (cc + 1))).set i_ 0)) (⟨hi, hM2, by simp [hDs], by have h := bnd_step hBd hln hbb hv; rwa [List.set_set]⟩) (by show f.Script.length - (i_ + 1) < f.Script.length - i_; omega) (less_of rfl ⟨⟨rfl, rfl⟩, ⟨rfl, rfl⟩, ⟨rfl, rfl⟩, ⟨rfl, rfl⟩, ⟨congrArg (fun n => some (AV.ref 3 1 0 n)) (by simp), rfl⟩, ⟨rfl, rfl⟩, ⟨rfl, rfl⟩, ⟨rfl, rfl⟩, ⟨rfl, rfl⟩, ⟨rfl, rfl⟩, ⟨congrArg (fun n => some (I n)) (wrapK hp (by unfold maxLen; omega)), rfl⟩, ⟨congrArg (fun n => some (I n)) (wrapK hi (by unfold maxLen; omega)), rfl⟩, trivial⟩ ⟨⟨rfl, rfl, rfl⟩, ⟨rfl, rfl, rfl⟩, ⟨rfl, rfl, rfl⟩, ⟨rfl, rfl, rfl⟩, ⟨rfl, rfl, rfl⟩, ⟨rfl, rfl, rfl⟩, ⟨rfl, rfl, rfl⟩, ⟨rfl, rfl, rfl⟩, trivial⟩ (fun _ _ => .inr (Nat.zero_le _)))
            ·have g58 := h58
             try simp at g58
             refine step_g0 rfl h58 rfl ?_
             refine step_g0 rfl h58 rfl ?_
             refine step_g0 rfl h58 rfl ?_
             refine step_g0 rfl h58 rfl ?_
             refine step_g0 rfl h58 rfl ?_
             refine step_pickF rfl h58 rfl rfl ?_
             refine step_nil ?_
             refine seqK_n ?_
             refine sem_condF rfl ?_
             refine sem_skip ?_
             refine blkK_n ?_
             refine seqK_n ?_
             refine sem_region rfl ?_
             refine step_r rfl rfl trivial ?_
             refine step_bin rfl rfl rfl rfl rfl trivial ?_
             refine step_r rfl rfl trivial ?_
             refine step_nil ?_
             exact lup_again (i_+1, p+1, ((Ds.set i_ (IntKind.i64.wrap (cc + 1))).set i_ 0)) (⟨hi, hM2, by simp [hDs], by have h := bnd_step hBd hln hbb hv; rwa [List.set_set]⟩) (by show f.Script.length - (i_ + 1) < f.Script.length - i_; omega) (less_of rfl ⟨⟨rfl, rfl⟩, ⟨rfl, rfl⟩, ⟨rfl, rfl⟩, ⟨rfl, rfl⟩, ⟨congrArg (fun n => some (AV.ref 3 1 0 n)) (by simp), rfl⟩, ⟨rfl, rfl⟩, ⟨rfl, rfl⟩, ⟨rfl, rfl⟩, ⟨rfl, rfl⟩, ⟨rfl, rfl⟩, ⟨congrArg (fun n => some (I n)) (wrapK hp (by unfold maxLen; omega)), rfl⟩, ⟨congrArg (fun n => some (I n)) (wrapK hi (by unfold maxLen; omega)), rfl⟩, trivial⟩ ⟨⟨rfl, rfl, rfl⟩, ⟨rfl, rfl, rfl⟩, ⟨rfl, rfl, rfl⟩, ⟨rfl, rfl, rfl⟩, ⟨rfl, rfl, rfl⟩, ⟨rfl, rfl, rfl⟩, ⟨rfl, rfl, rfl⟩, ⟨rfl, rfl, rfl⟩, trivial⟩ (fun _ _ => .inr (Nat.zero_le _)))
           ·have g56 := h56
            try simp at g56
            have hnp : ¬ ln.Phase = (runB f z ⟨0, 0, 0, x, 100, 0, 0, ⟨0, 0⟩, 0⟩ (k : Int)).1.Phase := by have h := h56; simpa using h
            have hv : ln.When ≠ 2 → 0 ≤ (IntKind.i64.wrap (cc + 1) : Int) ∧ (IntKind.i64.wrap (cc + 1) : Int) ≤ if bb = true then 1 else 0 := fun hw => by
             have h0 := hcb hw
             have h1 := hcl hw
             have hb2 := hbe
             rw [if_neg (fun e => hnp e.2), hF, h1, show (ln.When != 2) = true from by simpa using hw] at hb2
             rw [hb2]
             rw [h1] at h0
             exact val_yes h0
            refine sem_skip ?_
            refine seqK_n ?_
            refine sem_seq ?_
            refine sem_region rfl ?_
            refine step_r rfl rfl (by decide) ?_
            refine step_r rfl rfl trivial ?_
            refine step_r rfl rfl trivial ?_
            refine step_idxS (k := i_) rfl rfl rfl rfl hi (flat_ne (s := 5) (enc := encGLine) (fun _ => rfl) (by decide) hi) rfl ?_
            refine step_r rfl rfl (by decide) ?_
            refine step_load_one rfl rfl rfl (flat_get (s := 5) (enc := encGLine) (fun _ => rfl) hln (o := 1) rfl (by decide)) rfl ?_
            refine step_bin rfl rfl rfl rfl rfl trivial ?_
            refine step_r rfl rfl trivial ?_
            refine step_gs rfl (fun h64 => ?_) (fun h64 => ?_)
            ·have g64 := h64
             try simp at g64
             have hwn : ln.When ≠ 2 := by simpa using h64
             refine step_g1 rfl h64 ?_
             refine step_r rfl rfl trivial ?_
             refine step_g1 rfl h64 ?_
             refine step_r rfl rfl trivial ?_
             refine step_g1 rfl h64 ?_
             refine step_idxR (k := i_) rfl rfl rfl rfl hi2 rfl ?_
             refine step_g1 rfl h64 ?_
             refine step_load_oneR rfl rfl rfl rfl (encI_get (List.getElem?_set_self hi2)) rfl ?_
             refine step_g1 rfl h64 ?_
             refine step_bin rfl rfl rfl rfl rfl trivial ?_
             refine step_pickT rfl h64 rfl rfl ?_
             refine step_nil ?_
             refine seqK_n ?_
             refine sem_cond rfl (fun h66 => ?_) (fun h66 => ?_)
             ·have h := of_decide_eq_true h66
              have h2 := hv hwn
              cases bb <;> simp at h2 <;> omega
             ·have g66 := h66
              try simp at g66
              refine sem_skip ?_
              refine blkK_n ?_
              refine seqK_n ?_
              refine sem_region rfl ?_
              refine step_r rfl rfl trivial ?_
              refine step_bin rfl rfl rfl rfl rfl trivial ?_
              refine step_r rfl rfl trivial ?_
              refine step_nil ?_
              exact lup_again (i_+1, p+1, (Ds.set i_ (IntKind.i64.wrap (cc + 1)))) (⟨hi, hM2, by simp [hDs], bnd_step hBd hln hbb hv⟩) (by show f.Script.length - (i_ + 1) < f.Script.length - i_; omega) (less_of rfl ⟨⟨rfl, rfl⟩, ⟨rfl, rfl⟩, ⟨rfl, rfl⟩, ⟨rfl, rfl⟩, ⟨congrArg (fun n => some (AV.ref 3 1 0 n)) (by simp), rfl⟩, ⟨rfl, rfl⟩, ⟨rfl, rfl⟩, ⟨rfl, rfl⟩, ⟨rfl, rfl⟩, ⟨rfl, rfl⟩, ⟨congrArg (fun n => some (I n)) (wrapK hp (by unfold maxLen; omega)), rfl⟩, ⟨congrArg (fun n => some (I n)) (wrapK hi (by unfold maxLen; omega)), rfl⟩, trivial⟩ ⟨⟨rfl, rfl, rfl⟩, ⟨rfl, rfl, rfl⟩, ⟨rfl, rfl, rfl⟩, ⟨rfl, rfl, rfl⟩, ⟨rfl, rfl, rfl⟩, ⟨rfl, rfl, rfl⟩, ⟨rfl, rfl, rfl⟩, ⟨rfl, rfl, rfl⟩, trivial⟩ (fun _ _ => .inr (Nat.zero_le _)))
            ·have g64 := h64
             try simp at g64
             refine step_g0 rfl h64 rfl ?_
             refine step_g0 rfl h64 rfl ?_
             refine step_g0 rfl h64 rfl ?_
             refine step_g0 rfl h64 rfl ?_
             refine step_g0 rfl h64 rfl ?_
             refine step_pickF rfl h64 rfl rfl ?_
             refine step_nil ?_
             refine seqK_n ?_
             refine sem_condF rfl ?_
             refine sem_skip ?_
             refine blkK_n ?_
             refine seqK_n ?_
             refine sem_region rfl ?_
             refine step_r rfl rfl trivial ?_
             refine step_bin rfl rfl rfl rfl rfl trivial ?_
             refine step_r rfl rfl trivial ?_
             refine step_nil ?_
             exact lup_again (i_+1, p+1, (Ds.set i_ (IntKind.i64.wrap (cc + 1)))) (⟨hi, hM2, by simp [hDs], bnd_step hBd hln hbb hv⟩) (by show f.Script.length - (i_ + 1) < f.Script.length - i_; omega) (less_of rfl ⟨⟨rfl, rfl⟩, ⟨rfl, rfl⟩, ⟨rfl, rfl⟩, ⟨rfl, rfl⟩, ⟨congrArg (fun n => some (AV.ref 3 1 0 n)) (by simp), rfl⟩, ⟨rfl, rfl⟩, ⟨rfl, rfl⟩, ⟨rfl, rfl⟩, ⟨rfl, rfl⟩, ⟨rfl, rfl⟩, ⟨congrArg (fun n => some (I n)) (wrapK hp (by unfold maxLen; omega)), rfl⟩, ⟨congrArg (fun n => some (I n)) (wrapK hi (by unfold maxLen; omega)), rfl⟩, trivial⟩ ⟨⟨rfl, rfl, rfl⟩, ⟨rfl, rfl, rfl⟩, ⟨rfl, rfl, rfl⟩, ⟨rfl, rfl, rfl⟩, ⟨rfl, rfl, rfl⟩, ⟨rfl, rfl, rfl⟩, ⟨rfl, rfl, rfl⟩, ⟨rfl, rfl, rfl⟩, trivial⟩ (fun _ _ => .inr (Nat.zero_le _)))
          ·have g54 := h54
           try simp at g54
           have hT1 : (fireB f z ⟨0, 0, 0, x, 100, 0, 0, ⟨0, 0⟩, 0⟩ (k : Int)).2.2 = false := by rw [← htu]; exact h54
           have hv : ln.When ≠ 2 → 0 ≤ (IntKind.i64.wrap (cc + 1) : Int) ∧ (IntKind.i64.wrap (cc + 1) : Int) ≤ if bb = true then 1 else 0 := fun hw => by
            have h0 := hcb hw
            have h1 := hcl hw
            have hb2 := hbe
            rw [if_neg (fun e => by rw [hT1] at e; cases e.1), hF, h1, show (ln.When != 2) = true from by simpa using hw] at hb2
            rw [hb2]
            rw [h1] at h0
            exact val_yes h0
           refine step_g0 rfl h54 rfl ?_
           refine step_g0 rfl h54 rfl ?_
           refine step_g0 rfl h54 rfl ?_
           refine step_g0 rfl h54 rfl ?_
           refine step_g0 rfl h54 rfl ?_
           refine step_g0 rfl h54 rfl ?_
           refine step_g0 rfl h54 rfl ?_
           refine step_g0 rfl h54 rfl ?_
           refine step_g0 rfl h54 rfl ?_
           refine step_pickF rfl h54 rfl rfl ?_
           refine step_nil ?_
           refine seqK_n ?_
           refine sem_condF rfl ?_
           refine sem_skip ?_
           refine seqK_n ?_
           refine sem_seq ?_
           refine sem_region rfl ?_
           refine step_r rfl rfl (by decide) ?_
           refine step_r rfl rfl trivial ?_
           refine step_r rfl rfl trivial ?_
           refine step_idxS (k := i_) rfl rfl rfl rfl hi (flat_ne (s := 5) (enc := encGLine) (fun _ => rfl) (by decide) hi) rfl ?_
           refine step_r rfl rfl (by decide) ?_
           refine step_load_one rfl rfl rfl (flat_get (s := 5) (enc := encGLine) (fun _ => rfl) hln (o := 1) rfl (by decide)) rfl ?_
           refine step_bin rfl rfl rfl rfl rfl trivial ?_
           refine step_r rfl rfl trivial ?_
           refine step_gs rfl (fun h70 => ?_) (fun h70 => ?_)
           ·have g70 := h70
            try simp at g70
            have hwn : ln.When ≠ 2 := by simpa using h70
            refine step_g1 rfl h70 ?_
            refine step_r rfl rfl trivial ?_
            refine step_g1 rfl h70 ?_
            refine step_r rfl rfl trivial ?_
            refine step_g1 rfl h70 ?_
            refine step_idxR (k := i_) rfl rfl rfl rfl hi2 rfl ?_
            refine step_g1 rfl h70 ?_
            refine step_load_oneR rfl rfl rfl rfl (encI_get (List.getElem?_set_self hi2)) rfl ?_
            refine step_g1 rfl h70 ?_
            refine step_bin rfl rfl rfl rfl rfl trivial ?_
            refine step_pickT rfl h70 rfl rfl ?_
            refine step_nil ?_
            refine seqK_n ?_
            refine sem_cond rfl (fun h72 => ?_) (fun h72 => ?_)
            ·have h := of_decide_eq_true h72
             have h2 := hv hwn
             cases bb <;> simp at h2 <;> omega
            ·have g72 := h72
             try simp at g72
             refine sem_skip ?_
             refine blkK_n ?_
             refine seqK_n ?_
             refine sem_region rfl ?_
             refine step_r rfl rfl trivial ?_
             refine step_bin rfl rfl rfl rfl rfl trivial ?_
             refine step_r rfl rfl trivial ?_
             refine step_nil ?_
             exact lup_again (i_+1, p+1, (Ds.set i_ (IntKind.i64.wrap (cc + 1)))) (⟨hi, hM2, by simp [hDs], bnd_step hBd hln hbb hv⟩) (by show f.Script.length - (i_ + 1) < f.Script.length - i_; omega) (less_of rfl ⟨⟨rfl, rfl⟩, ⟨rfl, rfl⟩, ⟨rfl, rfl⟩, ⟨rfl, rfl⟩, ⟨congrArg (fun n => some (AV.ref 3 1 0 n)) (by simp), rfl⟩, ⟨rfl, rfl⟩, ⟨rfl, rfl⟩, ⟨rfl, rfl⟩, ⟨rfl, rfl⟩, ⟨rfl, rfl⟩, ⟨congrArg (fun n => some (I n)) (wrapK hp (by unfold maxLen; omega)), rfl⟩, ⟨congrArg (fun n => some (I n)) (wrapK hi (by unfold maxLen; omega)), rfl⟩, trivial⟩ ⟨⟨rfl, rfl, rfl⟩, ⟨rfl, rfl, rfl⟩, ⟨rfl, rfl, rfl⟩, ⟨rfl, rfl, rfl⟩, ⟨rfl, rfl, rfl⟩, ⟨rfl, rfl, rfl⟩, ⟨rfl, rfl, rfl⟩, ⟨rfl, rfl, rfl⟩, trivial⟩ (fun _ _ => .inr (Nat.zero_le _)))
           ·have g70 := h70
            try simp at g70
            refine step_g0 rfl h70 rfl ?_
            refine step_g0 rfl h70 rfl ?_
            refine step_g0 rfl h70 rfl ?_
            refine step_g0 rfl h70 rfl ?_
            refine step_g0 rfl h70 rfl ?_
            refine step_pickF rfl h70 rfl rfl ?_
            refine step_nil ?_
            refine seqK_n ?_
            refine sem_condF rfl ?_
            refine sem_skip ?_
            refine blkK_n ?_
            refine seqK_n ?_
            refine sem_region rfl ?_
            refine step_r rfl rfl trivial ?_
            refine step_bin rfl rfl rfl rfl rfl trivial ?_
            refine step_r rfl rfl trivial ?_
            refine step_nil ?_
            exact lup_again (i_+1, p+1, (Ds.set i_ (IntKind.i64.wrap (cc + 1)))) (⟨hi, hM2, by simp [hDs], bnd_step hBd hln hbb hv⟩) (by show f.Script.length - (i_ + 1) < f.Script.length - i_; omega) (less_of rfl ⟨⟨rfl, rfl⟩, ⟨rfl, rfl⟩, ⟨rfl, rfl⟩, ⟨rfl, rfl⟩, ⟨congrArg (fun n => some (AV.ref 3 1 0 n)) (by simp), rfl⟩, ⟨rfl, rfl⟩, ⟨rfl, rfl⟩, ⟨rfl, rfl⟩, ⟨rfl, rfl⟩, ⟨rfl, rfl⟩, ⟨congrArg (fun n => some (I n)) (wrapK hp (by unfold maxLen; omega)), rfl⟩, ⟨congrArg (fun n => some (I n)) (wrapK hi (by unfold maxLen; omega)), rfl⟩, trivial⟩ ⟨⟨rfl, rfl, rfl⟩, ⟨rfl, rfl, rfl⟩, ⟨rfl, rfl, rfl⟩, ⟨rfl, rfl, rfl⟩, ⟨rfl, rfl, rfl⟩, ⟨rfl, rfl, rfl⟩, ⟨rfl, rfl, rfl⟩, ⟨rfl, rfl, rfl⟩, trivial⟩ (fun _ _ => .inr (Nat.zero_le _)))
         ·have g51 := h51
          try simp at g51
          have hM2 := mid_no hM hln hc0 (fun _ h => by have h2 := h51; rw [hwd, h] at h2; simp at h2)
          refine sem_skip ?_
          refine seqK_n ?_
          refine sem_seq ?_
          refine sem_seq ?_
          refine sem_drawn rfl (by decide +kernel) rfl ?_
          refine step_r rfl rfl trivial ?_
          refine step_r rfl rfl trivial ?_
          refine step_gs rfl (fun h76 => ?_) (fun h76 => ?_)
          ·have g76 := h76
           try simp at g76
           have hT1 : (fireB f z ⟨0, 0, 0, x, 100, 0, 0, ⟨0, 0⟩, 0⟩ (k : Int)).2.2 = true := by rw [← htu]; exact h76
           refine step_g1 rfl h76 ?_
           refine step_r rfl rfl (by decide) ?_
           refine step_g1 rfl h76 ?_
           refine step_r rfl rfl trivial ?_
           refine step_g1 rfl h76 ?_
           refine step_r rfl rfl trivial ?_
           refine step_g1 rfl h76 ?_
           refine step_idxS (k := i_) rfl rfl rfl rfl hi (flat_ne (s := 5) (enc := encGLine) (fun _ => rfl) (by decide) hi) rfl ?_
           refine step_g1 rfl h76 ?_
           refine step_r rfl rfl (by decide) ?_
           refine step_g1 rfl h76 ?_
           refine step_load_one rfl rfl rfl (flat_get (s := 5) (enc := encGLine) (fun _ => rfl) hln (o := 0) rfl (by decide)) rfl ?_
           refine step_g1 rfl h76 ?_
           refine step_r rfl rfl (by decide) ?_
           refine step_g1 rfl h76 ?_
           refine step_r rfl rfl trivial ?_
           refine step_g1 rfl h76 ?_
           refine step_bin rfl rfl rfl rfl rfl trivial ?_
           refine step_pickT rfl h76 rfl rfl ?_
           refine step_nil ?_
           refine seqK_n ?_
           refine sem_cond rfl (fun h78 => ?_) (fun h78 => ?_)
           ·have g78 := h78
            try simp at g78
            have hv : ln.When ≠ 2 → 0 ≤ (0 : Int) ∧ (0 : Int) ≤ if bb = true then 1 else 0 := fun _ => ⟨by decide, by split <;> decide⟩
            refine sem_region rfl ?_
            refine step_r rfl rfl trivial ?_
            refine step_r rfl rfl trivial ?_
            refine step_idxR (k := i_) rfl rfl rfl rfl hi2 rfl ?_
            refine step_storeR rfl rfl rfl rfl (by have := hi2; simp [encI]; omega) (encI_set Ds i_ 0) (.inl rfl) rfl ?_
            refine step_nil ?_
            refine seqK_n ?_
            refine sem_seq ?_
            refine sem_region rfl ?_
            refine step_r rfl rfl (by decide) ?_
            refine step_r rfl rfl trivial ?_
            refine step_r rfl rfl trivial ?_
            refine step_idxS (k := i_) rfl rfl rfl rfl hi (flat_ne (s := 5) (enc := encGLine) (fun _ => rfl) (by decide) hi) rfl ?_
            refine step_r rfl rfl (by decide) ?_
            refine step_load_one rfl rfl rfl (flat_get (s := 5) (enc := encGLine) (fun _ => rfl) hln (o := 1) rfl (by decide)) rfl ?_
            refine step_bin rfl rfl rfl rfl rfl trivial ?_
            refine step_r rfl rfl trivial ?_
            refine step_gs rfl (fun h80 => ?_) (fun h80 => ?_)
            ·have g80 := h80
             try simp at g80
             have hwn : ln.When ≠ 2 := by simpa using h80
             refine step_g1 rfl h80 ?_
             refine step_r rfl rfl trivial ?_
             refine step_g1 rfl h80 ?_
             refine step_r rfl rfl trivial ?_
             refine step_g1 rfl h80 ?_
             refine step_idxR (k := i_) rfl rfl rfl rfl hi2 rfl ?_
             refine step_g1 rfl h80 ?_
             refine step_load_oneR rfl rfl rfl rfl (encI_get (List.getElem?_set_self (by first | exact hi2 | (rw [List.length_set]; exact hi2)))) rfl ?_
             refine step_g1 rfl h80 ?_
             refine step_bin rfl rfl rfl rfl rfl trivial ?_
             refine step_pickT rfl h80 rfl rfl ?_
             refine step_nil ?_
             refine seqK_n ?_
             refine sem_cond rfl (fun h82 => ?_) (fun h82 => ?_)
             ·have h := of_decide_eq_true h82
              have h2 := hv hwn
              cases bb <;> simp at h2 <;> omega
             ·have g82 := h82
              try simp at g82
              refine sem_skip ?_
              refine blkK_n ?_
              refine seqK_n ?_
              refine sem_region rfl ?_
              refine step_r rfl rfl trivial ?_
              refine step_bin rfl rfl rfl rfl rfl trivial ?_
              refine step_r rfl rfl trivial ?_
              refine step_nil ?_
              exact lup_again (i_+1, p, (Ds.set i_ 0)) (⟨hi, hM2, by simp [hDs], bnd_step hBd hln hbb hv⟩) (by show f.Script.length - (i_ + 1) < f.Script.length - i_; omega) (less_of rfl ⟨⟨rfl, rfl⟩, ⟨rfl, rfl⟩, ⟨rfl, rfl⟩, ⟨rfl, rfl⟩, ⟨congrArg (fun n => some (AV.ref 3 1 0 n)) (by simp), rfl⟩, ⟨rfl, rfl⟩, ⟨rfl, rfl⟩, ⟨rfl, rfl⟩, ⟨rfl, rfl⟩, ⟨rfl, rfl⟩, ⟨rfl, rfl⟩, ⟨congrArg (fun n => some (I n)) (wrapK hi (by unfold maxLen; omega)), rfl⟩, trivial⟩ ⟨⟨rfl, rfl, rfl⟩, ⟨rfl, rfl, rfl⟩, ⟨rfl, rfl, rfl⟩, ⟨rfl, rfl, rfl⟩, ⟨rfl, rfl, rfl⟩, ⟨rfl, rfl, rfl⟩, ⟨rfl, rfl, rfl⟩, ⟨rfl, rfl, rfl⟩, trivial⟩ (fun _ _ => .inr (Nat.zero_le _)))
            ·have g80 := h80
             try simp at g80
             refine step_g0 rfl h80 rfl ?_
             refine step_g0 rfl h80 rfl ?_
             refine step_g0 rfl h80 rfl ?_
             refine step_g0 rfl h80 rfl ?_
             refine step_g0 rfl h80 rfl ?_
             refine step_pickF rfl h80 rfl rfl ?_
             refine step_nil ?_
             refine seqK_n ?_
             refine sem_condF rfl ?_
             refine sem_skip ?_
             refine blkK_n ?_
             refine seqK_n ?_
             refine sem_region rfl ?_
             refine step_r rfl rfl trivial ?_
             refine step_bin rfl rfl rfl rfl rfl trivial ?_
             refine step_r rfl rfl trivial ?_
             refine step_nil ?_
             exact lup_again (i_+1, p, (Ds.set i_ 0)) (⟨hi, hM2, by simp [hDs], bnd_step hBd hln hbb hv⟩) (by show f.Script.length - (i_ + 1) < f.Script.length - i_; omega) (less_of rfl ⟨⟨rfl, rfl⟩, ⟨rfl, rfl⟩, ⟨rfl, rfl⟩, ⟨rfl, rfl⟩, ⟨congrArg (fun n => some (AV.ref 3 1 0 n)) (by simp), rfl⟩, ⟨rfl, rfl⟩, ⟨rfl, rfl⟩, ⟨rfl, rfl⟩, ⟨rfl, rfl⟩, ⟨rfl, rfl⟩, ⟨rfl, rfl⟩, ⟨congrArg (fun n => some (I n)) (wrapK hi (by unfold maxLen; omega)), rfl⟩, trivial⟩ ⟨⟨rfl, rfl, rfl⟩, ⟨rfl, rfl, rfl⟩, ⟨rfl, rfl, rfl⟩, ⟨rfl, rfl, rfl⟩, ⟨rfl, rfl, rfl⟩, ⟨rfl, rfl, rfl⟩, ⟨rfl, rfl, rfl⟩, ⟨rfl, rfl, rfl⟩, trivial⟩ (fun _ _ => .inr (Nat.zero_le _)))
           ·have g78 := h78
            try simp at g78
            have hnp : ¬ ln.Phase = (runB f z ⟨0, 0, 0, x, 100, 0, 0, ⟨0, 0⟩, 0⟩ (k : Int)).1.Phase := by have h := h78; simpa using h
            have hv : ln.When ≠ 2 → 0 ≤ (cc : Int) ∧ (cc : Int) ≤ if bb = true then 1 else 0 := fun hw => by
             have hb2 := hbe
             rw [if_neg (fun e => hnp e.2)] at hb2
             rw [hb2]
             exact val_no (hcb hw)
            refine sem_skip ?_
            refine seqK_n ?_
            refine sem_seq ?_
            refine sem_region rfl ?_
            refine step_r rfl rfl (by decide) ?_
            refine step_r rfl rfl trivial ?_
            refine step_r rfl rfl trivial ?_
            refine step_idxS (k := i_) rfl rfl rfl rfl hi (flat_ne (s := 5) (enc := encGLine) (fun _ => rfl) (by decide) hi) rfl ?_
            refine step_r rfl rfl (by decide) ?_
            refine step_load_one rfl rfl rfl (flat_get (s := 5) (enc := encGLine) (fun _ => rfl) hln (o := 1) rfl (by decide)) rfl ?_
            refine step_bin rfl rfl rfl rfl rfl trivial ?_
            refine step_r rfl rfl trivial ?_
            refine step_gs rfl (fun h86 => ?_) (fun h86 => ?_)
            ·have g86 := h86
             try simp at g86
             have hwn : ln.When ≠ 2 := by simpa using h86
             refine step_g1 rfl h86 ?_
             refine step_r rfl rfl trivial ?_
             refine step_g1 rfl h86 ?_
             refine step_r rfl rfl trivial ?_
             refine step_g1 rfl h86 ?_
             refine step_idxR (k := i_) rfl rfl rfl rfl hi2 rfl ?_
             refine step_g1 rfl h86 ?_
             refine step_load_oneR rfl rfl rfl rfl (encI_get hcc) rfl ?_
             refine step_g1 rfl h86 ?_
             refine step_bin rfl rfl rfl rfl rfl trivial ?_
             refine step_pickT rfl h86 rfl rfl ?_
             refine step_nil ?_
             refine seqK_n ?_
             refine sem_cond rfl (fun h88 => ?_) (fun h88 => ?_)
             ·have h := of_decide_eq_true h88
              have h2 := hv hwn
              cases bb <;> simp at h2 <;> omega
             ·have g88 := h88
              try simp at g88
              refine sem_skip ?_
              refine blkK_n ?_
              refine seqK_n ?_
              refine sem_region rfl ?_
              refine step_r rfl rfl trivial ?_
              refine step_bin rfl rfl rfl rfl rfl trivial ?_
              refine step_r rfl rfl trivial ?_
              refine step_nil ?_
              exact lup_again (i_+1, p, Ds) (⟨hi, hM2, by simp [hDs], by have h := bnd_step hBd hln hbb hv; rwa [set_self hcc] at h⟩) (by show f.Script.length - (i_ + 1) < f.Script.length - i_; omega) (less_of rfl ⟨⟨rfl, rfl⟩, ⟨rfl, rfl⟩, ⟨rfl, rfl⟩, ⟨rfl, rfl⟩, ⟨rfl, rfl⟩, ⟨rfl, rfl⟩, ⟨rfl, rfl⟩, ⟨rfl, rfl⟩, ⟨rfl, rfl⟩, ⟨rfl, rfl⟩, ⟨rfl, rfl⟩, ⟨congrArg (fun n => some (I n)) (wrapK hi (by unfold maxLen; omega)), rfl⟩, trivial⟩ ⟨⟨rfl, rfl, rfl⟩, ⟨rfl, rfl, rfl⟩, ⟨rfl, rfl, rfl⟩, ⟨rfl, rfl, rfl⟩, ⟨rfl, rfl, rfl⟩, ⟨rfl, rfl, rfl⟩, ⟨rfl, rfl, rfl⟩, ⟨rfl, rfl, rfl⟩, trivial⟩ (fun _ _ => .inr (Nat.zero_le _)))
            ·have g86 := h86
             try simp at g86
             refine step_g0 rfl h86 rfl ?_
             refine step_g0 rfl h86 rfl ?_
             refine step_g0 rfl h86 rfl ?_
             refine step_g0 rfl h86 rfl ?_
             refine step_g0 rfl h86 rfl ?_
             refine step_pickF rfl h86 rfl rfl ?_
             refine step_nil ?_
             refine seqK_n ?_
             refine sem_condF rfl ?_
             refine sem_skip ?_
             refine blkK_n ?_
             refine seqK_n ?_
             refine sem_region rfl ?_
             refine step_r rfl rfl trivial ?_
             refine step_bin rfl rfl rfl rfl rfl trivial ?_
             refine step_r rfl rfl trivial ?_
             refine step_nil ?_
             exact lup_again (i_+1, p, Ds) (⟨hi, hM2, by simp [hDs], by have h := bnd_step hBd hln hbb hv; rwa [set_self hcc] at h⟩) (by show f.Script.length - (i_ + 1) < f.Script.length - i_; omega) (less_of rfl ⟨⟨rfl, rfl⟩, ⟨rfl, rfl⟩, ⟨rfl, rfl⟩, ⟨rfl, rfl⟩, ⟨rfl, rfl⟩, ⟨rfl, rfl⟩, ⟨rfl, rfl⟩, ⟨rfl, rfl⟩, ⟨rfl, rfl⟩, ⟨rfl, rfl⟩, ⟨rfl, rfl⟩, ⟨congrArg (fun n => some (I n)) (wrapK hi (by unfold maxLen; omega)), rfl⟩, trivial⟩ ⟨⟨rfl, rfl, rfl⟩, ⟨rfl, rfl, rfl⟩, ⟨rfl, rfl, rfl⟩, ⟨rfl, rfl, rfl⟩, ⟨rfl, rfl, rfl⟩, ⟨rfl, rfl, rfl⟩, ⟨rfl, rfl, rfl⟩, ⟨rfl, rfl, rfl⟩, trivial⟩ (fun _ _ => .inr (Nat.zero_le _)))
          ·have g76 := h76
           try simp at g76
           have hT1 : (fireB f z ⟨0, 0, 0, x, 100, 0, 0, ⟨0, 0⟩, 0⟩ (k : Int)).2.2 = false := by rw [← htu]; exact h76
           have hv : ln.When ≠ 2 → 0 ≤ (cc : Int) ∧ (cc : Int) ≤ if bb = true then 1 else 0 := fun hw => by
            have hb2 := hbe
            rw [if_neg (fun e => by rw [hT1] at e; cases e.1)] at hb2
            rw [hb2]
            exact val_no (hcb hw)
           refine step_g0 rfl h76 rfl ?_
           refine step_g0 rfl h76 rfl ?_
           refine step_g0 rfl h76 rfl ?_
           refine step_g0 rfl h76 rfl ?_
           refine step_g0 rfl h76 rfl ?_
           refine step_g0 rfl h76 rfl ?_
           refine step_g0 rfl h76 rfl ?_
           refine step_g0 rfl h76 rfl ?_
           refine step_g0 rfl h76 rfl ?_
           refine step_pickF rfl h76 rfl rfl ?_
           refine step_nil ?_
           refine seqK_n ?_
           refine sem_condF rfl ?_
           refine sem_skip ?_
           refine seqK_n ?_
           refine sem_seq ?_
           refine sem_region rfl ?_
           refine step_r rfl rfl (by decide) ?_
           refine step_r rfl rfl trivial ?_
           refine step_r rfl rfl trivial ?_
           refine step_idxS (k := i_) rfl rfl rfl rfl hi (flat_ne (s := 5) (enc := encGLine) (fun _ => rfl) (by decide) hi) rfl ?_
           refine step_r rfl rfl (by decide) ?_
           refine step_load_one rfl rfl rfl (flat_get (s := 5) (enc := encGLine) (fun _ => rfl) hln (o := 1) rfl (by decide)) rfl ?_
           refine step_bin rfl rfl rfl rfl rfl trivial ?_
           refine step_r rfl rfl trivial ?_
           refine step_gs rfl (fun h92 => ?_) (fun h92 => ?_)
           ·have g92 := h92
            try simp at g92
            have hwn : ln.When ≠ 2 := by simpa using h92
            refine step_g1 rfl h92 ?_
            refine step_r rfl rfl trivial ?_
            refine step_g1 rfl h92 ?_
            refine step_r rfl rfl trivial ?_
            refine step_g1 rfl h92 ?_
            refine step_idxR (k := i_) rfl rfl rfl rfl hi2 rfl ?_
            refine step_g1 rfl h92 ?_
            refine step_load_oneR rfl rfl rfl rfl (encI_get hcc) rfl ?_
            refine step_g1 rfl h92 ?_
            refine step_bin rfl rfl rfl rfl rfl trivial ?_
            refine step_pickT rfl h92 rfl rfl ?_
            refine step_nil ?_
            refine seqK_n ?_
            refine sem_cond rfl (fun h94 => ?_) (fun h94 => ?_)
            ·have h := of_decide_eq_true h94
             have h2 := hv hwn
             cases bb <;> simp at h2 <;> omega
            ·have g94 := h94
             try simp at g94
             refine sem_skip ?_
             refine blkK_n ?_
             refine seqK_n ?_
             refine sem_region rfl ?_
             refine step_r rfl rfl trivial ?_
             refine step_bin rfl rfl rfl rfl rfl trivial ?_
             refine step_r rfl rfl trivial ?_
             refine step_nil ?_
             exact lup_again (i_+1, p, Ds) (⟨hi, hM2, by simp [hDs], by have h := bnd_step hBd hln hbb hv; rwa [set_self hcc] at h⟩) (by show f.Script.length - (i_ + 1) < f.Script.length - i_; omega) (less_of rfl ⟨⟨rfl, rfl⟩, ⟨rfl, rfl⟩, ⟨rfl, rfl⟩, ⟨rfl, rfl⟩, ⟨rfl, rfl⟩, ⟨rfl, rfl⟩, ⟨rfl, rfl⟩, ⟨rfl, rfl⟩, ⟨rfl, rfl⟩, ⟨rfl, rfl⟩, ⟨rfl, rfl⟩, ⟨congrArg (fun n => some (I n)) (wrapK hi (by unfold maxLen; omega)), rfl⟩, trivial⟩ ⟨⟨rfl, rfl, rfl⟩, ⟨rfl, rfl, rfl⟩, ⟨rfl, rfl, rfl⟩, ⟨rfl, rfl, rfl⟩, ⟨rfl, rfl, rfl⟩, ⟨rfl, rfl, rfl⟩, ⟨rfl, rfl, rfl⟩, ⟨rfl, rfl, rfl⟩, trivial⟩ (fun _ _ => .inr (Nat.zero_le _)))
           ·have g92 := h92
            try simp at g92
            refine step_g0 rfl h92 rfl ?_
            refine step_g0 rfl h92 rfl ?_
            refine step_g0 rfl h92 rfl ?_
            refine step_g0 rfl h92 rfl ?_
            refine step_g0 rfl h92 rfl ?_
            refine step_pickF rfl h92 rfl rfl ?_
            refine step_nil ?_
            refine seqK_n ?_
            refine sem_condF rfl ?_
            refine sem_skip ?_
            refine blkK_n ?_
            refine seqK_n ?_
            refine sem_region rfl ?_
            refine step_r rfl rfl trivial ?_
            refine step_bin rfl rfl rfl rfl rfl trivial ?_
            refine step_r rfl rfl trivial ?_
            refine step_nil ?_
            exact lup_again (i_+1, p, Ds) (⟨hi, hM2, by simp [hDs], by have h := bnd_step hBd hln hbb hv; rwa [set_self hcc] at h⟩) (by show f.Script.length - (i_ + 1) < f.Script.length - i_; omega) (less_of rfl ⟨⟨rfl, rfl⟩, ⟨rfl, rfl⟩, ⟨rfl, rfl⟩, ⟨rfl, rfl⟩, ⟨rfl, rfl⟩, ⟨rfl, rfl⟩, ⟨rfl, rfl⟩, ⟨rfl, rfl⟩, ⟨rfl, rfl⟩, ⟨rfl, rfl⟩, ⟨rfl, rfl⟩, ⟨congrArg (fun n => some (I n)) (wrapK hi (by unfold maxLen; omega)), rfl⟩, trivial⟩ ⟨⟨rfl, rfl, rfl⟩, ⟨rfl, rfl, rfl⟩, ⟨rfl, rfl, rfl⟩, ⟨rfl, rfl, rfl⟩, ⟨rfl, rfl, rfl⟩, ⟨rfl, rfl, rfl⟩, ⟨rfl, rfl, rfl⟩, ⟨rfl, rfl, rfl⟩, trivial⟩ (fun _ _ => .inr (Nat.zero_le _)))
        ·have g48 := h48
         try simp at g48
         have hM2 := mid_no hM hln hc0 (fun h _ => by rw [hy] at h; cases h; have h := h48; simp at h)
         refine step_g0 rfl h48 rfl ?_
         refine step_g0 rfl h48 rfl ?_
         refine step_g0 rfl h48 rfl ?_
         refine step_g0 rfl h48 rfl ?_
         refine step_g0 rfl h48 rfl ?_
         refine step_g0 rfl h48 rfl ?_
         refine step_g0 rfl h48 rfl ?_
         refine step_pickF rfl h48 rfl rfl ?_
         refine step_nil ?_
         refine seqK_n ?_
         refine sem_condF rfl ?_
         refine sem_skip ?_
         refine seqK_n ?_
         refine sem_seq ?_
         refine sem_seq ?_
         refine sem_drawn rfl (by decide +kernel) rfl ?_
         refine step_r rfl rfl trivial ?_
         refine step_r rfl rfl trivial ?_
         refine step_gs rfl (fun h98 => ?_) (fun h98 => ?_)
         ·have g98 := h98
          try simp at g98
          have hT1 : (fireB f z ⟨0, 0, 0, x, 100, 0, 0, ⟨0, 0⟩, 0⟩ (k : Int)).2.2 = true := by rw [← htu]; exact h98
          refine step_g1 rfl h98 ?_
          refine step_r rfl rfl (by decide) ?_
          refine step_g1 rfl h98 ?_
          refine step_r rfl rfl trivial ?_
          refine step_g1 rfl h98 ?_
          refine step_r rfl rfl trivial ?_
          refine step_g1 rfl h98 ?_
          refine step_idxS (k := i_) rfl rfl rfl rfl hi (flat_ne (s := 5) (enc := encGLine) (fun _ => rfl) (by decide) hi) rfl ?_
          refine step_g1 rfl h98 ?_
          refine step_r rfl rfl (by decide) ?_
          refine step_g1 rfl h98 ?_
          refine step_load_one rfl rfl rfl (flat_get (s := 5) (enc := encGLine) (fun _ => rfl) hln (o := 0) rfl (by decide)) rfl ?_
          refine step_g1 rfl h98 ?_
          refine step_r rfl rfl (by decide) ?_
          refine step_g1 rfl h98 ?_
          refine step_r rfl rfl trivial ?_
          refine step_g1 rfl h98 ?_
          refine step_bin rfl rfl rfl rfl rfl trivial ?_
          refine step_pickT rfl h98 rfl rfl ?_
          refine step_nil ?_
          refine seqK_n ?_
          refine sem_cond rfl (fun h100 => ?_) (fun h100 => ?_)
          ·have g100 := h100
           try simp at g100
           have hv : ln.When ≠ 2 → 0 ≤ (0 : Int) ∧ (0 : Int) ≤ if bb = true then 1 else 0 := fun _ => ⟨by decide, by split <;> decide⟩
           refine sem_region rfl ?_
           refine step_r rfl rfl trivial ?_
           refine step_r rfl rfl trivial ?_
           refine step_idxR (k := i_) rfl rfl rfl rfl hi2 rfl ?_
           refine step_storeR rfl rfl rfl rfl (by have := hi2; simp [encI]; omega) (encI_set Ds i_ 0) (.inl rfl) rfl ?_
           refine step_nil ?_
           refine seqK_n ?_
           refine sem_seq ?_
           refine sem_region rfl ?_
           refine step_r rfl rfl (by decide) ?_
           refine step_r rfl rfl trivial ?_
           refine step_r rfl rfl trivial ?_
           refine step_idxS (k := i_) rfl rfl rfl rfl hi (flat_ne (s := 5) (enc := encGLine) (fun _ => rfl) (by decide) hi) rfl ?_
           refine step_r rfl rfl (by decide) ?_
           refine step_load_one rfl rfl rfl (flat_get (s := 5) (enc := encGLine) (fun _ => rfl) hln (o := 1) rfl (by decide)) rfl ?_
           refine step_bin rfl rfl rfl rfl rfl trivial ?_
           refine step_r rfl rfl trivial ?_
           refine step_gs rfl (fun h102 => ?_) (fun h102 => ?_)
           ·have g102 := h102
            try simp at g102
            have hwn : ln.When ≠ 2 := by simpa using h102
            refine step_g1 rfl h102 ?_
            refine step_r rfl rfl trivial ?_
            refine step_g1 rfl h102 ?_
            refine step_r rfl rfl trivial ?_
            refine step_g1 rfl h102 ?_
            refine step_idxR (k := i_) rfl rfl rfl rfl hi2 rfl ?_
            refine step_g1 rfl h102 ?_
            refine step_load_oneR rfl rfl rfl rfl (encI_get (List.getElem?_set_self (by first | exact hi2 | (rw [List.length_set]; exact hi2)))) rfl ?_
            refine step_g1 rfl h102 ?_
            refine step_bin rfl rfl rfl rfl rfl trivial ?_
            refine step_pickT rfl h102 rfl rfl ?_
            refine step_nil ?_
            refine seqK_n ?_
            refine sem_cond rfl (fun h104 => ?_) (fun h104 => ?_)
            ·have h := of_decide_eq_true h104
             have h2 := hv hwn
             cases bb <;> simp at h2 <;> omega
            ·have g104 := h104
             try simp at g104
             refine sem_skip ?_
             refine blkK_n ?_
             refine seqK_n ?_
             refine sem_region rfl ?_
             refine step_r rfl rfl trivial ?_
             refine step_bin rfl rfl rfl rfl rfl trivial ?_
             refine step_r rfl rfl trivial ?_
             refine step_nil ?_
             exact lup_again (i_+1, p, (Ds.set i_ 0)) (⟨hi, hM2, by simp [hDs], bnd_step hBd hln hbb hv⟩) (by show f.Script.length - (i_ + 1) < f.Script.length - i_; omega) (less_of rfl ⟨⟨rfl, rfl⟩, ⟨rfl, rfl⟩, ⟨rfl, rfl⟩, ⟨rfl, rfl⟩, ⟨congrArg (fun n => some (AV.ref 3 1 0 n)) (by simp), rfl⟩, ⟨rfl, rfl⟩, ⟨rfl, rfl⟩, ⟨rfl, rfl⟩, ⟨rfl, rfl⟩, ⟨rfl, rfl⟩, ⟨rfl, rfl⟩, ⟨congrArg (fun n => some (I n)) (wrapK hi (by unfold maxLen; omega)), rfl⟩, trivial⟩ ⟨⟨rfl, rfl, rfl⟩, ⟨rfl, rfl, rfl⟩, ⟨rfl, rfl, rfl⟩, ⟨rfl, rfl, rfl⟩, ⟨rfl, rfl, rfl⟩, ⟨rfl, rfl, rfl⟩, ⟨rfl, rfl, rfl⟩, ⟨rfl, rfl, rfl⟩, trivial⟩ (fun _ _ => .inr (Nat.zero_le _)))
           ·have g102 := h102
            try simp at g102
            refine step_g0 rfl h102 rfl ?_
            refine step_g0 rfl h102 rfl ?_
            refine step_g0 rfl h102 rfl ?_
            refine step_g0 rfl h102 rfl ?_
            refine step_g0 rfl h102 rfl ?_
            refine step_pickF rfl h102 rfl rfl ?_
            refine step_nil ?_
            refine seqK_n ?_
            refine sem_condF rfl ?_
            refine sem_skip ?_
            refine blkK_n ?_
            refine seqK_n ?_
            refine sem_region rfl ?_
            refine step_r rfl rfl trivial ?_
            refine step_bin rfl rfl rfl rfl rfl trivial ?_
            refine step_r rfl rfl trivial ?_
            refine step_nil ?_
            exact lup_again (i_+1, p, (Ds.set i_ 0)) (⟨hi, hM2, by simp [hDs], bnd_step hBd hln hbb hv⟩) (by show f.Script.length - (i_ + 1) < f.Script.length - i_; omega) (less_of rfl ⟨⟨rfl, rfl⟩, ⟨rfl, rfl⟩, ⟨rfl, rfl⟩, ⟨rfl, rfl⟩, ⟨congrArg (fun n => some (AV.ref 3 1 0 n)) (by simp), rfl⟩, ⟨rfl, rfl⟩, ⟨rfl, rfl⟩, ⟨rfl, rfl⟩, ⟨rfl, rfl⟩, ⟨rfl, rfl⟩, ⟨rfl, rfl⟩, ⟨congrArg (fun n => some (I n)) (wrapK hi (by unfold maxLen; omega)), rfl⟩, trivial⟩ ⟨⟨rfl, rfl, rfl⟩, ⟨rfl, rfl, rfl⟩, ⟨rfl, rfl, rfl⟩, ⟨rfl, rfl, rfl⟩, ⟨rfl, rfl, rfl⟩, ⟨rfl, rfl, rfl⟩, ⟨rfl, rfl, rfl⟩, ⟨rfl, rfl, rfl⟩, trivial⟩ (fun _ _ => .inr (Nat.zero_le _)))
          ·have g100 := h100
           try simp at g100
           have hnp : ¬ ln.Phase = (runB f z ⟨0, 0, 0, x, 100, 0, 0, ⟨0, 0⟩, 0⟩ (k : Int)).1.Phase := by have h := h100; simpa using h
           have hv : ln.When ≠ 2 → 0 ≤ (cc : Int) ∧ (cc : Int) ≤ if bb = true then 1 else 0 := fun hw => by
            have hb2 := hbe
            rw [if_neg (fun e => hnp e.2)] at hb2
            rw [hb2]
            exact val_no (hcb hw)
           refine sem_skip ?_
           refine seqK_n ?_
           refine sem_seq ?_
           refine sem_region rfl ?_
           refine step_r rfl rfl (by decide) ?_
           refine step_r rfl rfl trivial ?_
           refine step_r rfl rfl trivial ?_
           refine step_idxS (k := i_) rfl rfl rfl rfl hi (flat_ne (s := 5) (enc := encGLine) (fun _ => rfl) (by decide) hi) rfl ?_
           refine step_r rfl rfl (by decide) ?_
           refine step_load_one rfl rfl rfl (flat_get (s := 5) (enc := encGLine) (fun _ => rfl) hln (o := 1) rfl (by decide)) rfl ?_
           refine step_bin rfl rfl rfl rfl rfl trivial ?_
           refine step_r rfl rfl trivial ?_
           refine step_gs rfl (fun h108 => ?_) (fun h108 => ?_)
           ·have g108 := h108
            try simp at g108
            have hwn : ln.When ≠ 2 := by simpa using h108
            refine step_g1 rfl h108 ?_
            refine step_r rfl rfl trivial ?_
            refine step_g1 rfl h108 ?_
            refine step_r rfl rfl trivial ?_
            refine step_g1 rfl h108 ?_
            refine step_idxR (k := i_) rfl rfl rfl rfl hi2 rfl ?_
            refine step_g1 rfl h108 ?_
            refine step_load_oneR rfl rfl rfl rfl (encI_get hcc) rfl ?_
            refine step_g1 rfl h108 ?_
            refine step_bin rfl rfl rfl rfl rfl trivial ?_
            refine step_pickT rfl h108 rfl rfl ?_
            refine step_nil ?_
            refine seqK_n ?_
            refine sem_cond rfl (fun h110 => ?_) (fun h110 => ?_)
            ·have h := of_decide_eq_true h110
             have h2 := hv hwn
             cases bb <;> simp at h2 <;> omega
            ·have g110 := h110
             try simp at g110
             refine sem_skip ?_
             refine blkK_n ?_
             refine seqK_n ?_
             refine sem_region rfl ?_
             refine step_r rfl rfl trivial ?_
             refine step_bin rfl rfl rfl rfl rfl trivial ?_
             refine step_r rfl rfl trivial ?_
             refine step_nil ?_
             exact lup_again (i_+1, p, Ds) (⟨hi, hM2, by simp [hDs], by have h := bnd_step hBd hln hbb hv; rwa [set_self hcc] at h⟩) (by show f.Script.length - (i_ + 1) < f.Script.length - i_; omega) (less_of rfl ⟨⟨rfl, rfl⟩, ⟨rfl, rfl⟩, ⟨rfl, rfl⟩, ⟨rfl, rfl⟩, ⟨rfl, rfl⟩, ⟨rfl, rfl⟩, ⟨rfl, rfl⟩, ⟨rfl, rfl⟩, ⟨rfl, rfl⟩, ⟨rfl, rfl⟩, ⟨rfl, rfl⟩, ⟨congrArg (fun n => some (I n)) (wrapK hi (by unfold maxLen; omega)), rfl⟩, trivial⟩ ⟨⟨rfl, rfl, rfl⟩, ⟨rfl, rfl, rfl⟩, ⟨rfl, rfl, rfl⟩, ⟨rfl, rfl, rfl⟩, ⟨rfl, rfl, rfl⟩, ⟨rfl, rfl, rfl⟩, ⟨rfl, rfl, rfl⟩, ⟨rfl, rfl, rfl⟩, trivial⟩ (fun _ _ => .inr (Nat.zero_le _)))
           ·have g108 := h108
            try simp at g108
            refine step_g0 rfl h108 rfl ?_
            refine step_g0 rfl h108 rfl ?_
            refine step_g0 rfl h108 rfl ?_
            refine step_g0 rfl h108 rfl ?_
            refine step_g0 rfl h108 rfl ?_
            refine step_pickF rfl h108 rfl rfl ?_
            refine step_nil ?_
            refine seqK_n ?_
            refine sem_condF rfl ?_
            refine sem_skip ?_
            refine blkK_n ?_
            refine seqK_n ?_
            refine sem_region rfl ?_
            refine step_r rfl rfl trivial ?_
            refine step_bin rfl rfl rfl rfl rfl trivial ?_
            refine step_r rfl rfl trivial ?_
            refine step_nil ?_
            exact lup_again (i_+1, p, Ds) (⟨hi, hM2, by simp [hDs], by have h := bnd_step hBd hln hbb hv; rwa [set_self hcc] at h⟩) (by show f.Script.length - (i_ + 1) < f.Script.length - i_; omega) (less_of rfl ⟨⟨rfl, rfl⟩, ⟨rfl, rfl⟩, ⟨rfl, rfl⟩, ⟨rfl, rfl⟩, ⟨rfl, rfl⟩, ⟨rfl, rfl⟩, ⟨rfl, rfl⟩, ⟨rfl, rfl⟩, ⟨rfl, rfl⟩, ⟨rfl, rfl⟩, ⟨rfl, rfl⟩, ⟨congrArg (fun n => some (I n)) (wrapK hi (by unfold maxLen; omega)), rfl⟩, trivial⟩ ⟨⟨rfl, rfl, rfl⟩, ⟨rfl, rfl, rfl⟩, ⟨rfl, rfl, rfl⟩, ⟨rfl, rfl, rfl⟩, ⟨rfl, rfl, rfl⟩, ⟨rfl, rfl, rfl⟩, ⟨rfl, rfl, rfl⟩, ⟨rfl, rfl, rfl⟩, trivial⟩ (fun _ _ => .inr (Nat.zero_le _)))
         ·have g98 := h98
          try simp at g98
          have hT1 : (fireB f z ⟨0, 0, 0, x, 100, 0, 0, ⟨0, 0⟩, 0⟩ (k : Int)).2.2 = false := by rw [← htu]; exact h98
          have hv : ln.When ≠ 2 → 0 ≤ (cc : Int) ∧ (cc : Int) ≤ if bb = true then 1 else 0 := fun hw => by
           have hb2 := hbe
           rw [if_neg (fun e => by rw [hT1] at e; cases e.1)] at hb2
           rw [hb2]
           exact val_no (hcb hw)
          refine step_g0 rfl h98 rfl ?_
          refine step_g0 rfl h98 rfl ?_
          refine step_g0 rfl h98 rfl ?_
          refine step_g0 rfl h98 rfl ?_
          refine step_g0 rfl h98 rfl ?_
          refine step_g0 rfl h98 rfl ?_
          refine step_g0 rfl h98 rfl ?_
          refine step_g0 rfl h98 rfl ?_
          refine step_g0 rfl h98 rfl ?_
          refine step_pickF rfl h98 rfl rfl ?_
          refine step_nil ?_
          refine seqK_n ?_
          refine sem_condF rfl ?_
          refine sem_skip ?_
          refine seqK_n ?_
          refine sem_seq ?_
          refine sem_region rfl ?_
          refine step_r rfl rfl (by decide) ?_
          refine step_r rfl rfl trivial ?_
          refine step_r rfl rfl trivial ?_
          refine step_idxS (k := i_) rfl rfl rfl rfl hi (flat_ne (s := 5) (enc := encGLine) (fun _ => rfl) (by decide) hi) rfl ?_
          refine step_r rfl rfl (by decide) ?_
          refine step_load_one rfl rfl rfl (flat_get (s := 5) (enc := encGLine) (fun _ => rfl) hln (o := 1) rfl (by decide)) rfl ?_
          refine step_bin rfl rfl rfl rfl rfl trivial ?_
          refine step_r rfl rfl trivial ?_
          refine step_gs rfl (fun h114 => ?_) (fun h114 => ?_)
          ·have g114 := h114
           try simp at g114
           have hwn : ln.When ≠ 2 := by simpa using h114
           refine step_g1 rfl h114 ?_
           refine step_r rfl rfl trivial ?_
           refine step_g1 rfl h114 ?_
           refine step_r rfl rfl trivial ?_
           refine step_g1 rfl h114 ?_
           refine step_idxR (k := i_) rfl rfl rfl rfl hi2 rfl ?_
           refine step_g1 rfl h114 ?_
           refine step_load_oneR rfl rfl rfl rfl (encI_get hcc) rfl ?_
           refine step_g1 rfl h114 ?_
           refine step_bin rfl rfl rfl rfl rfl trivial ?_
           refine step_pickT rfl h114 rfl rfl ?_
           refine step_nil ?_
           refine seqK_n ?_
           refine sem_cond rfl (fun h116 => ?_) (fun h116 => ?_)
           ·have h := of_decide_eq_true h116
            have h2 := hv hwn
            cases bb <;> simp at h2 <;> omega
           ·have g116 := h116
            try simp at g116
            refine sem_skip ?_
            refine blkK_n ?_
            refine seqK_n ?_
            refine sem_region rfl ?_
            refine step_r rfl rfl trivial ?_
            refine step_bin rfl rfl rfl rfl rfl trivial ?_
            refine step_r rfl rfl trivial ?_
            refine step_nil ?_
            exact lup_again (i_+1, p, Ds) (⟨hi, hM2, by simp [hDs], by have h := bnd_step hBd hln hbb hv; rwa [set_self hcc] at h⟩) (by show f.Script.length - (i_ + 1) < f.Script.length - i_; omega) (less_of rfl ⟨⟨rfl, rfl⟩, ⟨rfl, rfl⟩, ⟨rfl, rfl⟩, ⟨rfl, rfl⟩, ⟨rfl, rfl⟩, ⟨rfl, rfl⟩, ⟨rfl, rfl⟩, ⟨rfl, rfl⟩, ⟨rfl, rfl⟩, ⟨rfl, rfl⟩, ⟨rfl, rfl⟩, ⟨congrArg (fun n => some (I n)) (wrapK hi (by unfold maxLen; omega)), rfl⟩, trivial⟩ ⟨⟨rfl, rfl, rfl⟩, ⟨rfl, rfl, rfl⟩, ⟨rfl, rfl, rfl⟩, ⟨rfl, rfl, rfl⟩, ⟨rfl, rfl, rfl⟩, ⟨rfl, rfl, rfl⟩, ⟨rfl, rfl, rfl⟩, ⟨rfl, rfl, rfl⟩, trivial⟩ (fun _ _ => .inr (Nat.zero_le _)))
          ·have g114 := h114
           try simp at g114
           refine step_g0 rfl h114 rfl ?_
           refine step_g0 rfl h114 rfl ?_
           refine step_g0 rfl h114 rfl ?_
           refine step_g0 rfl h114 rfl ?_
           refine step_g0 rfl h114 rfl ?_
           refine step_pickF rfl h114 rfl rfl ?_
           refine step_nil ?_
           refine seqK_n ?_
           refine sem_condF rfl ?_
           refine sem_skip ?_
           refine blkK_n ?_
           refine seqK_n ?_
           refine sem_region rfl ?_
           refine step_r rfl rfl trivial ?_
           refine step_bin rfl rfl rfl rfl rfl trivial ?_
           refine step_r rfl rfl trivial ?_
           refine step_nil ?_
           exact lup_again (i_+1, p, Ds) (⟨hi, hM2, by simp [hDs], by have h := bnd_step hBd hln hbb hv; rwa [set_self hcc] at h⟩) (by show f.Script.length - (i_ + 1) < f.Script.length - i_; omega) (less_of rfl ⟨⟨rfl, rfl⟩, ⟨rfl, rfl⟩, ⟨rfl, rfl⟩, ⟨rfl, rfl⟩, ⟨rfl, rfl⟩, ⟨rfl, rfl⟩, ⟨rfl, rfl⟩, ⟨rfl, rfl⟩, ⟨rfl, rfl⟩, ⟨rfl, rfl⟩, ⟨rfl, rfl⟩, ⟨congrArg (fun n => some (I n)) (wrapK hi (by unfold maxLen; omega)), rfl⟩, trivial⟩ ⟨⟨rfl, rfl, rfl⟩, ⟨rfl, rfl, rfl⟩, ⟨rfl, rfl, rfl⟩, ⟨rfl, rfl, rfl⟩, ⟨rfl, rfl, rfl⟩, ⟨rfl, rfl, rfl⟩, ⟨rfl, rfl, rfl⟩, ⟨rfl, rfl, rfl⟩, trivial⟩ (fun _ _ => .inr (Nat.zero_le _)))
       ·have g46 := h46
        try simp at g46
        have hp : ¬ p < (runB f z ⟨0, 0, 0, x, 100, 0, 0, ⟨0, 0⟩, 0⟩ (k : Int)).2.length := by simpa using h46
        have hM2 := mid_no hM hln hc0 (fun h _ => hp (List.getElem?_eq_some_iff.1 h).1)
        refine step_g0 rfl h46 rfl ?_
        refine step_g0 rfl h46 rfl ?_
        refine step_g0 rfl h46 rfl ?_
        refine step_g0 rfl h46 rfl ?_
        refine step_g0 rfl h46 rfl ?_
        refine step_g0 rfl h46 rfl ?_
        refine step_g0 rfl h46 rfl ?_
        refine step_g0 rfl h46 rfl ?_
        refine step_g0 rfl h46 rfl ?_
        refine step_g0 rfl h46 rfl ?_
        refine step_pickF rfl h46 rfl rfl ?_
        refine step_r rfl rfl trivial ?_
        refine step_gf rfl rfl ?_
        refine step_gf rfl rfl ?_
        refine step_gf rfl rfl ?_
        refine step_gf rfl rfl ?_
        refine step_gf rfl rfl ?_
        refine step_gf rfl rfl ?_
        refine step_gf rfl rfl ?_
        refine step_r rfl rfl trivial ?_
        refine step_nil ?_
        refine seqK_n ?_
        refine sem_condF rfl ?_
        refine sem_skip ?_
        refine seqK_n ?_
        refine sem_seq ?_
        refine sem_seq ?_
        refine sem_drawn rfl (by decide +kernel) rfl ?_
        refine step_r rfl rfl trivial ?_
        refine step_r rfl rfl trivial ?_
        refine step_gs rfl (fun h120 => ?_) (fun h120 => ?_)
        ·have g120 := h120
         try simp at g120
         have hT1 : (fireB f z ⟨0, 0, 0, x, 100, 0, 0, ⟨0, 0⟩, 0⟩ (k : Int)).2.2 = true := by rw [← htu]; exact h120
         refine step_g1 rfl h120 ?_
         refine step_r rfl rfl (by decide) ?_
         refine step_g1 rfl h120 ?_
         refine step_r rfl rfl trivial ?_
         refine step_g1 rfl h120 ?_
         refine step_r rfl rfl trivial ?_
         refine step_g1 rfl h120 ?_
         refine step_idxS (k := i_) rfl rfl rfl rfl hi (flat_ne (s := 5) (enc := encGLine) (fun _ => rfl) (by decide) hi) rfl ?_
         refine step_g1 rfl h120 ?_
         refine step_r rfl rfl (by decide) ?_
         refine step_g1 rfl h120 ?_
         refine step_load_one rfl rfl rfl (flat_get (s := 5) (enc := encGLine) (fun _ => rfl) hln (o := 0) rfl (by decide)) rfl ?_
         refine step_g1 rfl h120 ?_
         refine step_r rfl rfl (by decide) ?_
         refine step_g1 rfl h120 ?_
         refine step_r rfl rfl trivial ?_
         refine step_g1 rfl h120 ?_
         refine step_bin rfl rfl rfl rfl rfl trivial ?_
         refine step_pickT rfl h120 rfl rfl ?_
         refine step_nil ?_
         refine seqK_n ?_
         refine sem_cond rfl (fun h122 => ?_) (fun h122 => ?_)
         ·have g122 := h122
          try simp at g122
          have hv : ln.When ≠ 2 → 0 ≤ (0 : Int) ∧ (0 : Int) ≤ if bb = true then 1 else 0 := fun _ => ⟨by decide, by split <;> decide⟩
          refine sem_region rfl ?_
          refine step_r rfl rfl trivial ?_
          refine step_r rfl rfl trivial ?_
          refine step_idxR (k := i_) rfl rfl rfl rfl hi2 rfl ?_
          refine step_storeR rfl rfl rfl rfl (by have := hi2; simp [encI]; omega) (encI_set Ds i_ 0) (.inl rfl) rfl ?_
          refine step_nil ?_
          refine seqK_n ?_
          refine sem_seq ?_
          refine sem_region rfl ?_
          refine step_r rfl rfl (by decide) ?_
          refine step_r rfl rfl trivial ?_
          refine step_r rfl rfl trivial ?_
          refine step_idxS (k := i_) rfl rfl rfl rfl hi (flat_ne (s := 5) (enc := encGLine) (fun _ => rfl) (by decide) hi) rfl ?_
          refine step_r rfl rfl (by decide) ?_
          refine step_load_one rfl rfl rfl (flat_get (s := 5) (enc := encGLine) (fun _ => rfl) hln (o := 1) rfl (by decide)) rfl ?_
          refine step_bin rfl rfl rfl rfl rfl trivial ?_
          refine step_r rfl rfl trivial ?_
          refine step_gs rfl (fun h124 => ?_) (fun h124 => ?_)
          ·have g124 := h124
           try simp at g124
           have hwn : ln.When ≠ 2 := by simpa using h124
           refine step_g1 rfl h124 ?_
           refine step_r rfl rfl trivial ?_
           refine step_g1 rfl h124 ?_
           refine step_r rfl rfl trivial ?_
           refine step_g1 rfl h124 ?_
           refine step_idxR (k := i_) rfl rfl rfl rfl hi2 rfl ?_
           refine step_g1 rfl h124 ?_
           refine step_load_oneR rfl rfl rfl rfl (encI_get (List.getElem?_set_self (by first | exact hi2 | (rw [List.length_set]; exact hi2)))) rfl ?_
           refine step_g1 rfl h124 ?_
           refine step_bin rfl rfl rfl rfl rfl trivial ?_
           refine step_pickT rfl h124 rfl rfl ?_
           refine step_nil ?_
           refine seqK_n ?_
           refine sem_cond rfl (fun h126 => ?_) (fun h126 => ?_)
           ·have h := of_decide_eq_true h126
            have h2 := hv hwn
            cases bb <;> simp at h2 <;> omega
           ·have g126 := h126
            try simp at g126
            refine sem_skip ?_
            refine blkK_n ?_
            refine seqK_n ?_
            refine sem_region rfl ?_
            refine step_r rfl rfl trivial ?_
            refine step_bin rfl rfl rfl rfl rfl trivial ?_
            refine step_r rfl rfl trivial ?_
            refine step_nil ?_
            exact lup_again (i_+1, p, (Ds.set i_ 0)) (⟨hi, hM2, by simp [hDs], bnd_step hBd hln hbb hv⟩) (by show f.Script.length - (i_ + 1) < f.Script.length - i_; omega) (less_of rfl ⟨⟨rfl, rfl⟩, ⟨rfl, rfl⟩, ⟨rfl, rfl⟩, ⟨rfl, rfl⟩, ⟨congrArg (fun n => some (AV.ref 3 1 0 n)) (by simp), rfl⟩, ⟨rfl, rfl⟩, ⟨rfl, rfl⟩, ⟨rfl, rfl⟩, ⟨rfl, rfl⟩, ⟨rfl, rfl⟩, ⟨rfl, rfl⟩, ⟨congrArg (fun n => some (I n)) (wrapK hi (by unfold maxLen; omega)), rfl⟩, trivial⟩ ⟨⟨rfl, rfl, rfl⟩, ⟨rfl, rfl, rfl⟩, ⟨rfl, rfl, rfl⟩, ⟨rfl, rfl, rfl⟩, ⟨rfl, rfl, rfl⟩, ⟨rfl, rfl, rfl⟩, ⟨rfl, rfl, rfl⟩, ⟨rfl, rfl, rfl⟩, trivial⟩ (fun _ _ => .inr (Nat.zero_le _)))
          ·have g124 := h124
           try simp at g124
           refine step_g0 rfl h124 rfl ?_
           refine step_g0 rfl h124 rfl ?_
           refine step_g0 rfl h124 rfl ?_
           refine step_g0 rfl h124 rfl ?_
           refine step_g0 rfl h124 rfl ?_
           refine step_pickF rfl h124 rfl rfl ?_
           refine step_nil ?_
           refine seqK_n ?_
           refine sem_condF rfl ?_
           refine sem_skip ?_
           refine blkK_n ?_
           refine seqK_n ?_
           refine sem_region rfl ?_
           refine step_r rfl rfl trivial ?_
           refine step_bin rfl rfl rfl rfl rfl trivial ?_
           refine step_r rfl rfl trivial ?_
           refine step_nil ?_
           exact lup_again (i_+1, p, (Ds.set i_ 0)) (⟨hi, hM2, by simp [hDs], bnd_step hBd hln hbb hv⟩) (by show f.Script.length - (i_ + 1) < f.Script.length - i_; omega) (less_of rfl ⟨⟨rfl, rfl⟩, ⟨rfl, rfl⟩, ⟨rfl, rfl⟩, ⟨rfl, rfl⟩, ⟨congrArg (fun n => some (AV.ref 3 1 0 n)) (by simp), rfl⟩, ⟨rfl, rfl⟩, ⟨rfl, rfl⟩, ⟨rfl, rfl⟩, ⟨rfl, rfl⟩, ⟨rfl, rfl⟩, ⟨rfl, rfl⟩, ⟨congrArg (fun n => some (I n)) (wrapK hi (by unfold maxLen; omega)), rfl⟩, trivial⟩ ⟨⟨rfl, rfl, rfl⟩, ⟨rfl, rfl, rfl⟩, ⟨rfl, rfl, rfl⟩, ⟨rfl, rfl, rfl⟩, ⟨rfl, rfl, rfl⟩, ⟨rfl, rfl, rfl⟩, ⟨rfl, rfl, rfl⟩, ⟨rfl, rfl, rfl⟩, trivial⟩ (fun _ _ => .inr (Nat.zero_le _)))
         ·have g122 := h122
          try simp at g122
          have hnp : ¬ ln.Phase = (runB f z ⟨0, 0, 0, x, 100, 0, 0, ⟨0, 0⟩, 0⟩ (k : Int)).1.Phase := by have h := h122; simpa using h
          have hv : ln.When ≠ 2 → 0 ≤ (cc : Int) ∧ (cc : Int) ≤ if bb = true then 1 else 0 := fun hw => by
           have hb2 := hbe
           rw [if_neg (fun e => hnp e.2)] at hb2
           rw [hb2]
           exact val_no (hcb hw)
          refine sem_skip ?_
          refine seqK_n ?_
          refine sem_seq ?_
          refine sem_region rfl ?_
          refine step_r rfl rfl (by decide) ?_
          refine step_r rfl rfl trivial ?_
          refine step_r rfl rfl trivial ?_
          refine step_idxS (k := i_) rfl rfl rfl rfl hi (flat_ne (s := 5) (enc := encGLine) (fun _ => rfl) (by decide) hi) rfl ?_
          refine step_r rfl rfl (by decide) ?_
          refine step_load_one rfl rfl rfl (flat_get (s := 5) (enc := encGLine) (fun _ => rfl) hln (o := 1) rfl (by decide)) rfl ?_
          refine step_bin rfl rfl rfl rfl rfl trivial ?_
          refine step_r rfl rfl trivial ?_
          refine step_gs rfl (fun h130 => ?_) (fun h130 => ?_)
          ·have g130 := h130
           try simp at g130
           have hwn : ln.When ≠ 2 := by simpa using h130
           refine step_g1 rfl h130 ?_
           refine step_r rfl rfl trivial ?_
           refine step_g1 rfl h130 ?_
           refine step_r rfl rfl trivial ?_
           refine step_g1 rfl h130 ?_
           refine step_idxR (k := i_) rfl rfl rfl rfl hi2 rfl ?_
           refine step_g1 rfl h130 ?_
           refine step_load_oneR rfl rfl rfl rfl (encI_get hcc) rfl ?_
           refine step_g1 rfl h130 ?_
           refine step_bin rfl rfl rfl rfl rfl trivial ?_
           refine step_pickT rfl h130 rfl rfl ?_
           refine step_nil ?_
           refine seqK_n ?_
           refine sem_cond rfl (fun h132 => ?_) (fun h132 => ?_)
           ·have h := of_decide_eq_true h132
            have h2 := hv hwn
            cases bb <;> simp at h2 <;> omega
           ·have g132 := h132
            try simp at g132
            refine sem_skip ?_
            refine blkK_n ?_
            refine seqK_n ?_
            refine sem_region rfl ?_
            refine step_r rfl rfl trivial ?_
            refine step_bin rfl rfl rfl rfl rfl trivial ?_
            refine step_r rfl rfl trivial ?_
            refine step_nil ?_
            exact lup_again (i_+1, p, Ds) (⟨hi, hM2, by simp [hDs], by have h := bnd_step hBd hln hbb hv; rwa [set_self hcc] at h⟩) (by show f.Script.length - (i_ + 1) < f.Script.length - i_; omega) (less_of rfl ⟨⟨rfl, rfl⟩, ⟨rfl, rfl⟩, ⟨rfl, rfl⟩, ⟨rfl, rfl⟩, ⟨rfl, rfl⟩, ⟨rfl, rfl⟩, ⟨rfl, rfl⟩, ⟨rfl, rfl⟩, ⟨rfl, rfl⟩, ⟨rfl, rfl⟩, ⟨rfl, rfl⟩, ⟨congrArg (fun n => some (I n)) (wrapK hi (by unfold maxLen; omega)), rfl⟩, trivial⟩ ⟨⟨rfl, rfl, rfl⟩, ⟨rfl, rfl, rfl⟩, ⟨rfl, rfl, rfl⟩, ⟨rfl, rfl, rfl⟩, ⟨rfl, rfl, rfl⟩, ⟨rfl, rfl, rfl⟩, ⟨rfl, rfl, rfl⟩, ⟨rfl, rfl, rfl⟩, trivial⟩ (fun _ _ => .inr (Nat.zero_le _)))
          ·have g130 := h130
           try simp at g130
           refine step_g0 rfl h130 rfl ?_
           refine step_g0 rfl h130 rfl ?_
           refine step_g0 rfl h130 rfl ?_
           refine step_g0 rfl h130 rfl ?_
           refine step_g0 rfl h130 rfl ?_
           refine step_pickF rfl h130 rfl rfl ?_
           refine step_nil ?_
           refine seqK_n ?_
           refine sem_condF rfl ?_
           refine sem_skip ?_
           refine blkK_n ?_
           refine seqK_n ?_
           refine sem_region rfl ?_
           refine step_r rfl rfl trivial ?_
           refine step_bin rfl rfl rfl rfl rfl trivial ?_
           refine step_r rfl rfl trivial ?_
           refine step_nil ?_
           exact lup_again (i_+1, p, Ds) (⟨hi, hM2, by simp [hDs], by have h := bnd_step hBd hln hbb hv; rwa [set_self hcc] at h⟩) (by show f.Script.length - (i_ + 1) < f.Script.length - i_; omega) (less_of rfl ⟨⟨rfl, rfl⟩, ⟨rfl, rfl⟩, ⟨rfl, rfl⟩, ⟨rfl, rfl⟩, ⟨rfl, rfl⟩, ⟨rfl, rfl⟩, ⟨rfl, rfl⟩, ⟨rfl, rfl⟩, ⟨rfl, rfl⟩, ⟨rfl, rfl⟩, ⟨rfl, rfl⟩, ⟨congrArg (fun n => some (I n)) (wrapK hi (by unfold maxLen; omega)), rfl⟩, trivial⟩ ⟨⟨rfl, rfl, rfl⟩, ⟨rfl, rfl, rfl⟩, ⟨rfl, rfl, rfl⟩, ⟨rfl, rfl, rfl⟩, ⟨rfl, rfl, rfl⟩, ⟨rfl, rfl, rfl⟩, ⟨rfl, rfl, rfl⟩, ⟨rfl, rfl, rfl⟩, trivial⟩ (fun _ _ => .inr (Nat.zero_le _)))
        ·have g120 := h120
         try simp at g120
         have hT1 : (fireB f z ⟨0, 0, 0, x, 100, 0, 0, ⟨0, 0⟩, 0⟩ (k : Int)).2.2 = false := by rw [← htu]; exact h120
         have hv : ln.When ≠ 2 → 0 ≤ (cc : Int) ∧ (cc : Int) ≤ if bb = true then 1 else 0 := fun hw => by
          have hb2 := hbe
          rw [if_neg (fun e => by rw [hT1] at e; cases e.1)] at hb2
          rw [hb2]
          exact val_no (hcb hw)
         refine step_g0 rfl h120 rfl ?_
         refine step_g0 rfl h120 rfl ?_
         refine step_g0 rfl h120 rfl ?_
         refine step_g0 rfl h120 rfl ?_
         refine step_g0 rfl h120 rfl ?_
         refine step_g0 rfl h120 rfl ?_
         refine step_g0 rfl h120 rfl ?_
         refine step_g0 rfl h120 rfl ?_
         refine step_g0 rfl h120 rfl ?_
         refine step_pickF rfl h120 rfl rfl ?_
         refine step_nil ?_
         refine seqK_n ?_
         refine sem_condF rfl ?_
         refine sem_skip ?_
         refine seqK_n ?_
         refine sem_seq ?_
         refine sem_region rfl ?_
         refine step_r rfl rfl (by decide) ?_
         refine step_r rfl rfl trivial ?_
         refine step_r rfl rfl trivial ?_
         refine step_idxS (k := i_) rfl rfl rfl rfl hi (flat_ne (s := 5) (enc := encGLine) (fun _ => rfl) (by decide) hi) rfl ?_
         refine step_r rfl rfl (by decide) ?_
         refine step_load_one rfl rfl rfl (flat_get (s := 5) (enc := encGLine) (fun _ => rfl) hln (o := 1) rfl (by decide)) rfl ?_
         refine step_bin rfl rfl rfl rfl rfl trivial ?_
         refine step_r rfl rfl trivial ?_
         refine step_gs rfl (fun h136 => ?_) (fun h136 => ?_)
         ·have g136 := h136
          try simp at g136
          have hwn : ln.When ≠ 2 := by simpa using h136
          refine step_g1 rfl h136 ?_
          refine step_r rfl rfl trivial ?_
          refine step_g1 rfl h136 ?_
          refine step_r rfl rfl trivial ?_
          refine step_g1 rfl h136 ?_
          refine step_idxR (k := i_) rfl rfl rfl rfl hi2 rfl ?_
          refine step_g1 rfl h136 ?_
          refine step_load_oneR rfl rfl rfl rfl (encI_get hcc) rfl ?_
          refine step_g1 rfl h136 ?_
          refine step_bin rfl rfl rfl rfl rfl trivial ?_
          refine step_pickT rfl h136 rfl rfl ?_
          refine step_nil ?_
          refine seqK_n ?_
          refine sem_cond rfl (fun h138 => ?_) (fun h138 => ?_)
          ·have h := of_decide_eq_true h138
           have h2 := hv hwn
           cases bb <;> simp at h2 <;> omega
          ·have g138 := h138
           try simp at g138
           refine sem_skip ?_
           refine blkK_n ?_
           refine seqK_n ?_
           refine sem_region rfl ?_
           refine step_r rfl rfl trivial ?_
           refine step_bin rfl rfl rfl rfl rfl trivial ?_
           refine step_r rfl rfl trivial ?_
           refine step_nil ?_
           exact lup_again (i_+1, p, Ds) (⟨hi, hM2, by simp [hDs], by have h := bnd_step hBd hln hbb hv; rwa [set_self hcc] at h⟩) (by show f.Script.length - (i_ + 1) < f.Script.length - i_; omega) (less_of rfl ⟨⟨rfl, rfl⟩, ⟨rfl, rfl⟩, ⟨rfl, rfl⟩, ⟨rfl, rfl⟩, ⟨rfl, rfl⟩, ⟨rfl, rfl⟩, ⟨rfl, rfl⟩, ⟨rfl, rfl⟩, ⟨rfl, rfl⟩, ⟨rfl, rfl⟩, ⟨rfl, rfl⟩, ⟨congrArg (fun n => some (I n)) (wrapK hi (by unfold maxLen; omega)), rfl⟩, trivial⟩ ⟨⟨rfl, rfl, rfl⟩, ⟨rfl, rfl, rfl⟩, ⟨rfl, rfl, rfl⟩, ⟨rfl, rfl, rfl⟩, ⟨rfl, rfl, rfl⟩, ⟨rfl, rfl, rfl⟩, ⟨rfl, rfl, rfl⟩, ⟨rfl, rfl, rfl⟩, trivial⟩ (fun _ _ => .inr (Nat.zero_le _)))
         ·have g136 := h136
          try simp at g136
          refine step_g0 rfl h136 rfl ?_
          refine step_g0 rfl h136 rfl ?_
          refine step_g0 rfl h136 rfl ?_
          refine step_g0 rfl h136 rfl ?_
          refine step_g0 rfl h136 rfl ?_
          refine step_pickF rfl h136 rfl rfl ?_
          refine step_nil ?_
          refine seqK_n ?_
          refine sem_condF rfl ?_
          refine sem_skip ?_
          refine blkK_n ?_
          refine seqK_n ?_
          refine sem_region rfl ?_
          refine step_r rfl rfl trivial ?_
          refine step_bin rfl rfl rfl rfl rfl trivial ?_
          refine step_r rfl rfl trivial ?_
          refine step_nil ?_
          exact lup_again (i_+1, p, Ds) (⟨hi, hM2, by simp [hDs], by have h := bnd_step hBd hln hbb hv; rwa [set_self hcc] at h⟩) (by show f.Script.length - (i_ + 1) < f.Script.length - i_; omega) (less_of rfl ⟨⟨rfl, rfl⟩, ⟨rfl, rfl⟩, ⟨rfl, rfl⟩, ⟨rfl, rfl⟩, ⟨rfl, rfl⟩, ⟨rfl, rfl⟩, ⟨rfl, rfl⟩, ⟨rfl, rfl⟩, ⟨rfl, rfl⟩, ⟨rfl, rfl⟩, ⟨rfl, rfl⟩, ⟨congrArg (fun n => some (I n)) (wrapK hi (by unfold maxLen; omega)), rfl⟩, trivial⟩ ⟨⟨rfl, rfl, rfl⟩, ⟨rfl, rfl, rfl⟩, ⟨rfl, rfl, rfl⟩, ⟨rfl, rfl, rfl⟩, ⟨rfl, rfl, rfl⟩, ⟨rfl, rfl, rfl⟩, ⟨rfl, rfl, rfl⟩, ⟨rfl, rfl, rfl⟩, trivial⟩ (fun _ _ => .inr (Nat.zero_le _)))
      ·obtain ⟨j1, hM, hDs, hBd⟩ := hI
       have hi : i_ = f.Script.length := by have h := h43; simp at h; omega
       subst hi
       have hpe := mid_end hM
       refine sem_exit ?_
       refine seqK_e ?_
       refine lupK_e ?_
       refine blkK_t rfl ?_
       refine seqK_n ?_
       refine sem_seq ?_
       refine sem_seq ?_
       refine sem_region rfl ?_
       refine step_r rfl rfl trivial ?_
       refine step_r rfl rfl trivial ?_
       refine step_r rfl rfl trivial ?_
       refine step_bin rfl rfl rfl rfl rfl trivial ?_
       refine step_nil ?_
       refine seqK_n ?_
       refine sem_cond rfl (fun h142 => ?_) (fun h142 => ?_)
       ·have h := h142
        rw [hpe] at h
        simp at h
       ·have g142 := h142
        try simp at g142
        refine sem_skip ?_
        refine seqK_n ?_
        refine sem_seq ?_
        refine sem_region rfl ?_
        refine step_r (v := (.agg [_, _, _, _, _, _, _, _])) rfl rfl (Nat.le_of_ble_eq_true rfl) ?_
        refine step_r (v := (.agg [_, _, _, _])) rfl rfl (Nat.le_of_ble_eq_true rfl) ?_
        refine step_r (v := (.agg [_, _, _, _, _, _, _, _, _, _])) rfl rfl (Nat.le_of_ble_eq_true rfl) ?_
        refine step_r rfl rfl trivial ?_
        refine step_callJ (Hin := [.row _ _ _]) (out' := .tup [.agg [_, _, .ref 8 _ _ _, _], .ref 9 _ _ _]) (H' := [(8, .row _ _ _), (9, .row _ _ _), (0, .box [_, _, _, _, _, _, _, _]), (1, .row _ _ _), (2, .box [_, _, _, _]), (3, .row _ _ _), (4, .box [_, _, _, _, _, _, _, _, _, _]), (5, .row _ _ _), (6, .row _ _ _), (7, .box [_, _, _, _])]) (nx' := 10) [5] rfl rfl rfl rfl rfl rfl rfl rfl rfl (by (repeat' apply And.intro) <;> first | trivial | rfl | exact flat_len (fun _ => rfl) _ | exact encI_len _ | exact encB_len _ | exact encY_len _ | assumption) (run_ok f ((runB f z (⟨0, 0, 0, x, 100, 0, 0, (⟨0, 0⟩ : GPos), 0⟩ : GUnit) k).1) (⟨0, 0, 0, x, 100, 0, 0, (⟨0, 0⟩ : GPos), 0⟩ : GUnit) k (by first | omega | decide +kernel | (simp; done) | (simp; omega) | simp_all) (by first | omega | decide +kernel | (simp; done) | (simp; omega) | simp_all)) rfl (by decide) rfl rfl ⟨encB_solid, encGLine_solid, trivial⟩ rfl rfl rfl rfl ?_
        refine step_r rfl rfl trivial ?_
        refine step_r rfl rfl trivial ?_
        refine step_r rfl rfl trivial ?_
        refine step_n (o := .box [_, _, _, _]) (nx' := 11) rfl rfl rfl trivial ?_
        refine step_store (H' := [(10, .box [_, _, _, _]), (8, .row _ _ _), (9, .row _ _ _), (0, .box [_, _, _, _, _, _, _, _]), (1, .row _ _ _), (2, .box [_, _, _, _]), (3, .row _ _ _), (4, .box [_, _, _, _, _, _, _, _, _, _]), (5, .row _ _ _), (6, .row _ _ _), (7, .box [_, _, _, _])]) rfl rfl rfl rfl rfl rfl (Nat.le_of_ble_eq_true rfl) (.inl rfl) rfl ?_
        refine step_r rfl rfl trivial ?_
        refine step_nil ?_
        refine seqK_n ?_
        refine sem_seq ?_
        refine sem_seq ?_
        refine sem_region rfl ?_
        refine step_r rfl rfl trivial ?_
        refine step_nil ?_
        refine seqK_n ?_
        refine sem_block ?_
        refine sem_loop_of (fun q : Nat => (⟨[(1, .pv (.slc healths.length healths_f (encI healths))), (2, .ptr 0 0), (5, B true), (6, .ptr 2 0), (8, .ref 3 1 0 Ds.length), (9, I k), (11, .ptr 7 0), (13, B (turnedL ((runB f z ⟨0, 0, 0, x, 100, 0, 0, ⟨0, 0⟩, 0⟩ (k : Int)).2.take j))), (17, .ptr 10 0), (18, .ref 9 5 0 (runB f ((runB f z (⟨0, 0, 0, x, 100, 0, 0, (⟨0, 0⟩ : GPos), 0⟩ : GUnit) k).1) (⟨0, 0, 0, x, 100, 0, 0, (⟨0, 0⟩ : GPos), 0⟩ : GUnit) k).2.length), (19, I q)], [(0, .box [I f.Id, I f.Health, I f.Hit, I f.Every, I f.Reach, .pv (.slc f.Script.length false (f.Script.flatMap encGLine)), .pv (.slc f.Hoard.length false (f.Hoard.flatMap encGPrize)), I f.Drops]), (1, .row 4 1 (encB z.Came)), (2, .box [I z.Phase, I z.Since, .ref 1 1 0 z.Came.length, I z.Rage]), (3, .row 3 1 (encI Ds)), (5, .row 4 1 (encB (runB f z (⟨0, 0, 0, x, 100, 0, 0, (⟨0, 0⟩ : GPos), 0⟩ : GUnit) k).1.Came)), (7, .box [I (runB f z (⟨0, 0, 0, x, 100, 0, 0, (⟨0, 0⟩ : GPos), 0⟩ : GUnit) k).1.Phase, I (runB f z (⟨0, 0, 0, x, 100, 0, 0, (⟨0, 0⟩ : GPos), 0⟩ : GUnit) k).1.Since, .ref 5 1 0 (runB f z (⟨0, 0, 0, x, 100, 0, 0, (⟨0, 0⟩ : GPos), 0⟩ : GUnit) k).1.Came.length, I (runB f z (⟨0, 0, 0, x, 100, 0, 0, (⟨0, 0⟩ : GPos), 0⟩ : GUnit) k).1.Rage]), (8, .row 4 1 (encB (runB f ((runB f z (⟨0, 0, 0, x, 100, 0, 0, (⟨0, 0⟩ : GPos), 0⟩ : GUnit) k).1) (⟨0, 0, 0, x, 100, 0, 0, (⟨0, 0⟩ : GPos), 0⟩ : GUnit) k).1.Came)), (9, .row 40 5 ((runB f ((runB f z (⟨0, 0, 0, x, 100, 0, 0, (⟨0, 0⟩ : GPos), 0⟩ : GUnit) k).1) (⟨0, 0, 0, x, 100, 0, 0, (⟨0, 0⟩ : GPos), 0⟩ : GUnit) k).2.flatMap encGLine)), (10, .box [I (runB f ((runB f z (⟨0, 0, 0, x, 100, 0, 0, (⟨0, 0⟩ : GPos), 0⟩ : GUnit) k).1) (⟨0, 0, 0, x, 100, 0, 0, (⟨0, 0⟩ : GPos), 0⟩ : GUnit) k).1.Phase, I (runB f ((runB f z (⟨0, 0, 0, x, 100, 0, 0, (⟨0, 0⟩ : GPos), 0⟩ : GUnit) k).1) (⟨0, 0, 0, x, 100, 0, 0, (⟨0, 0⟩ : GPos), 0⟩ : GUnit) k).1.Since, .ref 8 1 0 (runB f ((runB f z (⟨0, 0, 0, x, 100, 0, 0, (⟨0, 0⟩ : GPos), 0⟩ : GUnit) k).1) (⟨0, 0, 0, x, 100, 0, 0, (⟨0, 0⟩ : GPos), 0⟩ : GUnit) k).1.Came.length, I (runB f ((runB f z (⟨0, 0, 0, x, 100, 0, 0, (⟨0, 0⟩ : GPos), 0⟩ : GUnit) k).1) (⟨0, 0, 0, x, 100, 0, 0, (⟨0, 0⟩ : GPos), 0⟩ : GUnit) k).1.Rage])], 11, [], 238, 0⟩ : St)) (fun q : Nat => q ≤ (runB f (runB f z ⟨0, 0, 0, x, 100, 0, 0, ⟨0, 0⟩, 0⟩ (k : Int)).1 ⟨0, 0, 0, x, 100, 0, 0, ⟨0, 0⟩, 0⟩ (k : Int)).2.length) (fun q : Nat => (runB f (runB f z ⟨0, 0, 0, x, 100, 0, 0, ⟨0, 0⟩, 0⟩ (k : Int)).1 ⟨0, 0, 0, x, 100, 0, 0, ⟨0, 0⟩, 0⟩ (k : Int)).2.length - q) 0 (Nat.zero_le _) (less_of rfl ⟨⟨rfl, rfl⟩, ⟨rfl, rfl⟩, ⟨rfl, rfl⟩, ⟨rfl, rfl⟩, ⟨rfl, rfl⟩, ⟨rfl, rfl⟩, ⟨rfl, rfl⟩, ⟨rfl, rfl⟩, ⟨rfl, rfl⟩, ⟨rfl, rfl⟩, ⟨rfl, rfl⟩, trivial⟩ ⟨⟨rfl, rfl, rfl⟩, ⟨rfl, rfl, rfl⟩, ⟨rfl, rfl, rfl⟩, ⟨rfl, rfl, rfl⟩, ⟨rfl, rfl, rfl⟩, ⟨rfl, rfl, rfl⟩, ⟨rfl, rfl, rfl⟩, ⟨rfl, rfl, rfl⟩, ⟨rfl, rfl, rfl⟩, trivial⟩ (fun _ _ => .inr (Nat.zero_le _))) (fun q hI => ?_)
        show Walks Try.prog _ _ (⟨[(1, .pv (.slc healths.length healths_f (encI healths))), (2, .ptr 0 0), (5, B true), (6, .ptr 2 0), (8, .ref 3 1 0 Ds.length), (9, I k), (11, .ptr 7 0), (13, B (turnedL ((runB f z ⟨0, 0, 0, x, 100, 0, 0, ⟨0, 0⟩, 0⟩ (k : Int)).2.take j))), (17, .ptr 10 0), (18, .ref 9 5 0 (runB f ((runB f z (⟨0, 0, 0, x, 100, 0, 0, (⟨0, 0⟩ : GPos), 0⟩ : GUnit) k).1) (⟨0, 0, 0, x, 100, 0, 0, (⟨0, 0⟩ : GPos), 0⟩ : GUnit) k).2.length), (19, I q)], [(0, .box [I f.Id, I f.Health, I f.Hit, I f.Every, I f.Reach, .pv (.slc f.Script.length false (f.Script.flatMap encGLine)), .pv (.slc f.Hoard.length false (f.Hoard.flatMap encGPrize)), I f.Drops]), (1, .row 4 1 (encB z.Came)), (2, .box [I z.Phase, I z.Since, .ref 1 1 0 z.Came.length, I z.Rage]), (3, .row 3 1 (encI Ds)), (5, .row 4 1 (encB (runB f z (⟨0, 0, 0, x, 100, 0, 0, (⟨0, 0⟩ : GPos), 0⟩ : GUnit) k).1.Came)), (7, .box [I (runB f z (⟨0, 0, 0, x, 100, 0, 0, (⟨0, 0⟩ : GPos), 0⟩ : GUnit) k).1.Phase, I (runB f z (⟨0, 0, 0, x, 100, 0, 0, (⟨0, 0⟩ : GPos), 0⟩ : GUnit) k).1.Since, .ref 5 1 0 (runB f z (⟨0, 0, 0, x, 100, 0, 0, (⟨0, 0⟩ : GPos), 0⟩ : GUnit) k).1.Came.length, I (runB f z (⟨0, 0, 0, x, 100, 0, 0, (⟨0, 0⟩ : GPos), 0⟩ : GUnit) k).1.Rage]), (8, .row 4 1 (encB (runB f ((runB f z (⟨0, 0, 0, x, 100, 0, 0, (⟨0, 0⟩ : GPos), 0⟩ : GUnit) k).1) (⟨0, 0, 0, x, 100, 0, 0, (⟨0, 0⟩ : GPos), 0⟩ : GUnit) k).1.Came)), (9, .row 40 5 ((runB f ((runB f z (⟨0, 0, 0, x, 100, 0, 0, (⟨0, 0⟩ : GPos), 0⟩ : GUnit) k).1) (⟨0, 0, 0, x, 100, 0, 0, (⟨0, 0⟩ : GPos), 0⟩ : GUnit) k).2.flatMap encGLine)), (10, .box [I (runB f ((runB f z (⟨0, 0, 0, x, 100, 0, 0, (⟨0, 0⟩ : GPos), 0⟩ : GUnit) k).1) (⟨0, 0, 0, x, 100, 0, 0, (⟨0, 0⟩ : GPos), 0⟩ : GUnit) k).1.Phase, I (runB f ((runB f z (⟨0, 0, 0, x, 100, 0, 0, (⟨0, 0⟩ : GPos), 0⟩ : GUnit) k).1) (⟨0, 0, 0, x, 100, 0, 0, (⟨0, 0⟩ : GPos), 0⟩ : GUnit) k).1.Since, .ref 8 1 0 (runB f ((runB f z (⟨0, 0, 0, x, 100, 0, 0, (⟨0, 0⟩ : GPos), 0⟩ : GUnit) k).1) (⟨0, 0, 0, x, 100, 0, 0, (⟨0, 0⟩ : GPos), 0⟩ : GUnit) k).1.Came.length, I (runB f ((runB f z (⟨0, 0, 0, x, 100, 0, 0, (⟨0, 0⟩ : GPos), 0⟩ : GUnit) k).1) (⟨0, 0, 0, x, 100, 0, 0, (⟨0, 0⟩ : GPos), 0⟩ : GUnit) k).1.Rage])], 11, [], 238, 0⟩ : St)
        refine sem_seq ?_
        refine sem_seq ?_
        refine sem_region rfl ?_
        refine step_r rfl rfl trivial ?_
        refine step_r rfl rfl trivial ?_
        refine step_r rfl rfl trivial ?_
        refine step_bin rfl rfl rfl rfl rfl trivial ?_
        refine step_nil ?_
        refine seqK_n ?_
        refine sem_cond rfl (fun h145 => ?_) (fun h145 => ?_)
        ·have hq : q < (runB f (runB f z ⟨0, 0, 0, x, 100, 0, 0, ⟨0, 0⟩, 0⟩ (k : Int)).1 ⟨0, 0, 0, x, 100, 0, 0, ⟨0, 0⟩, 0⟩ (k : Int)).2.length := by simpa using h145
         obtain ⟨y, hy⟩ : ∃ z_, (runB f (runB f z ⟨0, 0, 0, x, 100, 0, 0, ⟨0, 0⟩, 0⟩ (k : Int)).1 ⟨0, 0, 0, x, 100, 0, 0, ⟨0, 0⟩, 0⟩ (k : Int)).2[q]? = some z_ := ⟨_, List.getElem?_eq_getElem hq⟩
         refine sem_skip ?_
         refine seqK_n ?_
         refine sem_seq ?_
         refine sem_block ?_
         refine sem_seq ?_
         refine sem_region rfl ?_
         refine step_r rfl rfl trivial ?_
         refine step_r rfl rfl trivial ?_
         refine step_r rfl rfl trivial ?_
         refine step_gs rfl (fun h148 => ?_) (fun h148 => ?_)
         ·have g148 := h148
          try simp at g148
          have hT0 : (fireB f z ⟨0, 0, 0, x, 100, 0, 0, ⟨0, 0⟩, 0⟩ (k : Int)).2.2 = false := by rw [← htu]; simpa using h148
          have hme := more_every (hT0 ▸ hT) hzl (by rw [htl, hzl]) y (List.mem_of_getElem? hy)
          refine step_g1 rfl h148 ?_
          refine step_r rfl rfl trivial ?_
          refine step_g1 rfl h148 ?_
          refine step_r rfl rfl trivial ?_
          refine step_g1 rfl h148 ?_
          refine step_idxR (k := q) rfl rfl rfl rfl hq rfl ?_
          refine step_g1 rfl h148 ?_
          refine step_r rfl rfl (by decide) ?_
          refine step_g1 rfl h148 ?_
          refine step_load_oneR rfl rfl rfl rfl (flat_get (s := 5) (enc := encGLine) (fun _ => rfl) hy (o := 1) rfl (by decide)) rfl ?_
          refine step_g1 rfl h148 ?_
          refine step_bin rfl rfl rfl rfl rfl trivial ?_
          refine step_pickT rfl h148 rfl rfl ?_
          refine step_nil ?_
          refine seqK_n ?_
          refine sem_cond rfl (fun h150 => ?_) (fun h150 => ?_)
          ·have h := h150
           rw [hme] at h
           simp at h
          ·have g150 := h150
           try simp at g150
           refine sem_skip ?_
           refine blkK_n ?_
           refine seqK_n ?_
           refine sem_region rfl ?_
           refine step_r rfl rfl trivial ?_
           refine step_bin rfl rfl rfl rfl rfl trivial ?_
           refine step_r rfl rfl trivial ?_
           refine step_nil ?_
           exact lup_again (q+1) (hq) (by omega) (less_of rfl ⟨⟨rfl, rfl⟩, ⟨rfl, rfl⟩, ⟨rfl, rfl⟩, ⟨rfl, rfl⟩, ⟨rfl, rfl⟩, ⟨rfl, rfl⟩, ⟨rfl, rfl⟩, ⟨rfl, rfl⟩, ⟨rfl, rfl⟩, ⟨rfl, rfl⟩, ⟨congrArg (fun n => some (I n)) (wrapK hq (by unfold maxLen; have := runB_out (f := f) (s := (runB f z ⟨0, 0, 0, x, 100, 0, 0, ⟨0, 0⟩, 0⟩ (k : Int)).1) (u := ⟨0, 0, 0, x, 100, 0, 0, ⟨0, 0⟩, 0⟩) (now := (k : Int)); omega)), rfl⟩, trivial⟩ ⟨⟨rfl, rfl, rfl⟩, ⟨rfl, rfl, rfl⟩, ⟨rfl, rfl, rfl⟩, ⟨rfl, rfl, rfl⟩, ⟨rfl, rfl, rfl⟩, ⟨rfl, rfl, rfl⟩, ⟨rfl, rfl, rfl⟩, ⟨rfl, rfl, rfl⟩, ⟨rfl, rfl, rfl⟩, trivial⟩ (fun _ _ => .inr (Nat.zero_le _)))
         ·have g148 := h148
          try simp at g148
          refine step_g0 rfl h148 rfl ?_
          refine step_g0 rfl h148 rfl ?_
          refine step_g0 rfl h148 rfl ?_
          refine step_g0 rfl h148 rfl ?_
          refine step_g0 rfl h148 rfl ?_
          refine step_g0 rfl h148 rfl ?_
          refine step_pickF rfl h148 rfl rfl ?_
          refine step_nil ?_
          refine seqK_n ?_
          refine sem_condF rfl ?_
          refine sem_skip ?_
          refine blkK_n ?_
          refine seqK_n ?_
          refine sem_region rfl ?_
          refine step_r rfl rfl trivial ?_
          refine step_bin rfl rfl rfl rfl rfl trivial ?_
          refine step_r rfl rfl trivial ?_
          refine step_nil ?_
          exact lup_again (q+1) (hq) (by omega) (less_of rfl ⟨⟨rfl, rfl⟩, ⟨rfl, rfl⟩, ⟨rfl, rfl⟩, ⟨rfl, rfl⟩, ⟨rfl, rfl⟩, ⟨rfl, rfl⟩, ⟨rfl, rfl⟩, ⟨rfl, rfl⟩, ⟨rfl, rfl⟩, ⟨rfl, rfl⟩, ⟨congrArg (fun n => some (I n)) (wrapK hq (by unfold maxLen; have := runB_out (f := f) (s := (runB f z ⟨0, 0, 0, x, 100, 0, 0, ⟨0, 0⟩, 0⟩ (k : Int)).1) (u := ⟨0, 0, 0, x, 100, 0, 0, ⟨0, 0⟩, 0⟩) (now := (k : Int)); omega)), rfl⟩, trivial⟩ ⟨⟨rfl, rfl, rfl⟩, ⟨rfl, rfl, rfl⟩, ⟨rfl, rfl, rfl⟩, ⟨rfl, rfl, rfl⟩, ⟨rfl, rfl, rfl⟩, ⟨rfl, rfl, rfl⟩, ⟨rfl, rfl, rfl⟩, ⟨rfl, rfl, rfl⟩, ⟨rfl, rfl, rfl⟩, trivial⟩ (fun _ _ => .inr (Nat.zero_le _)))
        ·have g145 := h145
         try simp at g145
         refine sem_exit ?_
         refine seqK_e ?_
         refine lupK_e ?_
         refine blkK_t rfl ?_
         refine seqK_n ?_
         refine sem_seq ?_
         refine sem_seq ?_
         refine sem_region rfl ?_
         refine step_r (v := (.agg [_, _, _, _, _, _, _, _])) rfl rfl (Nat.le_of_ble_eq_true rfl) ?_
         refine step_r (v := (.agg [_, _, _, _])) rfl rfl (Nat.le_of_ble_eq_true rfl) ?_
         refine step_callJ (Hin := [.row _ _ _]) (H' := [(0, .box [_, _, _, _, _, _, _, _]), (1, .row _ _ _), (2, .box [_, _, _, _]), (3, .row _ _ _), (5, .row _ _ _), (7, .box [_, _, _, _]), (8, .row _ _ _), (9, .row _ _ _), (10, .box [_, _, _, _])]) (nx' := 11) [8] rfl rfl rfl rfl rfl rfl rfl rfl rfl (by (repeat' apply And.intro) <;> first | trivial | rfl | exact flat_len (fun _ => rfl) _ | exact encI_len _ | exact encB_len _ | exact encY_len _ | assumption) (rightB_ok f ((runB f ((runB f z (⟨0, 0, 0, x, 100, 0, 0, (⟨0, 0⟩ : GPos), 0⟩ : GUnit) k).1) (⟨0, 0, 0, x, 100, 0, 0, (⟨0, 0⟩ : GPos), 0⟩ : GUnit) k).1)) rfl (by decide) rfl rfl trivial rfl rfl rfl rfl ?_
         refine step_r rfl rfl trivial ?_
         refine step_nil ?_
         refine seqK_n ?_
         refine sem_cond rfl (fun h153 => ?_) (fun h153 => ?_)
         ·have h := h153
          simp [runB_len, htl, hzl] at h
         ·have g153 := h153
          try simp at g153
          refine sem_skip ?_
          refine seqK_n ?_
          refine sem_region rfl ?_
          refine step_r (v := (.agg [_, _, _, _])) rfl rfl (Nat.le_of_ble_eq_true rfl) ?_
          refine step_store (H' := [(0, .box [_, _, _, _, _, _, _, _]), (1, .row _ _ _), (2, .box [_, _, _, _]), (3, .row _ _ _), (5, .row _ _ _), (7, .box [_, _, _, _]), (8, .row _ _ _), (9, .row _ _ _), (10, .box [_, _, _, _])]) rfl rfl rfl rfl rfl rfl (Nat.le_of_ble_eq_true rfl) (.inl rfl) rfl ?_
          refine step_nil ?_
          refine blkK_n ?_
          refine seqK_n ?_
          refine sem_region rfl ?_
          refine step_r rfl rfl trivial ?_
          refine step_bin rfl rfl rfl rfl rfl trivial ?_
          refine step_r rfl rfl trivial ?_
          refine step_nil ?_
          exact lup_againT (k+1, (runB f z ⟨0, 0, 0, x, 100, 0, 0, ⟨0, 0⟩, 0⟩ (k : Int)).1, Ds) (⟨hk, by rw [htl, hzl], hDs, bnd_next hBd⟩) (by show healths.length - (k + 1) < healths.length - k; omega) (Trans.ren [(1, 5)] (by decide +kernel) (by decide +kernel) rfl ⟨⟨rfl, rfl⟩, ⟨rfl, rfl⟩, ⟨rfl, rfl⟩, ⟨rfl, rfl⟩, ⟨rfl, rfl⟩, ⟨congrArg (fun n => some (I n)) (wrapK hk (by assumption)), rfl⟩, trivial⟩ ⟨⟨rfl, rfl, rfl⟩, ⟨rfl, rfl, rfl⟩, ⟨rfl, rfl, rfl⟩, ⟨rfl, rfl, rfl⟩, trivial⟩ (by decide))
   ·have g7 := h7
    try simp at g7
    refine sem_exit ?_
    refine seqK_e ?_
    refine lupK_e ?_
    refine blkK_t rfl ?_
    refine seqK_n ?_
    refine sem_seq ?_
    refine sem_region rfl ?_
    refine step_r rfl rfl trivial ?_
    refine step_r rfl rfl trivial ?_
    refine step_nil ?_
    refine seqK_n ?_
    refine sem_ret ?_
    exact answersR rfl ⟨trivial, trivial⟩ (rfl) rfl
end Go.Proofs.Ytkncpoaddamlbaa
