import Derived.Test.YtppnccjeggnllaaGreatVmU
namespace Go.Proofs.YtppnccjeggnllaaGreatVm
open Go Go.RowKit
set_option linter.all false
def zh1 (c : Ctx) (H : Heap) (fz : List Nat) (b : Nat) : Prop := c.I b ∨ ∃ id cap o, id ∈ fz ∧ hget H id = some o ∧ c.φ id = some (.blk b cap)
mutual
def frzB (H : Heap) (fz : List Nat) : AV → Option (Prop × AV)
 | .ref id sz off n => if id ∈ fz then match hget H id with
   | some (.row _ sz' cs) => some (off = 0 ∧ sz' = sz ∧ cs.length = n * sz, .pv (.slc n false cs))
   | _ => none
  else some (True, .ref id sz off n)
 | .ptr id off => if id ∈ fz then match hget H id with
   | some (.row _ _ cs) => some (True, .pptr cs off)
   | some (.box cs) => match pvs cs with
    | some ps => some (True, .pptr ps off)
    | none => none
   | _ => none
  else some (True, .ptr id off)
 | .agg cs => match zfw H fz cs with
  | some (c, vs) => some (c, .agg vs)
  | none => none
 | .tup cs => match zfw H fz cs with
  | some (c, vs) => some (c, .tup vs)
  | none => none
 | .fnc f cs => match zfw H fz cs with
  | some (c, vs) => some (c, .fnc f vs)
  | none => none
 | .bnd f q cs => match zfw H fz cs with
  | some (c, vs) => some (c, .bnd f q vs)
  | none => none
 | .view id off n => if id ∈ fz then match hget H id with
   | some (.box cs) => match pvs cs with
    | some ps => some (off + n ≤ ps.length, .pv (.slc n false ((ps.drop off).take n)))
    | none => none
   | _ => none
  else some (True, .view id off n)
 | .pv (.slc n _ cs) => some (True, .pv (.slc n false cs))
 | v => some (True, v)
def zfw (H : Heap) (fz : List Nat) : List AV → Option (Prop × List AV)
 | [] => some (True, [])
 | a :: as => match frzB H fz a, zfw H fz as with
  | some (c, v), some (cs, vs) => some (c ∧ cs, v :: vs)
  | _, _ => none
end
mutual
theorem zon {c c2 : Ctx} {w : World} {H : Heap} {fz : List Nat} (hH : zcX c w H) (hmono : zaT c c2 w w) (hgo : Goes c c2) (hI : ∀ b, c2.I b ↔ zh1 c H fz b) : ∀ (a : AV) (v : Value) (cf : Prop) (b : AV), frzB H fz a = some (cf, b) → cf → Rep c w a v → Rep c2 w b v
 | .ref id sz off n, v, cf, b, h, hc, hr => by
  simp only [frzB] at h
  split at h
  ·rename_i hid
   split at h
   case h_2 => simp at h
   rename_i e sz' cs hg
   obtain ⟨rfl, rfl⟩ := z9 h
   obtain ⟨rfl, rfl, hl⟩ := hc
   simp only [Rep, RepP] at hr ⊢
   rcases hr with ⟨h1, _, rfl, a, rfl⟩ | ⟨bl, cap, a, h1, rfl, h2, h3, h4⟩
   ·have : cs = [] := hH id _ _ hg h1
    exact ⟨a, 0, rfl, Nat.le_refl _, Nat.zero_le _, (by simp), .inl ⟨rfl, this⟩⟩
   ·refine ⟨a, cap, by simp, by omega, h3, (by simp), ?_⟩
    obtain ⟨arr, hb, _, _, hle, hrl⟩ := hH id _ _ hg h1
    rcases h4 with rfl | h4
    ·right
     refine ⟨bl, 0, by simp, (hI bl).2 (.inr ⟨id, cap, _, hid, hg, h1⟩), zcW hb cs 0 ?_⟩
     rw [List.drop_zero]
     exact RepL.mono hmono hgo _ _ hrl
    ·left
     have : n = 0 := by omega
     subst this
     exact ⟨rfl, List.eq_nil_of_length_eq_zero (by omega)⟩
  ·obtain ⟨rfl, rfl⟩ := z9 h
   exact Rep.mono hmono hgo _ _ hr
 | .ptr id off, v, cf, b, h, hc, hr => by
  simp only [frzB] at h
  split at h
  ·rename_i hid
   have hr' := hr
   simp only [Rep] at hr'
   obtain ⟨bl, cap, h1, hv⟩ := hr'
   split at h
   ·rename_i e sz' cs hg
    obtain ⟨rfl, rfl⟩ := z9 h
    obtain ⟨arr, hb, _, _, hle, hrl⟩ := hH id _ _ hg h1
    simp only [Rep]
    refine ⟨bl, 0, by simpa using hv, (hI bl).2 (.inr ⟨id, cap, _, hid, hg, h1⟩), zcW hb cs 0 ?_⟩
    rw [List.drop_zero]
    exact RepL.mono hmono hgo _ _ hrl
   ·rename_i cs hg
    split at h
    case h_2 => simp at h
    rename_i ps hps
    obtain ⟨rfl, rfl⟩ := z9 h
    obtain ⟨arr, t, hb, hrl⟩ := hH id _ _ hg h1
    have e := zhl hps
    subst e
    simp only [Rep]
    refine ⟨bl, 0, by simpa using hv, (hI bl).2 (.inr ⟨id, cap, _, hid, hg, h1⟩), zcW hb ps 0 ?_⟩
    have hlen := zW hrl
    simp only [List.length_map] at hlen
    rw [List.drop_zero, hlen, List.take_length]
    exact RepL.mono hmono hgo _ _ hrl
   ·simp at h
  ·obtain ⟨rfl, rfl⟩ := z9 h
   exact Rep.mono hmono hgo _ _ hr
 | .agg cs, v, cf, b, h, hc, hr => by
  simp only [frzB] at h
  split at h
  case h_2 => simp at h
  rename_i c1 vs h1
  obtain ⟨rfl, rfl⟩ := z9 h
  simp only [Rep] at hr ⊢
  obtain ⟨us, hv, hl⟩ := hr
  exact ⟨us, hv, zc8 hH hmono hgo hI cs _ _ _ h1 hc hl⟩
 | .tup cs, v, cf, b, h, hc, hr => by
  simp only [frzB] at h
  split at h
  case h_2 => simp at h
  rename_i c1 vs h1
  obtain ⟨rfl, rfl⟩ := z9 h
  simp only [Rep] at hr ⊢
  obtain ⟨us, hv, hl⟩ := hr
  exact ⟨us, hv, zc8 hH hmono hgo hI cs _ _ _ h1 hc hl⟩
 | .fnc f cs, v, cf, b, h, hc, hr => by
  simp only [frzB] at h
  split at h
  case h_2 => simp at h
  rename_i c1 vs h1
  obtain ⟨rfl, rfl⟩ := z9 h
  simp only [Rep] at hr ⊢
  obtain ⟨us, hv, hl⟩ := hr
  exact ⟨us, hv, zc8 hH hmono hgo hI cs _ _ _ h1 hc hl⟩
 | .bnd f q cs, v, cf, b, h, hc, hr => by
  simp only [frzB] at h
  split at h
  case h_2 => simp at h
  rename_i c1 vs h1
  obtain ⟨rfl, rfl⟩ := z9 h
  simp only [Rep] at hr ⊢
  obtain ⟨us, ws, hv, h0, hl⟩ := hr
  exact ⟨us, ws, hv, h0, zc8 hH hmono hgo hI cs _ _ _ h1 hc hl⟩
 | .undef, v, cf, b, h, hc, hr => by simp only [frzB] at h; obtain ⟨rfl, rfl⟩ := z9 h; exact Rep.mono hmono hgo _ _ hr
 | .pv p, v, cf, b, h, hc, hr => by
  have hr' := Rep.mono hmono hgo _ _ hr
  cases p with
  | slc n full cs =>
   simp only [frzB] at h
   obtain ⟨rfl, rfl⟩ := z9 h
   simp only [Rep, RepP] at hr' ⊢
   obtain ⟨a, cap, h1, h2, h3, h4, h5⟩ := hr'
   exact ⟨a, cap, h1, h2, h3, by simp, h5⟩
  | _ => simp only [frzB] at h; obtain ⟨rfl, rfl⟩ := z9 h; exact hr'
 | .pptr cs off, v, cf, b, h, hc, hr => by simp only [frzB] at h; obtain ⟨rfl, rfl⟩ := z9 h; exact Rep.mono hmono hgo _ _ hr
 | .view id off n, v, cf, b, h, hc, hr => by
  simp only [frzB] at h
  split at h
  ·rename_i hid
   have hr' := hr
   simp only [Rep] at hr'
   obtain ⟨bl, cap, cp, a, h1, rfl, h2, h3, h4⟩ := hr'
   split at h
   ·rename_i cs hg
    split at h
    case h_2 => simp at h
    rename_i ps hps
    obtain ⟨rfl, rfl⟩ := z9 h
    obtain ⟨arr, t, hb, hrl⟩ := hH id _ _ hg h1
    have e := zhl hps
    subst e
    simp only [Rep, RepP]
    refine ⟨a, cp, rfl, h2, h3, by simp, ?_⟩
    rcases h4 with rfl | rfl
    ·right
     refine ⟨bl, off, rfl, (hI bl).2 (.inr ⟨id, cap, _, hid, hg, h1⟩), ?_⟩
     have h0 : z4 c2 w bl 0 ps := by
      refine zcW hb ps 0 ?_
      have hlen := zW hrl
      simp only [List.length_map] at hlen
      rw [List.drop_zero, hlen, List.take_length]
      exact RepL.mono hmono hgo _ _ hrl
     have := zde (k := n) (zcG (k := off) h0)
     rwa [Nat.zero_add] at this
    ·left; simp
   ·simp at h
  ·obtain ⟨rfl, rfl⟩ := z9 h
   exact Rep.mono hmono hgo _ _ hr
 | .mapr id, v, cf, b, h, hc, hr => by simp only [frzB] at h; obtain ⟨rfl, rfl⟩ := z9 h; exact Rep.mono hmono hgo _ _ hr
theorem zc8 {c c2 : Ctx} {w : World} {H : Heap} {fz : List Nat} (hH : zcX c w H) (hmono : zaT c c2 w w) (hgo : Goes c c2) (hI : ∀ b, c2.I b ↔ zh1 c H fz b) : ∀ (as : List AV) (vs : List Value) (cf : Prop) (bs : List AV), zfw H fz as = some (cf, bs) → cf → RepL c w as vs → RepL c2 w bs vs
 | [], vs, cf, bs, h, _, hr => by simp only [zfw] at h; obtain ⟨_, rfl⟩ := z9 h; cases vs <;> simp_all [RepL]
 | a :: as, v :: vs, cf, bs, h, hc, hr => by
  simp only [zfw] at h
  split at h
  case h_2 => simp at h
  rename_i c1 b c2' bs' h1 h2
  obtain ⟨rfl, rfl⟩ := z9 h
  simp only [RepL] at hr ⊢
  exact ⟨zon hH hmono hgo hI a v _ _ h1 hc.1 hr.1, zc8 hH hmono hgo hI as vs _ _ h2 hc.2 hr.2⟩
 | _ :: _, [], _, _, _, _, hr => by simp [RepL] at hr
end
theorem Ok.borrowJ {P : Program} {f : FuncId} {args args' : List AV} {Hin Hnew : List VObj} {out : AV} {cond : Prop} (h : Ok P f args' [] out Hnew []) (hf : zfw (idx 0 Hin) (List.range Hin.length) args = some (cond, args')) (hc : cond) (hb : zau 0 args' = true)
  (hso : YtppnccjeggnllaaGreatVm.solid out = true) (hsn : ∀ o ∈ Hnew, znU o) : Ok P f args Hin (ren (· + Hin.length) out) (Hin ++ Hnew.map (renO (· + Hin.length))) [] := by
 intro c w vals hargs hrel hnone
 let fz : Nat → Prop := fun b => ∃ id cap, id < Hin.length ∧ c.φ id = some (.blk b cap)
 let c1 : Ctx := { φ := c.φ, I := zh1 c (idx 0 Hin) (List.range Hin.length) }
 let c2 : Ctx := { φ := fun _ => none, I := zh1 c (idx 0 Hin) (List.range Hin.length) }
 have hrowg : ∀ {id o}, hget (idx 0 Hin) id = some o → id < Hin.length ∧ Hin[id]? = some o := fun {id o} h1 => by
  rw [zbG] at h1; simp at h1
  exact ⟨(List.getElem?_eq_some_iff.1 h1).1, h1⟩
 have hfz : ∀ b, zh1 c (idx 0 Hin) (List.range Hin.length) b ↔ c.I b ∨ fz b := fun b => by
  constructor
  ·rintro (h1 | ⟨id, cap, o, hid, hg, h1⟩)
   ·exact .inl h1
   ·exact .inr ⟨id, cap, by simpa using hid, h1⟩
  ·rintro (h1 | ⟨id, cap, hid, h1⟩)
   ·exact .inl h1
   ·have hg : hget (idx 0 Hin) id = some Hin[id] := by rw [zbG]; simp [hid]
    exact .inr ⟨id, cap, Hin[id], by simpa using hid, hg, h1⟩
 have hfzown : ∀ b, fz b → b < w.heap.size ∧ ¬ c.I b := fun b ⟨id, cap, hid, h1⟩ => by
  have hg : hget (idx 0 Hin) id = some Hin[id] := by rw [zbG]; simp [hid]
  have := hrel.own id _ b cap hg h1
  exact ⟨this.1, this.2.1⟩
 have ha1 : RepL c1 w args' vals := zc8 (c2 := c1) hrel.heap (fun b hb => ⟨.inl hb, rfl⟩) (fun _ _ h => h) (fun b => Iff.rfl) _ _ _ _ hf hc hargs
 have ha2 : RepL c2 w args' vals := RepL.renIn (c := c1) (c' := c2) (ρ := fun i => i) (m := 0) (fun b hb => hb) (fun i loc hi _ => by omega) _ _ hb (by rw [zdT]; exact ha1)
 have him : ∀ b, c2.I b → b < w.heap.size := fun b hb => by
  rcases (hfz b).1 hb with h1 | h1
  ·exact hrel.imm b h1
  ·exact (hfzown b h1).1
 have hrel2 : HRel ⟨c2, w, ([] : List VObj).length⟩ (idx 0 []) [] c2 w :=
  ⟨fun id o loc h1 _ => by simp [idx, hget] at h1, fun id o b cap h1 _ => by simp [idx, hget] at h1, fun id id' o o' b cap cap' _ h1 _ _ _ => by simp [idx, hget] at h1, him, Nat.le_refl _, rfl, rfl, rfl, fun _ _ _ => rfl, fun _ _ => Iff.rfl, fun _ _ _ h => h, fun _ _ h => h⟩
 refine Calls.mono (h c2 w vals ha2 hrel2 (fun _ _ => rfl)) (fun e w' hpost => ?_)
 obtain ⟨v, c', he, hr, hrl, hfr⟩ := hpost
 have hnofoot : ∀ b, ¬ Base.foot ⟨c2, w, ([] : List VObj).length⟩ b := fun b ⟨id, cap, hid, _⟩ => by
  have h1 : id < 0 := hid
  omega
 have hold : ∀ b, b < w.heap.size → w'.heap[b]? = w.heap[b]? := fun b hb => hrl.blk b hb (hnofoot b)
 have hIold : ∀ b, b < w.heap.size → (c'.I b ↔ c.I b ∨ fz b) := fun b hb => (hrl.I b hb).trans (hfz b)
 let c'' : Ctx := { φ := fun i => if i < Hin.length then c.φ i else c'.φ (i - Hin.length), I := fun b => c'.I b ∧ ¬ fz b }
 have hlt : ∀ {i}, i < Hin.length → c''.φ i = c.φ i := fun hi => if_pos hi
 have hge : ∀ {i}, ¬ i < Hin.length → c''.φ i = c'.φ (i - Hin.length) := fun hi => if_neg hi
 have hρ : ∀ i loc, c'.φ i = some loc → c''.φ (i + Hin.length) = some loc := fun i loc h1 => by
  rw [hge (by omega), Nat.add_sub_cancel]; exact h1
 have hho : zaT c c'' w w' := fun b hb => ⟨⟨(hIold b (hrel.imm b hb)).2 (.inl hb), fun hf => (hfzown b hf).2 hb⟩, hold b (hrel.imm b hb)⟩
 have hgo : Goes c c'' := fun id loc h1 => by
  by_cases hi : id < Hin.length
  ·rw [hlt hi]; exact h1
  ·rw [hnone id (by omega)] at h1; cases h1
 have hget' : ∀ {id o}, hget (idx 0 (Hin ++ Hnew.map (renO (· + Hin.length)))) id = some o → (id < Hin.length ∧ hget (idx 0 Hin) id = some o) ∨ (¬ id < Hin.length ∧ ∃ y, y ∈ Hnew ∧ hget (idx 0 Hnew) (id - Hin.length) = some y ∧ o = renO (· + Hin.length) y) := fun {id o} h1 => by
  rw [zbG] at h1
  simp only [Nat.zero_le, if_true, Nat.sub_zero] at h1
  by_cases hi : id < Hin.length
  ·rw [List.getElem?_append_left hi] at h1
   exact .inl ⟨hi, by rw [zbG]; simpa using h1⟩
  ·rw [List.getElem?_append_right (by omega)] at h1
   simp only [List.getElem?_map, Option.map_eq_some_iff] at h1
   obtain ⟨y, h2, rfl⟩ := h1
   exact .inr ⟨hi, y, List.mem_of_getElem? h2, by rw [zbG]; simpa using h2, rfl⟩
 refine ⟨v, c'', he, Rep.solid (c := c') hρ _ _ hso hr, ⟨fun id o loc h1 h2 => ?_, fun id o b cap h1 h2 => ?_, fun i j o o' b cap cap' hne h1 h2 h3 h4 => ?_, fun b hb => hrl.imm b hb.1, hrl.size, hrl.os, hrl.tape, hrl.output, fun b hb _ => hold b hb, fun b hb => ?_, fun id loc _ h1 => hgo id loc h1, fun id hid h1 => ?_⟩, fun id hid => ?_⟩
 ·rcases hget' h1 with ⟨hi, h3⟩ | ⟨hi, y, hy, h3, rfl⟩
  ·rw [hlt hi] at h2
   exact (hrel.heap id o loc h3 h2).mono hho hgo (fun b cap e => hold b (by subst e; exact (hrel.own id o b cap h3 h2).1))
  ·rw [hge hi] at h2
   exact zby.solid hρ (hsn y hy) (hrl.heap _ _ loc h3 h2)
 ·rcases hget' h1 with ⟨hi, h3⟩ | ⟨hi, y, hy, h3, rfl⟩
  ·rw [hlt hi] at h2
   have h4 := hrel.own id o b cap h3 h2
   exact ⟨Nat.lt_of_lt_of_le h4.1 hrl.size, fun h5 => h5.2 ⟨id, cap, hi, h2⟩, h4.2.2⟩
  ·rw [hge hi] at h2
   have h4 := hrl.own _ _ b cap h3 h2
   refine ⟨h4.1, fun h5 => h4.2.1 h5.1, ?_⟩
   rcases h4.2.2 with h5 | ⟨h5, _⟩
   ·exact .inl h5
   ·have h6 : id - Hin.length < 0 := h5
    omega
 ·have hnb : ∀ {i o b cap}, hget (idx 0 Hnew) i = some o → c'.φ i = some (.blk b cap) → w.heap.size ≤ b := fun h1 h2 => by
   rcases (hrl.own _ _ _ _ h1 h2).2.2 with h5 | ⟨h5, _⟩
   ·exact h5
   ·have h6 : _ < 0 := h5
    omega
  rcases hget' h1 with ⟨hi, h5⟩ | ⟨hi, y, hy, h5, rfl⟩ <;> rcases hget' h2 with ⟨hj, h6⟩ | ⟨hj, y', hy', h6, rfl⟩
  ·rw [hlt hi] at h3; rw [hlt hj] at h4
   exact hrel.apart i j _ _ b cap cap' hne h5 h6 h3 h4
  ·rw [hlt hi] at h3; rw [hge hj] at h4
   have := (hrel.own i _ b cap h5 h3).1
   have := hnb h6 h4
   omega
  ·rw [hge hi] at h3; rw [hlt hj] at h4
   have := (hrel.own j _ b cap' h6 h4).1
   have := hnb h5 h3
   omega
  ·rw [hge hi] at h3; rw [hge hj] at h4
   exact hrl.apart _ _ _ _ b cap cap' (by omega) h5 h6 h3 h4
 ·constructor
  ·rintro ⟨h1, h2⟩
   rcases (hIold b hb).1 h1 with h3 | h3
   ·exact h3
   ·exact absurd h3 h2
  ·intro h1
   exact ⟨(hIold b hb).2 (.inl h1), fun hf => (hfzown b hf).2 h1⟩
 ·have hi : id < Hin.length := hid
  rw [hlt hi]; exact h1
 ·simp only [List.length_append, List.length_map] at hid
  rw [hge (by omega)]
  exact hfr _ (by omega)
section
variable {P : Program} {ops : Array Oper} {dr : Bool} {j : Nat} {d : Nat} {op : Op} {type : TypeId} {pos : String} {after : Array Edge} {r : List Oper} {T : Tm} {H : Heap} {nx : Nat} {mv : List Nat} {nt lo : Nat} {Q : St → Prop} {c : Prop} {v : AV}
theorem zaD {f : FuncId} {A A' : List AV} {out : AV} {Hin Hnew : List VObj} {cond : Prop} {H' : Heap} {out' : AV} {nx' : Nat} (ids : List Nat) (hr : zcv P (St.ev ⟨T, H, nx, mv, nt, lo⟩) H nx op type = none) (hw : zez P (St.ev ⟨T, H, nx, mv, nt, lo⟩) H op = none) (hcal : callee ⟨T, H, nx, mv, nt, lo⟩ op = some (f, A)) (hent : zdJ P f = true)
  (hin : ids.map (hget H) = Hin.map (fun o => some (renO (rho ids nx) o))) (hbo : Hin.all (zbC ids.length) = true) (hren : renL (rho ids nx) (renL (fun x => ids.idxOf x) A) = A) (hbel : zau ids.length (renL (fun x => ids.idxOf x) A) = true) (hf : zfw (idx 0 Hin) (List.range Hin.length) (renL (fun x => ids.idxOf x) A) = some (cond, A')) (hc : cond)
  (hok : Ok P f A' [] out Hnew []) (hA : zau 0 A' = true) (hnd : ids.Nodup) (hlt : ids.all (fun x => Nat.blt x nx) = true) (hso : YtppnccjeggnllaaGreatVm.solid out = true) (hsn : zqu Hnew)
  (ho : ren (fun i => nx + i) out = out') (hH : idx nx (Hnew.map (renO (fun i => nx + i))) ++ H = H') (hnx : nx + Hnew.length = nx') (hd : Nat.blt d nt = true) (h : zY P ops dr (j + 1) r ⟨(d, out') :: T, H', nx', mv, nt, lo⟩ Q) :
  zY P ops dr j ({ dst := some d, op := op, type := type, pos := pos, after := after, guard := none } :: r) ⟨T, H, nx, mv, nt, lo⟩ Q := by
 have hlen : ids.length = Hin.length := by simpa using congrArg List.length hin
 refine zc6 ?_
 simp only [zjB, zbP, zdq, zcj, hr, hw, hcal]
 have hrho : (fun i => rho ids nx (i + Hin.length)) = fun i => nx + i := by
  funext i; unfold rho; rw [if_neg (by omega), hlen, Nat.add_sub_cancel]
 refine ⟨by simpa [Nat.blt_eq] using hd, hent, .inl ⟨ids, _, Hin, _, Hnew.map (renO (· + Hin.length)), ⟨Ok.borrowJ hok hf hc hA hso (zl2 hsn), hren, hbel, hnd, fun x hx => ?_, hlen, by simp, fun i o hio => ?_⟩, ?_⟩⟩
 ·have := List.all_eq_true.1 hlt x hx
  simpa [Nat.blt_eq] using this
 ·have hi := (List.getElem?_eq_some_iff.1 hio).1
  have h1 : (ids.map (hget H))[i]? = some (some (renO (rho ids nx) o)) := by rw [hin]; simp [hio]
  simp only [List.getElem?_map, Option.map_eq_some_iff] at h1
  obtain ⟨x, h2, h3⟩ := h1
  exact ⟨by rw [List.getD_eq_getElem?_getD, h2]; exact h3, List.all_eq_true.1 hbo o (List.mem_of_getElem? hio)⟩
 ·have e1 : (Hnew.map (renO (· + Hin.length))).map (renO (rho ids nx)) = Hnew.map (renO (fun i => nx + i)) := by
   rw [List.map_map]
   refine List.map_congr_left (fun o _ => ?_)
   cases o with
   | row e sz cs => rfl
   | box cs => simp only [Function.comp, renO, zef]; rw [hrho]
   | mp es => rfl
   | arow e sz cs => simp only [Function.comp, renO, zef]; rw [hrho]
  simp only [St.afterCallQ, tput, zpL, e1, List.length_map]
  rw [hrho, ho, hH, hnx]
  exact h
structure Fn1 {α : Type} (P : Program) (f : FuncId) (caps : List AV) (A : α → List AV) (R : α → AV) : Prop where
 ent : zdJ P f = true
 bel : zau 0 caps = true
 args : ∀ x, zau 0 (A x) = true
 out : ∀ x, zao 0 (R x) = true
 ok : ∀ x, Ok P f (A x ++ caps) [] (R x) [] []
theorem zgW {m : Nat} : ∀ {as bs : List AV}, zau m as = true → zau m bs = true → zau m (as ++ bs) = true
 | [], _, _, h => h
 | a :: as, bs, h1, h2 => by
  simp only [zau, List.cons_append, Bool.and_eq_true] at h1 ⊢
  exact ⟨h1.1, zgW h1.2 h2⟩
mutual
theorem ztd {m n : Nat} (hmn : m ≤ n) : ∀ {a : AV}, zao m a = true → zao n a = true
 | .undef, _ => rfl
 | .pv _, _ => rfl
 | .pptr _ _, _ => rfl
 | .ptr _ _, h => by simp only [zao, decide_eq_true_eq] at h ⊢; omega
 | .ref _ _ _ _, h => by simp only [zao, decide_eq_true_eq] at h ⊢; omega
 | .view _ _ _, h => by simp only [zao, decide_eq_true_eq] at h ⊢; omega
 | .agg cs, h => by simp only [zao] at h ⊢; exact zeN hmn h
 | .tup cs, h => by simp only [zao] at h ⊢; exact zeN hmn h
 | .fnc _ cs, h => by simp only [zao] at h ⊢; exact zeN hmn h
 | .bnd _ _ cs, h => by simp only [zao] at h ⊢; exact zeN hmn h
 | .mapr _, h => by simp only [zao, decide_eq_true_eq] at h ⊢; omega
theorem zeN {m n : Nat} (hmn : m ≤ n) : ∀ {as : List AV}, zau m as = true → zau n as = true
 | [], _ => rfl
 | a :: as, h => by simp only [zau, Bool.and_eq_true] at h ⊢; exact ⟨ztd hmn h.1, zeN hmn h.2⟩
end
theorem Fn1.belN {α : Type} {P : Program} {f : FuncId} {caps : List AV} {A : α → List AV} {R : α → AV} (h : Fn1 P f caps A R) {m : Nat} : zao m (.fnc f caps) = true := zeN (Nat.zero_le _) h.bel
theorem Fn1.belA {α : Type} {P : Program} {f : FuncId} {caps : List AV} {A : α → List AV} {R : α → AV} (h : Fn1 P f caps A R) {p : PV} : zau 0 [.pv p, .fnc f caps] = true := by
 simp only [zau, zao, Bool.and_true, Bool.true_and]; exact h.bel
theorem za8 {α : Type} {f : FuncId} {caps : List AV} {A : α → List AV} {R : α → AV} (h : Fn1 P f caps A R) (x : α) {L : List AV} {out : AV} (hr : zcv P (St.ev ⟨T, H, nx, mv, nt, lo⟩) H nx op type = none) (hw : zez P (St.ev ⟨T, H, nx, mv, nt, lo⟩) H op = none) (hcal : callee ⟨T, H, nx, mv, nt, lo⟩ op = some (f, L)) (hL : L = A x ++ caps) (ho : R x = out) (hd : Nat.blt d nt = true) (hh : zY P ops dr (j + 1) r ⟨(d, out) :: T, H, nx, mv, nt, lo⟩ Q) :
  zY P ops dr j ({ dst := some d, op := op, type := type, pos := pos, after := after, guard := none } :: r) ⟨T, H, nx, mv, nt, lo⟩ Q := by
 subst hL; subst ho
 exact zB hr hw hcal h.ent (h.ok x) (zgW (h.args x) h.bel) (h.out x) hd hh
end
def fidx {α : Type} (p : α → Bool) (l : List α) : Int := match l.findIdx? p with
 | some k => (k : Int)
 | none => -1
section
variable {α : Type} {p : α → Bool} {l : List α} {k : Nat} {x : α}
theorem zd4 (h : ∀ y ∈ l.take k, p y = false) (hx : l[k]? = some x) (hp : p x = true) : fidx p l = k := by
 obtain ⟨hk, rfl⟩ := List.getElem?_eq_some_iff.1 hx
 have : l.findIdx? p = some k := by
  rw [List.findIdx?_eq_some_iff_getElem]
  refine ⟨hk, hp, fun j hj => ?_⟩
  have := h l[j] (List.mem_take_iff_getElem.2 ⟨j, by omega, rfl⟩)
  simp [this]
 simp [fidx, this]
theorem zeQ (h : ∀ y ∈ l.take k, p y = false) (hk : k = l.length) : fidx p l = -1 := by
 have : l.findIdx? p = none := by
  rw [List.findIdx?_eq_none_iff]
  intro x hx
  exact h x (by rw [hk, List.take_length]; exact hx)
 simp [fidx, this]
theorem zcF (h : ∀ y ∈ l.take k, p y = false) (hx : l[k]? = some x) (hp : p x = false) : ∀ y ∈ l.take (k + 1), p y = false := by
 intro y hy
 rw [zfC hx] at hy
 rcases List.mem_append.1 hy with hy | hy
 ·exact h y hy
 ·rw [List.mem_singleton] at hy; subst hy; exact hp
theorem zhF (p : α → Bool) (l : List α) : (fidx p l = -1 ∧ ∀ x ∈ l, p x = false) ∨ ∃ (k : Nat) (x : α), fidx p l = (k : Int) ∧ l[k]? = some x ∧ p x = true ∧ ∀ y ∈ l.take k, p y = false := by
 cases h : l.findIdx? p with
 | none => exact .inl ⟨by simp [fidx, h], fun x hx => List.findIdx?_eq_none_iff.1 h x hx⟩
 | some k =>
  obtain ⟨hk, h1, h2⟩ := List.findIdx?_eq_some_iff_getElem.1 h
  refine .inr ⟨k, l[k], by simp [fidx, h], List.getElem?_eq_getElem hk, h1, fun y hy => ?_⟩
  obtain ⟨j, hj, rfl⟩ := List.mem_take_iff_getElem.1 hy
  have := h2 j (by omega)
  simpa using this
theorem zmR : 0 ≤ fidx p l ↔ ∃ x ∈ l, p x = true := by
 rcases zhF p l with ⟨h1, h2⟩ | ⟨k, x, h1, h2, h3, _⟩
 ·rw [h1]
  constructor
  ·intro h; omega
  ·rintro ⟨x, hx, hp⟩; rw [h2 x hx] at hp; cases hp
 ·rw [h1]
  exact ⟨fun _ => ⟨x, List.mem_of_getElem? h2, h3⟩, fun _ => by omega⟩
theorem zin : decide (fidx p l ≥ 0) = l.any p := by
 rw [Bool.eq_iff_iff]
 simp only [decide_eq_true_eq, ge_iff_le, zmR, List.any_eq_true]
end
end Go.Proofs.YtppnccjeggnllaaGreatVm
