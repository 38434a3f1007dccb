import Derived.Test.YtppnccjeggnllaaGreatVmAR
namespace Go.Proofs.YtppnccjeggnllaaGreatVm
open Go Go.RowKit
set_option linter.all false
section
variable {P : Program} {B : Base} {S : St} {c c' : Ctx} {w w' : World} {a : Act} {H : Heap} {mv : List Nat}
def zgj (P : Program) (B : Base) (S : St) (w : World) (a : Act) (o : Oper) (v : Option AV) (H' : Heap) (k : Option Nat) : Prop :=
 ∃ w' c', ((v = none ∧ (execOp a.eval o).run P w = .ok .skip w' ∧ SRel B (S.applyW o.dst v H' k) c' w' (a.put o.dst undef)) ∨
   ∃ u, (execOp a.eval o).run P w = .ok (.value u) w' ∧ SRel B (S.applyW o.dst v H' k) c' w' (a.put o.dst u))
theorem zdU {o : Oper} {v : AV} {u : Value} {H' : Heap} (hs : SRel B S c w a) (hrun : (execOp a.eval o).run P w = .ok (.value u) w') (hH : HRel B H' S.mv c w') (hho : zaT c c w w') (hwf : ∀ k x, hget H' k = some x → ∃ y, hget S.H k = some y) (hd : ∀ d, o.dst = some d → d < S.nt) (hr : Rep c w' v u) : zgj P B S w a o (some v) H' none :=
 ⟨w', c, .inr ⟨u, hrun, zuM hs hH hho hwf hd hr⟩⟩
theorem evs2 {ev : Operand → Option AV} {xs : List Operand} {A1 A2 : AV} (h : evs ev xs = some [A1, A2]) : ∃ y1 y2, xs = [y1, y2] ∧ ev y1 = some A1 ∧ ev y2 = some A2 := by
 match xs, h with
 | [], h => simp [evs] at h
 | [_], h => have := zb4 h; simp at this
 | _ :: _ :: _ :: _, h => have := zb4 h; simp at this
 | [y1, y2], h =>
  simp only [evs] at h
  cases hy1 : ev y1 with
  | none => simp [hy1] at h
  | some a1 =>
   cases hy2 : ev y2 with
   | none => simp [hy1, hy2] at h
   | some a2 =>
    simp [hy1, hy2] at h
    obtain ⟨rfl, rfl⟩ := h
    exact ⟨y1, y2, rfl, hy1, hy2⟩
theorem evs1 {ev : Operand → Option AV} {xs : List Operand} {A1 : AV} (h : evs ev xs = some [A1]) : ∃ y1, xs = [y1] ∧ ev y1 = some A1 := by
 match xs, h with
 | [], h => simp [evs] at h
 | _ :: _ :: _, h => have := zb4 h; simp at this
 | [y1], h =>
  simp only [evs] at h
  cases hy1 : ev y1 with
  | none => simp [hy1] at h
  | some a1 => simp [hy1] at h; subst h; exact ⟨y1, rfl, hy1⟩
theorem zmH {o : Oper} {t : TypeId} {x : Operand} {id off : Nat} {e : TypeId} {sz : Nat} {cs : List AV} {b : Bool} {v : AV} (hs : SRel B S c w a) (hop : o.op = .load t x) (hx : S.ev x = some (.ptr id off)) (hob : hrow S.H id = some (e, sz, cs)) (hp : zqj P t cs off = some (b, v)) (hb : b = true) (hd : ∀ d, o.dst = some d → d < S.nt) :
  zgj P B S w a o (some v) S.H none := by
 obtain ⟨cond, hp', hc⟩ := zt3 hp hb
 have hr := zcD hs hx
 simp only [Rep] at hr
 obtain ⟨bl, cap, hφ, hv⟩ := hr
 obtain ⟨arr, hbl, _, _, hle, hl⟩ := zcL hs.h.heap hob hφ
 obtain ⟨u, hu, hru⟩ := zfT (P := P) (b := bl) hl (fun j u hj => by
  rw [zeD hbl]; rw [List.getElem?_take] at hj
  split at hj
  ·simpa using hj
  ·cases hj) hp' hc
 exact zdU hs (w' := w) (u := u) (by simp [execOp, hop, Instr.loadAt, hv, Instr.sureAddr, hu]) hs.h (fun _ h => ⟨h, rfl⟩) (fun k x h => ⟨x, h⟩) hd hru
theorem zmx {o : Oper} {t : TypeId} {x y : Operand} {id off s : Nat} {e : TypeId} {sz : Nat} {cs : List AV} {v : AV} (hs : SRel B S c w a) (hop : o.op = .store t x y) (hx : S.ev x = some (.ptr id off)) (hy : S.ev y = some v) (hsz : tsz P t = some s) (hob : hrow S.H id = some (e, sz, cs))
  (ht : told v = true) (h1 : (zam v).all one = true) (hlen : (zam v).length = s) (hle : off + s ≤ cs.length) (hd : ∀ d, o.dst = some d → d < S.nt) :
  zgj P B S w a o none (hset S.H id (.arow e sz (zat cs off (zam v)))) none := by
 have hrx := zcD hs hx
 have hry := zcD hs hy
 simp only [Rep] at hrx
 obtain ⟨b, cap, hφ, hv⟩ := hrx
 have hcells := zfD ht hry
 obtain ⟨w', hrun, hH, hho⟩ := zkT (P := P) (off := off) hs.h hob hφ h1 hcells (by omega)
 have hcl : (a.eval y).cells.size = s := by have := zW hcells; simp only [Array.length_toList] at this; omega
 refine ⟨w', c, .inl ⟨rfl, ?_, ⟨hH, ?_, by rw [zcH]; exact hs.nt, by rw [za7]; exact hs.df, hs.fresh, hs.lo, fun k x hk => ?_, hs.mlo, hs.nlo⟩⟩⟩
 ·simp only [execOp, hop, Sem.run_bind, Instr.storeAt, hv, Instr.sureAddr, Sem.run_pure, Result.andThen_ok, storeVar, zaY hsz]
  rw [if_neg (by simp; omega)]
  simp only [hrun, Result.andThen_ok]
 ·exact zd8 (fun t v h => Rep.mono hho (fun _ _ h => h) _ _ (hs.t t v h)) (fun d h => by rw [hs.nt]; exact hd d h) trivial
 ·obtain ⟨y, hy⟩ := zhB hk
  exact hs.wf _ _ hy
theorem zls {o : Oper} {t : TypeId} {x : Operand} {lo hi : Option Operand} {id sz sz' off n : Nat} {l h : Option Int} {e e0 : TypeId} {cs : List AV} (hs : SRel B S c w a) (hop : o.op = .slice t x lo hi none) (hx : S.ev x = some (.ref id sz off n)) (hl : optI S.ev lo = some l) (hh : optI S.ev hi = some h) (hte : za1 P t = some e) (hob : hrow S.H id = some (e0, sz', cs))
  (g1 : sz' = sz) (hsz : tsz P e = some sz) (h0 : 1 ≤ sz) (h1 : 0 ≤ l.getD 0) (h2 : l.getD 0 ≤ h.getD n) (h3 : (off + (h.getD n).toNat) * sz ≤ cs.length) (hd : ∀ d, o.dst = some d → d < S.nt) :
  zgj P B S w a o (some (.ref id sz (off + (l.getD 0).toNat) ((h.getD n).toNat - (l.getD 0).toNat))) S.H none := by
 subst g1
 have hmean := zgU (B := B) hs o.op
 have hr := zcD hs hx
 have rl := zhc hmean (x := lo) (fun y hy => by subst hy; simp [hop, Op.operands]) hl
 have rh := zhc hmean (x := hi) (fun y hy => by subst hy; simp [hop, Op.operands]) hh
 have hexec : execOp a.eval o = (do pure (.value (← Instr.sliceAt t (a.eval x) (lo.map a.eval) (hi.map a.eval) none)) : Sem Next) := by simp [execOp, hop]
 have hu := z7 hte
 have fin : ∀ {u : Value} {v : AV}, (Instr.sliceAt t (a.eval x) (lo.map a.eval) (hi.map a.eval) none).run P w = .ok u w → Rep c w v u → zgj P B S w a o (some v) S.H none := fun {u v} h1 h2 =>
  zdU hs (w' := w) (u := u) (by rw [hexec, Sem.run_bind, h1]; rfl) hs.h (fun _ h => ⟨h, rfl⟩) (fun k x h => ⟨x, h⟩) hd h2
 simp only [Rep] at hr
 rcases hr with ⟨hφ, rfl, rfl, ad, hv⟩ | ⟨b, cap, ad, hφ, hv, h5, h6, h7⟩
 ·have hcs : cs = [] := zcL hs.h.heap hob hφ
  subst hcs
  have h9 : (h.getD ((0 : Nat) : Int)).toNat = 0 := by
   have := zji h0 h3
   omega
  have hb := zc0 (P := P) (w := w) true 0 0 _ _ none l h none rl rh (.inl ⟨rfl, rfl⟩) h1 h2 (by show h.getD ((0 : Nat) : Int) ≤ ((0 : Nat) : Int); omega) (by simp) (.inl rfl)
  have e1 : (l.getD 0).toNat = 0 := by omega
  refine fin (u := .slice ad 0 0) ?_ ?_
  ·rw [hv]
   simp only [Instr.sliceAt, Instr.slice, Sem.run_bind, run_underlying hu, Result.andThen_ok, hb, zaY hsz, Sem.run_pure, e1, h9]
   simp
  ·rw [e1, h9]
   simp only [Rep]
   exact .inl ⟨hφ, by simp, by simp, _, rfl⟩
 ·obtain ⟨arr, hb1, h8, h9, h10, _⟩ := zcL hs.h.heap hob hφ
  have h11 : off + (h.getD n).toNat ≤ cap := zko h0 h3 (by omega)
  have hb := zc0 (P := P) (w := w) true n (cap - off) _ _ none l h none rl rh (.inl ⟨rfl, rfl⟩) h1 h2 (by simp; omega) (by simp) (.inl rfl)
  refine fin (u := .slice (if cap - off = (l.getD 0).toNat then ad else ad.map (·.add ((l.getD 0).toNat * sz'))) ((h.getD n).toNat - (l.getD 0).toNat) (cap - off - (l.getD 0).toNat)) ?_ ?_
  ·rw [hv]
   simp only [Instr.sliceAt, Instr.slice, Sem.run_bind, run_underlying hu, Result.andThen_ok, hb, zaY hsz, Sem.run_pure]
   simp
  ·simp only [Rep]
   refine .inr ⟨b, cap, _, hφ, by rw [Nat.sub_sub], by omega, h6, ?_⟩
   by_cases hz : cap - off = (l.getD 0).toNat
   ·right; omega
   ·rw [if_neg hz]
    rcases h7 with rfl | h7
    ·left; simp [za9, Nat.add_mul]
    ·omega
theorem zhN {t u e : TypeId} {sz sz' m : Nat} {new : List AV} (h : zjl P t u e sz sz' m new = true) : sz' = sz ∧ ∃ by' zs, za1 P t = some e ∧ tsz P e = some sz ∧ zcy P e = some by' ∧ zbZ P e = some zs ∧ tsub P u e = true ∧ 1 ≤ sz ∧ zs.length = sz ∧ new.length = m * sz ∧ new.all one = true ∧ by' ≤ 1024 := by
 unfold zjl at h
 split at h
 case h_2 => cases h
 rename_i e' sz2 by' zs h1 h2 h3 h4
 simp only [Bool.and_eq_true] at h
 obtain ⟨⟨⟨⟨⟨⟨⟨⟨g0, g1⟩, g2⟩, g3⟩, g4⟩, g5⟩, g6⟩, g7⟩, g8⟩ := h
 obtain rfl := Nat.eq_of_beq_eq_true g0
 obtain rfl := Nat.eq_of_beq_eq_true g1
 obtain rfl := Nat.eq_of_beq_eq_true g2
 exact ⟨rfl, by', zs, h1, h2, h3, h4, g3, Nat.le_of_ble_eq_true g4, Nat.eq_of_beq_eq_true g5, Nat.eq_of_beq_eq_true g6, g7, Nat.le_of_ble_eq_true g8⟩
theorem zjH {o : Oper} {t u e : TypeId} {y1 y2 : Operand} {id sz sz' off n m : Nat} {x : AV} {cs new : List AV} (hs : SRel B S c w a) (hop : o.op = .call { callee := .builtin .append, args := #[y1, y2], argTypes := #[t, u] }) (hy1 : S.ev y1 = some (.ref id sz off n)) (hy2 : S.ev y2 = some x) (hob : hrow S.H id = some (e, sz', cs)) (hcn : zid S.H x = some (m, new))
  (hok : zjl P t u e sz sz' m new = true) (hle : (off + (n + m)) * sz ≤ cs.length) (hd : ∀ d, o.dst = some d → d < S.nt) :
  zgj P B S w a o (some (.ref id sz off (n + m))) (hset S.H id (.arow e sz (zat cs ((off + n) * sz) new))) none := by
 obtain ⟨rfl, by', zs, he', hsz, hby, hz, hu, h0, hzl, hnl, h1, hb1⟩ := zhN hok
 have hrx := zcD hs hy1
 have hry := zcD hs hy2
 obtain ⟨i, hi, hs'⟩ := ze2 hsz
 obtain ⟨hlen, news, hnr, hnew⟩ := zgE (P := P) (sz := sz') hs.h.heap hcn hry hnl
 have hnewlen := zW hnr
 have hexec : execOp a.eval o = (do pure (.value (← Builtin.append_ #[t, u] o.type #[a.eval y1, a.eval y2])) : Sem Next) := by simp [execOp, hop, resolve, invoke, builtin]
 obtain ⟨hu1, hu2⟩ := zeP hu
 have e4 := hnew w rfl
 rw [← hs'] at e4
 have hmul : (off + (n + m)) * sz' = (off + n) * sz' + m * sz' := by rw [← Nat.add_assoc, Nat.add_mul]
 have hdef : c.φ id ≠ none := fun h0 => by
  simp only [Rep] at hrx
  rcases hrx with ⟨h1, _⟩ | ⟨b, cap, ad, h1, _⟩ <;> rw [h0] at h1 <;> cases h1
 simp only [Rep] at hrx
 have nothing : ∀ (ad : Option Addr) (cap : Nat), a.eval y1 = .slice ad n cap → n + m ≤ cap → m = 0 → Rep c w (.ref id sz' off (n + m)) (.slice ad (n + m) cap) → zgj P B S w a o (some (.ref id sz' off (n + m))) (hset S.H id (.arow e sz' (zat cs ((off + n) * sz') new))) none := by
  intro ad cap hv hroom hm0 hrep
  have e2 : new = [] := List.eq_nil_of_length_eq_zero (by rw [hnl, hm0]; simp)
  have e3 : news = [] := List.eq_nil_of_length_eq_zero (by rw [← hnewlen, e2]; rfl)
  have hr := zcz (P := P) (w := w) (ty := o.type) (a := ad) (n := n) (cap := cap) (z7 he') hu1 hu2 hi (hlen w) e4 hroom
  rw [e3] at hr
  refine zdU hs (w' := w) (u := .slice ad (n + m) cap) ?_ ?_ (fun _ h => ⟨h, rfl⟩) (fun k x h => zhB h) hd hrep
  ·rw [hexec, Sem.run_bind, hv, hr]; cases ad <;> simp [storeCells]
  ·rw [e2]; exact zj8 hs.h hob hdef
 rcases hrx with ⟨hφ, rfl, rfl, ad, hv⟩ | ⟨b, cap, ad, hφ, hv, h5, h6, h7⟩
 ·have hcs : cs = [] := zcL hs.h.heap hob hφ
  subst hcs
  have hm0 : m = 0 := by
   have := zji (a := 0 + (0 + m)) h0 hle
   omega
  subst hm0
  exact nothing ad 0 hv (by omega) rfl (by simp only [Rep]; exact .inl ⟨hφ, by simp, by simp, ad, rfl⟩)
 ·obtain ⟨arr, hb, hasz, hacm, hale, hal⟩ := zcL hs.h.heap hob hφ
  have hroom : off + (n + m) ≤ cap := zko h0 hle (by omega)
  by_cases hm0 : m = 0
  ·exact nothing ad (cap - off) hv (by omega) hm0 (by simp only [Rep]; exact .inr ⟨b, cap, ad, hφ, rfl, by omega, h6, h7⟩)
  ·rcases h7 with rfl | h7
   case inr => omega
   have hr := zcz (P := P) (w := w) (ty := o.type) (a := some ⟨b, off * sz', none⟩) (n := n) (cap := cap - off) (z7 he') hu1 hu2 hi (hlen w) e4 (by omega)
   obtain ⟨w', hrun, hH, hho⟩ := zkT (P := P) (off := (off + n) * sz') hs.h hob hφ h1 hnr (by omega)
   refine zdU hs (w' := w') (u := .slice (some ⟨b, off * sz', none⟩) (n + m) (cap - off)) ?_ hH hho (fun k x h => zhB h) hd ?_
   ·rw [hexec, Sem.run_bind, hv, hr]
    have : (⟨b, off * sz', none⟩ : Addr).add (n * i.size) = ⟨b, (off + n) * sz', none⟩ := by rw [za9, hs', Nat.add_mul]
    simp only [this, hrun, Result.andThen_ok, Sem.run_pure]
   ·simp only [Rep]; exact .inr ⟨b, cap, _, hφ, rfl, by omega, h6, .inl rfl⟩
theorem zjF {o : Oper} {t u e : TypeId} {y1 y2 : Operand} {id sz sz' n m : Nat} {x : AV} {cs new : List AV} (hs : SRel B S c w a) (hop : o.op = .call { callee := .builtin .append, args := #[y1, y2], argTypes := #[t, u] }) (hy1 : S.ev y1 = some (.ref id sz 0 n)) (hy2 : S.ev y2 = some x) (hob : hrow S.H id = some (e, sz', cs)) (hcn : zid S.H x = some (m, new))
  (hok : zjl P t u e sz sz' m new = true) (hcl : cs.length = n * sz) (hmx : n + m ≤ zaW) (hd : ∀ d, o.dst = some d → d < S.nt) :
  zgj P B S w a o (some (.ref id sz 0 (n + m))) (hset S.H id (.arow e sz (cs ++ new))) (some id) := by
 obtain ⟨rfl, by', zs, he', hsz, hby, hz, hu, h0, hzl, hnl, h1, hb1⟩ := zhN hok
 have hrx := zcD hs hy1
 have hry := zcD hs hy2
 obtain ⟨ob, hg⟩ := zij hob
 obtain ⟨i, z, hi, hzi, hzz, hcz⟩ := zeG hz
 obtain ⟨i', hi', hs'⟩ := ze2 hsz
 rw [hi] at hi'; cases hi'
 have hbi := zei hi hby
 obtain ⟨hlen, news, hnr, hnew⟩ := zgE (P := P) (sz := sz') hs.h.heap hcn hry hnl
 have hnewlen := zW hnr
 have hexec : execOp a.eval o = (do pure (.value (← Builtin.append_ #[t, u] o.type #[a.eval y1, a.eval y2])) : Sem Next) := by simp [execOp, hop, resolve, invoke, builtin]
 obtain ⟨hu1, hu2⟩ := zeP hu
 have hones : ∀ v ∈ news, v.oneCell' = true := zeS h1 hnr
 have fin : ∀ (w' : World) (c' : Ctx) (uv : Value), (Builtin.append_ #[t, u] o.type #[a.eval y1, a.eval y2]).run P w = .ok uv w' →
   (HRel B (zc1 [id] (hset S.H id (.arow e sz' (cs ++ new)))) (id :: S.mv) c' w' ∧ zaT c c' w w' ∧ zcU [id] c c') → (∀ j, S.nx ≤ j → c'.φ j = none) → Rep c' w' (.ref id sz' 0 (n + m)) uv →
   zgj P B S w a o (some (.ref id sz' 0 (n + m))) (hset S.H id (.arow e sz' (cs ++ new))) (some id) := by
  intro w' c' uv hrun hH hfr hrep
  obtain ⟨hH1, hH2, hH3⟩ := hH
  refine ⟨w', c', .inr ⟨uv, ?_, ⟨hH1, ?_, by rw [zcH]; exact hs.nt, by rw [za7]; exact hs.df, hfr, hs.lo, fun k x hk => ?_, hs.mlo, hs.nlo⟩⟩⟩
  ·rw [hexec, Sem.run_bind, hrun]; rfl
  ·refine zd8 (S := { S with T := zfm [id] S.T }) (fun t v h => ?_) (fun d h => by rw [hs.nt]; exact hd d h) hrep
   simp only [zdu, Option.map_eq_some_iff] at h
   obtain ⟨v0, h1, rfl⟩ := h
   exact Rep.purge hH2 hH3 _ _ (hs.t t v0 h1)
  ·have hk' : hget (zc1 [id] (hset S.H id (.arow e sz' (cs ++ new)))) k = some x := hk
   rw [zdr, zbB] at hk'
   split at hk'
   ·rename_i e; subst e; exact hs.wf _ _ hg
   ·simp only [Option.map_eq_some_iff] at hk'
    obtain ⟨y, hy, _⟩ := hk'
    exact hs.wf _ _ hy
 have hdef : c.φ id ≠ none := fun h0 => by
  simp only [Rep] at hrx
  rcases hrx with ⟨h1, _⟩ | ⟨b, cap, ad, h1, _⟩ <;> rw [h0] at h1 <;> cases h1
 have hidlt : ¬ S.nx ≤ id := fun hle => by
  simp only [Rep] at hrx
  rcases hrx with ⟨h1, _⟩ | ⟨b, cap, ad, h1, _⟩ <;> rw [hs.fresh id hle] at h1 <;> cases h1
 have hpo : ∀ {c2 : Ctx} {w2 : World} {vs : List Value}, zaT c c2 w w2 → zcU [id] c c2 → RepL c w (cs ++ new) vs → RepL c2 w2 (zcB [id] (cs ++ new)) vs := fun h1 h2 h3 => RepL.purge h1 h2 _ _ h3
 -- a new block
 have grow : ∀ (ad : Option Addr) (cap : Nat) (olds : List Value), a.eval y1 = .slice ad n cap → cap < n + m → RepL c w cs olds → (∀ w' : World, w'.heap = w.heap → (Builtin.firstCells sz' n (.slice ad n cap)).run P w' = .ok olds.toArray w') →
   ∃ w' c' uv, (Builtin.append_ #[t, u] o.type #[a.eval y1, a.eval y2]).run P w = .ok uv w' ∧
   (HRel B (zc1 [id] (hset S.H id (.arow e sz' (cs ++ new)))) (id :: S.mv) c' w' ∧ zaT c c' w w' ∧ zcU [id] c c') ∧ (∀ j, S.nx ≤ j → c'.φ j = none) ∧ Rep c' w' (.ref id sz' 0 (n + m)) uv := by
  intro ad cap olds hv hcap hol hold
  have hr := zfe (P := P) (w := w) (ty := o.type) (z7 he') hu1 hu2 hi hzi hlen (by rw [hs']; exact hnew) (by rw [hs']; exact hold) (a := ad) (cap := cap) hcap (by omega) hmx
  have hrl := zaF hol hnr
  obtain ⟨arr, harr, h5, h6, h7, h8, h9⟩ := zkb (e := e) (old := cap) (z := z) (N := grownCap w (n + m) cap e) (by omega : z.cells.size = sz') hrl (by rw [List.length_append, hcl, hnl, Nat.add_mul]) hmx rfl
  let c' : Ctx := { φ := fun k => if k = id then some (.blk w.heap.size (grownCap w (n + m) cap e)) else c.φ k, I := c.I }
  have hheap : (w.drew.alloc (.cells arr e)).heap = w.heap.push (.cells arr e) := rfl
  have hho : zaT c c' w (w.drew.alloc (.cells arr e)) := fun b hb => ⟨hb, by rw [hheap, Array.getElem?_push, if_neg (Nat.ne_of_lt (hs.h.imm b hb))]⟩
  have hgb : zcU [id] c c' := fun k loc hne hk => by show (if k = id then _ else c.φ k) = some loc; rw [if_neg (by simpa using hne)]; exact hk
  refine ⟨w.drew.alloc (.cells arr e), c', .slice (some ⟨w.heap.size, 0, none⟩) (n + m) (grownCap w (n + m) cap e), ?_, ?_, fun j hj => ?_, ?_⟩
  ·rw [hv, hr, harr]; simp
  ·refine hs.h.move hg hdef (by rw [hheap]; simp) rfl rfl rfl (fun k hk _ => by rw [hheap, Array.getElem?_push, if_neg (by omega)]) rfl (fun k hk => if_neg hk) (if_pos rfl) ?_ (fun b cp e => by cases e; exact .inl ⟨Nat.le_refl _, by rw [hheap]; simp⟩)
   refine ARep.obj (loc := .blk _ _) (zhu hob) ⟨arr, by rw [hheap]; simp, h5, h7, by rw [zeW]; exact h9, ?_⟩
   rw [zeW, h8]
   exact hpo hho hgb hrl
  ·show (if j = id then _ else c.φ j) = none
   rw [if_neg (fun (e : j = id) => hidlt (e ▸ hj))]
   exact hs.fresh j hj
  ·simp only [Rep]
   exact .inr ⟨_, _, _, if_pos rfl, rfl, by omega, h7, .inl (by simp)⟩
 have hsame : zcU [id] c c := fun _ _ _ h => h
 simp only [Rep] at hrx
 rcases hrx with ⟨hφ, _, rfl, ad, hv⟩ | ⟨b, cap, ad, hφ, hv, h5, h6, h7⟩
 ·have hcs : cs = [] := zcL hs.h.heap hob hφ
  subst hcs
  by_cases hm0 : m = 0
  ·subst hm0
   have e2 : new = [] := List.eq_nil_of_length_eq_zero (by omega)
   subst e2
   have e3 : news = [] := List.eq_nil_of_length_eq_zero (by simpa using hnewlen.symm)
   subst e3
   have e4 := hnew w rfl
   rw [← hs'] at e4
   have := zcz (P := P) (w := w) (ty := o.type) (a := ad) (n := 0) (cap := 0) (z7 he') hu1 hu2 hi (hlen w) e4 (by omega)
   refine fin w c (.slice ad 0 0) ?_ ?_ hs.fresh ?_
   ·rw [hv, this]; cases ad <;> simp [storeCells]
   ·exact hs.h.move hg hdef (Nat.le_refl _) rfl rfl rfl (fun _ _ _ => rfl) rfl (fun _ _ => rfl) hφ rfl (fun b cp e => by cases e)
   ·simp only [Rep]; exact .inl ⟨hφ, trivial, by simp, ad, rfl⟩
  ·obtain ⟨w', c', uv, g1, g2, g3, g4⟩ := grow ad 0 [] hv (by omega) (by simp [RepL]) (fun w' hw => by
    cases ad with
    | none => exact run_firstCells_none w' _ 0 0 _
    | some ad => exact run_firstCells_some (P := P) w' _ 0 ad 0 _ [] (by simp) (by simp))
   exact fin w' c' uv g1 g2 g3 g4
 ·simp only [Nat.sub_zero, Nat.zero_mul] at hv h7
  by_cases hroom : n + m ≤ cap
  ·have hnz : ad = some ⟨b, 0, none⟩ ∨ (n = 0 ∧ m = 0 ∧ cap = 0) := h7.imp (fun h => h) (fun h => by omega)
   obtain ⟨arr, hb, hasz, hacm, hale, hal⟩ := zcL hs.h.heap hob hφ
   have e4 := hnew w rfl
   rw [← hs'] at e4
   have hr := zcz (P := P) (w := w) (ty := o.type) (a := ad) (n := n) (cap := cap) (z7 he') hu1 hu2 hi (hlen w) e4 hroom
   rcases hnz with rfl | ⟨rfl, rfl, rfl⟩
   ·have hfit : n * sz' + news.length ≤ arr.size := by rw [hasz, ← hnewlen, hnl, ← Nat.add_mul]; exact Nat.mul_le_mul_right _ hroom
    obtain ⟨w', hrun, hwsz, hos, htp, hou, hoth, hb'⟩ := zfs (P := P) (off := n * sz') hb hones hfit
    have hho : zaT c c w w' := fun k hk => ⟨hk, hoth k (fun e => (hs.h.own id _ b cap hg hφ).2.1 (e ▸ hk))⟩
    refine fin w' c (.slice (some ⟨b, 0, none⟩) (n + m) cap) ?_ ?_ hs.fresh ?_
    ·rw [hv, hr]
     simp only [za9, Nat.zero_add, hs', hrun, Result.andThen_ok]
    ·refine hs.h.move hg hdef (Nat.le_of_eq hwsz.symm) hos htp hou (fun k _ hk => hoth k (fun e => hk cap (e ▸ hφ))) rfl (fun _ _ => rfl) hφ ?_ (fun b' cp e => by cases e; exact .inr ⟨cap, hφ⟩)
     refine ARep.obj (loc := .blk _ _) (zhu hob) ⟨_, hb', by simp [zbb, hasz], h6, ?_, ?_⟩
     ·rw [zeW]; simp only [List.length_append, List.size_toArray, zbb, Array.length_toList]; omega
     ·have h8 := zaF hal hnr
      have h9 : ((zfo arr.toList (n * sz') news).toArray.toList).take (cs ++ new).length = arr.toList.take cs.length ++ news := by
       rw [zdX _ _ _ (by simpa using hfit)]
       simp only [List.length_append, hcl, hnewlen]
       rw [List.take_append_of_le_length (by simp; omega)]
       rw [List.take_of_length_le (by simp; omega)]
      rw [zeW, h9]
      exact hpo hho hsame h8
    ·simp only [Rep]; exact .inr ⟨b, cap, some ⟨b, 0, none⟩, hφ, by simp, by omega, h6, .inl (by simp)⟩
   ·have e2 : new = [] := List.eq_nil_of_length_eq_zero (by omega)
    subst e2
    have e3 : news = [] := List.eq_nil_of_length_eq_zero (by simpa using hnewlen.symm)
    subst e3
    have e5 : cs = [] := List.eq_nil_of_length_eq_zero (by omega)
    subst e5
    refine fin w c (.slice ad 0 0) ?_ ?_ hs.fresh ?_
    ·rw [hv, hr]; cases ad <;> simp [storeCells]
    ·exact hs.h.move hg hdef (Nat.le_refl _) rfl rfl rfl (fun _ _ _ => rfl) rfl (fun _ _ => rfl) hφ (ARep.obj (loc := .blk _ _) (zhu hob) ⟨arr, hb, hasz, hacm, by simp [zcB], by simp [RepL, zcB]⟩) (fun b' cp e => by cases e; exact .inr ⟨_, hφ⟩)
    ·simp only [Rep]; exact .inr ⟨b, 0, ad, hφ, rfl, by omega, h6, .inr rfl⟩
  ·obtain ⟨olds, hol, hold⟩ : ∃ olds : List Value, RepL c w cs olds ∧ ∀ w' : World, w'.heap = w.heap → (Builtin.firstCells sz' n (.slice ad n cap)).run P w' = .ok olds.toArray w' := by
    have := zgE (P := P) (H := S.H) (x := .ref id sz' 0 n) (vx := .slice ad n cap) (m := n) (sz := sz') (ps := cs) hs.h.heap (by simp [zid, hob, hcl.symm, List.take_of_length_le (Nat.le_of_eq hcl)]) (by simp only [Rep]; exact .inr ⟨b, cap, ad, hφ, by simp, by omega, h6, by simpa using h7⟩) hcl
    exact this.2
   obtain ⟨w', c', uv, g1, g2, g3, g4⟩ := grow ad cap olds hv (by omega) hol hold
   exact fin w' c' uv g1 g2 g3 g4
theorem zml {o : Oper} {t e e' : TypeId} {y1 : Operand} {id sz sz' off n : Nat} {zs : List PV} {cs : List AV} (hs : SRel B S c w a) (hop : o.op = .call { callee := .builtin .clear, args := #[y1], argTypes := #[t] }) (hy1 : S.ev y1 = some (.ref id sz off n)) (hob : hrow S.H id = some (e, sz', cs)) (he' : za1 P t = some e') (hz : zbZ P e' = some zs)
  (g1 : sz' = sz) (hsz : tsz P e' = some sz) (h0 : 1 ≤ sz) (hzl : zs.length = sz) (hle : (off + n) * sz ≤ cs.length) (hd : ∀ d, o.dst = some d → d < S.nt) :
  zgj P B S w a o (some (.tup [])) (hset S.H id (.arow e sz (zat cs (off * sz) ((zaK zs n).map .pv)))) none := by
 subst g1
 have hrx := zcD hs hy1
 obtain ⟨i, z, hi, hzi, hzz, hcz⟩ := zeG hz
 have hu := z7 he'
 have hexec : execOp a.eval o = (do pure (.value (← Builtin.clear_ #[t] o.type #[a.eval y1])) : Sem Next) := by simp [execOp, hop, resolve, invoke, builtin]
 have hdef : c.φ id ≠ none := fun h0 => by
  simp only [Rep] at hrx
  rcases hrx with ⟨h1, _⟩ | ⟨b, cap, ad, h1, _⟩ <;> rw [h0] at h1 <;> cases h1
 have nothing : (Builtin.clear_ #[t] o.type #[a.eval y1]).run P w = .ok (.tuple #[]) w → n = 0 → zgj P B S w a o (some (.tup [])) (hset S.H id (.arow e sz' (zat cs (off * sz') ((zaK zs n).map .pv)))) none := fun h1 h2 => by
  subst h2
  refine zdU hs (w' := w) (u := .tuple #[]) (by rw [hexec, Sem.run_bind, h1]; rfl) ?_ (fun _ h => ⟨h, rfl⟩) (fun k x h => zhB h) hd ⟨#[], rfl, by simp [RepL]⟩
  exact zj8 hs.h hob hdef
 simp only [Rep] at hrx
 rcases hrx with ⟨hφ, rfl, rfl, ad, hv⟩ | ⟨b, cap, ad, hφ, hv, h5, h6, h7⟩
 ·refine nothing ?_ rfl
  rw [hv]; unfold Builtin.clear_
  simp only [List.getElem?_toArray, List.getElem?_cons_zero, Sem.run_bind, run_underlying hu, Result.andThen_ok]
  cases ad <;> simp
 ·by_cases hn0 : n = 0
  ·refine nothing ?_ hn0
   subst hn0
   rw [hv]; unfold Builtin.clear_
   simp only [List.getElem?_toArray, List.getElem?_cons_zero, Sem.run_bind, run_underlying hu, Result.andThen_ok]
   cases ad <;> simp
  ·rcases h7 with rfl | h7
   case inr => omega
   have hrz : RepL c w ((zaK zs n).map .pv) ((List.range (n * z.cells.size)).map fun i => z.cells[i % z.cells.size]!) := zhh (zdO hcz) n
   have hfit : off * sz' + ((zaK zs n).map AV.pv).length ≤ cs.length := by rw [List.length_map, zey, hzl, ← Nat.add_mul]; exact hle
   obtain ⟨w', hrun, hH, hho⟩ := zkT (P := P) (off := off * sz') hs.h hob hφ (zp3 _) hrz hfit
   refine zdU hs (w' := w') (u := .tuple #[]) ?_ hH hho (fun k x h => zhB h) hd ⟨#[], rfl, by simp [RepL]⟩
   obtain ⟨n', rfl⟩ : ∃ n', n = n' + 1 := ⟨n - 1, by omega⟩
   rw [hexec, Sem.run_bind, hv]; unfold Builtin.clear_
   simp only [List.getElem?_toArray, List.getElem?_cons_zero, Sem.run_bind, run_underlying hu, Result.andThen_ok, zeroValue, typeInfo, run_program, hi, hzi, Sem.run_pure, Builtin.zeroCells, Array.toList_map, Array.toList_range, hrun]
theorem znj {o : Oper} {t u e e2 e' : TypeId} {y1 y2 : Operand} {id id2 sz sz' sz2 sz2' off off2 n m : Nat} {cs cs2 : List AV} (hs : SRel B S c w a) (hop : o.op = .call { callee := .builtin .copy, args := #[y1, y2], argTypes := #[t, u] }) (hy1 : S.ev y1 = some (.ref id sz off n)) (hy2 : S.ev y2 = some (.ref id2 sz2 off2 m)) (hob : hrow S.H id = some (e, sz', cs)) (hob2 : hrow S.H id2 = some (e2, sz2', cs2)) (he' : za1 P t = some e')
  (hsz : tsz P e' = some sz) (e1 : sz' = sz) (e3 : sz2 = sz) (e4 : sz2' = sz) (h0 : 1 ≤ sz) (hk0 : 1 ≤ min n m) (hle : off * sz ≤ cs.length) (hle2 : (off2 + min n m) * sz ≤ cs2.length) (h1 : ((cs2.drop (off2 * sz)).take (min n m * sz)).all one = true) (hd : ∀ d, o.dst = some d → d < S.nt) :
  zgj P B S w a o (some (.pv (.int .i64 ((min n m : Nat) : Int)))) (hset S.H id (.arow e sz (zhW cs (off * sz) ((cs2.drop (off2 * sz)).take (min n m * sz))))) none := by
 subst e1
 have e3' := e3.symm; subst e3'
 have e4' := e4.symm; subst e4'
 have hrx := zcD hs hy1
 have hry := zcD hs hy2
 simp only [Rep] at hrx hry
 rcases hrx with ⟨_, _, hn0, _⟩ | ⟨b, cap, ad, hφ, hv, h5, h6, h7⟩
 ·omega
 rcases hry with ⟨_, _, hm0, _⟩ | ⟨b2, cap2, ad2, hφ2, hv2, g5, g6, g7⟩
 ·omega
 have had : ad = some ⟨b, off * sz', none⟩ := by rcases h7 with h7 | h7; exact h7; omega
 have had2 : ad2 = some ⟨b2, off2 * sz', none⟩ := by rcases g7 with g7 | g7; exact g7; omega
 subst had; subst had2
 obtain ⟨arr, hb1, h8, h9, h10, _⟩ := zcL hs.h.heap hob hφ
 obtain ⟨arr2, hb2, g8, g9, g10, gl⟩ := zcL hs.h.heap hob2 hφ2
 obtain ⟨i, hi, hs'⟩ := ze2 hsz
 have hu := z7 he'
 have hmul : (off2 + min n m) * sz' = off2 * sz' + min n m * sz' := Nat.add_mul _ _ _
 have hpl : ((cs2.drop (off2 * sz')).take (min n m * sz')).length = min n m * sz' := by
  rw [List.length_take, List.length_drop]; omega
 have hnr : RepL c w ((cs2.drop (off2 * sz')).take (min n m * sz')) (((arr2.toList.take cs2.length).drop (off2 * sz')).take (min n m * sz')) := zcO (zdg gl)
 generalize hnews : ((arr2.toList.take cs2.length).drop (off2 * sz')).take (min n m * sz') = news at hnr
 have hnl : news.length = min n m * sz' := by have := zW hnr; rw [hpl] at this; omega
 have hread : (Builtin.firstCells sz' (min m n) (.slice (some ⟨b2, off2 * sz', none⟩) m (cap2 - off2))).run P w = .ok news.toArray w := by
  refine run_firstCells_some (P := P) w sz' (min m n) ⟨b2, off2 * sz', none⟩ m (cap2 - off2) news (by rw [hnl, Nat.min_comm]) (fun j v hj => ?_)
  rw [za9]
  rw [← hnews, List.getElem?_take] at hj
  split at hj
  ·rw [List.getElem?_drop, List.getElem?_take] at hj
   split at hj
   ·simp only [World.cell?, hb2]; simpa using hj
   ·cases hj
  ·cases hj
 have hcapm : (off + n) * sz' ≤ cap * sz' := Nat.mul_le_mul_right _ h5
 have hmn : min n m * sz' ≤ n * sz' := Nat.mul_le_mul_right _ (Nat.min_le_left _ _)
 rw [Nat.add_mul] at hcapm
 obtain ⟨w', hrun, hH, hho⟩ := zoS (P := P) (off := off * sz') hs.h hob hφ hb1 h1 hnr hle (by rw [hpl]; omega)
 have hexec : execOp a.eval o = (do pure (.value (← Builtin.copy_ #[t, u] o.type #[a.eval y1, a.eval y2])) : Sem Next) := by simp [execOp, hop, resolve, invoke, builtin]
 refine zdU hs (w' := w') (u := goInt (Nat.min m n)) ?_ hH hho (fun k x h => zhB h) hd ?_
 ·rw [hexec, Sem.run_bind, hv, hv2]
  simp only [Builtin.copy_, List.getElem?_toArray, List.getElem?_cons_zero, List.getElem?_cons_succ, Sem.run_bind, run_underlying hu, Result.andThen_ok, Builtin.lenOf, Sem.run_pure, sizeOf, typeInfo, run_program, hi, hs']
  rw [show Nat.min m n = min m n from rfl, hread]
  simp only [Result.andThen_ok, hrun, Sem.run_pure]
 ·simp only [Rep, RepP, goInt]
  have : Nat.min m n = min n m := Nat.min_comm _ _
  rw [this]
theorem zkZ {o : Oper} {x : Operand} {t : TypeId} {id : Nat} {e : TypeId} {cs : List AV} (hs : SRel B S c w a) (hop : o.op = .call { callee := .builtin .len, args := #[x], argTypes := #[t] }) (hx : S.ev x = some (.mapr id)) (hob : hget S.H id = some (.arow e 0 cs)) (ht : (zl6 P t).isSome = true) (hd : ∀ d, o.dst = some d → d < S.nt) :
  zgj P B S w a o (some (.pv (.int .i64 (cs.length : Int)))) S.H none := by
 have hr := zcD hs hx
 simp only [Rep] at hr
 obtain ⟨bl, cap, hφ, hv⟩ := hr
 obtain ⟨arr, hbl, _, ⟨h0, _⟩, ⟨_, hle⟩, hl⟩ := hs.h.heap id _ _ hob hφ
 have hc0 := h0 rfl
 subst hc0
 rw [zlK] at hv
 obtain ⟨et, he⟩ := Option.isSome_iff_exists.1 ht
 obtain ⟨d, hu⟩ := ziH he
 have hlen := hle rfl
 rcases hbl with ⟨hn, _⟩ | ⟨_, s, r, hb⟩
 ·exact absurd rfl hn
 ·refine zdU hs (w' := w) (u := goInt arr.size) ?_ hs.h (fun _ h => ⟨h, rfl⟩) (fun k x h => ⟨x, h⟩) hd ?_
  ·have hv' : a.eval x = .chan (some bl) := hv
   have hg : (getObj bl).run P w = .ok (Obj.chan e arr false s r false) w := by simp [getObj, Sem.run, hb]
   simp [execOp, hop, resolve, invoke, builtin, Builtin.len_, run_underlying hu, hv', hg]
  ·simp only [Rep, RepP, goInt]; rw [hlen]
theorem zlH {o : Oper} {t : TypeId} {parts : Array (Nat × Operand)} {ps : List (Nat × AV)} {v : AV} (hs : SRel B S c w a) (hop : o.op = .build t parts) (hp : zbY S.ev parts.toList = some ps) (h : znI P t ps = some v) (hz : zlM P t = true) (hd : ∀ d, o.dst = some d → d < S.nt) :
  zgj P B S w a o (some v) S.H none := by
 have hm := zgU hs o.op
 obtain ⟨hi, hr⟩ := zfg (ρ := a.eval) (xs := parts.toList) (fun x hx v hv => hm x (by simp [hop, Op.operands]; simpa using hx) v hv) hp
 unfold znI at h
 split at h
 case h_2 => cases h
 rename_i zs fs hzs hu
 simp only [Option.map_eq_some_iff] at h
 obtain ⟨bs, hf, rfl⟩ := h
 obtain ⟨z, hz1, hz2⟩ := zpb hzs c w
 have hsz : ∀ f ∈ fs.toList, ∃ s, tsz P f.type = some s := by
  intro f hf
  unfold zlM at hz
  rw [hu] at hz
  simp only [List.all_eq_true] at hz
  exact Option.isSome_iff_exists.1 (hz f hf)
 have hplace : (fun i => (fs.map fun f => (f.offset, (tsz P f.type).getD 0))[i]?) = places P fs := by
  funext i
  unfold places
  simp only [Array.getElem?_map]
  cases hfi : fs[i]? with
  | none => rfl
  | some f =>
   obtain ⟨s, hs⟩ := hsz f (by simpa using Array.mem_of_getElem? hfi)
   simp [hs]
 obtain ⟨out, h1, h2⟩ := zgB (places P fs) ps (parts.toList.map fun (i, x) => (i, a.eval x)) _ z.cells bs hz2 hi hr hf
 refine zdU hs (w' := w) (u := .agg out) ?_ hs.h (fun _ h => ⟨h, rfl⟩) (fun k x h => ⟨x, h⟩) hd ⟨_, rfl, h2⟩
 simp only [execOp, hop, Instr.build, Sem.run_bind, hz1, Result.andThen_ok, Sem.run_pure, run_underlying hu, zjy fs hsz]
 rw [show (fun x => (fs.map fun f => (f.offset, (tsz P f.type).getD 0))[x]?) = places P fs from hplace]
 simp only [Array.toList_map]
 rw [h1]; rfl
theorem zmb {α β γ δ : Type} {p q : α} {b d : β} {e f : γ} {g h : δ} (x : some (p, b, e, g) = some (q, d, f, h)) : p = q ∧ b = d ∧ e = f ∧ g = h := by cases x; exact ⟨rfl, rfl, rfl, rfl⟩
theorem znp {o : Oper} {bo : Bool} {v : Option AV} {H' : Heap} {k : Option Nat} (hs : SRel B S c w a) (he : zek P S.ev S.H o.op = some (bo, v, H', k)) (hb : bo = true) (hd : ∀ d, o.dst = some d → d < S.nt) : zgj P B S w a o v H' k := by
 unfold zek at he
 split at he
 ·rename_i t x hop
  split at he
  case h_2 => cases he
  rename_i id off hx
  split at he
  case h_2 => cases he
  rename_i e sz cs hob
  simp only [Option.map_eq_some_iff, Prod.mk.injEq] at he
  obtain ⟨⟨b1, v1⟩, h1, h2, h3, h4, h5⟩ := he
  simp only at h2 h3
  subst h2; subst h3; subst h4; subst h5
  exact zmH hs hop hx hob h1 hb hd
 ·rename_i t x y hop
  split at he
  case h_2 => cases he
  rename_i id off v1 s hx hy hsz
  split at he
  case h_2 => cases he
  rename_i e sz cs hob
  obtain ⟨rfl, rfl, rfl, rfl⟩ := zmb he
  simp only [Bool.and_eq_true] at hb
  obtain ⟨⟨⟨g1, g2⟩, g3⟩, g4⟩ := hb
  exact zmx hs hop hx hy hsz hob g1 g2 (Nat.eq_of_beq_eq_true g3) (Nat.le_of_ble_eq_true g4) hd
 ·rename_i t x lo hi hop
  split at he
  case h_2 => cases he
  rename_i id sz off n l h e hx hl hh hte
  split at he
  case h_2 => cases he
  rename_i e0 sz' cs hob
  obtain ⟨rfl, rfl, rfl, rfl⟩ := zmb he
  simp only [Bool.and_eq_true, beq_iff_eq, decide_eq_true_eq] at hb
  obtain ⟨⟨⟨⟨⟨g1, g2⟩, g3⟩, g4⟩, g5⟩, g6⟩ := hb
  exact zls hs hop hx hl hh hte hob (Nat.eq_of_beq_eq_true g1) g2 (Nat.le_of_ble_eq_true g3) g4 g5 (Nat.le_of_ble_eq_true g6) hd
 ·rename_i cl hop
  obtain ⟨cal, args, ts⟩ := cl
  obtain ⟨xs, rfl⟩ : ∃ xs : List Operand, args = xs.toArray := ⟨args.toList, by simp⟩
  obtain ⟨tl, rfl⟩ : ∃ tl : List TypeId, ts = tl.toArray := ⟨ts.toList, by simp⟩
  split at he
  ·rename_i id sz off n x t u hcal hvs hts
   simp only at hcal hvs hts
   subst hcal; subst hts
   obtain ⟨y1, y2, rfl, hy1, hy2⟩ := evs2 hvs
   split at he
   case h_2 => cases he
   rename_i e sz' cs m new hob hcn
   split at he
   ·rename_i hcnd
    obtain ⟨rfl, rfl, rfl, rfl⟩ := zmb he
    simp only [Bool.and_eq_true] at hb hcnd
    obtain rfl := Nat.eq_of_beq_eq_true hcnd.1
    exact zjF hs hop hy1 hy2 hob hcn hb.1 (Nat.eq_of_beq_eq_true hcnd.2) (Nat.le_of_ble_eq_true hb.2) hd
   ·obtain ⟨rfl, rfl, rfl, rfl⟩ := zmb he
    simp only [Bool.and_eq_true] at hb
    exact zjH hs hop hy1 hy2 hob hcn hb.1 (Nat.le_of_ble_eq_true hb.2) hd
  ·rename_i id sz off n t hcal hvs hts
   simp only at hcal hvs hts
   subst hcal; subst hts
   obtain ⟨y1, rfl, hy1⟩ := evs1 hvs
   split at he
   case h_2 => cases he
   rename_i e sz' cs e' hob he'
   split at he
   case h_2 => cases he
   rename_i zs hz
   obtain ⟨rfl, rfl, rfl, rfl⟩ := zmb he
   simp only [Bool.and_eq_true, beq_iff_eq] at hb
   obtain ⟨⟨⟨⟨g1, g2⟩, g3⟩, g4⟩, g5⟩ := hb
   exact zml hs hop hy1 hob he' hz (Nat.eq_of_beq_eq_true g1) g2 (Nat.le_of_ble_eq_true g3) (Nat.eq_of_beq_eq_true g4) (Nat.le_of_ble_eq_true g5) hd
  ·rename_i id sz off n id2 sz2 off2 m t u hcal hvs hts
   simp only at hcal hvs hts
   subst hcal; subst hts
   obtain ⟨y1, y2, rfl, hy1, hy2⟩ := evs2 hvs
   split at he
   case h_2 => cases he
   rename_i e sz' cs e2 sz2' cs2 e' hob hob2 he'
   obtain ⟨rfl, rfl, rfl, rfl⟩ := zmb he
   simp only [Bool.and_eq_true, beq_iff_eq] at hb
   obtain ⟨⟨⟨⟨⟨⟨⟨⟨g1, g2⟩, g3⟩, g4⟩, g5⟩, g6⟩, g7⟩, g8⟩, g9⟩ := hb
   exact znj hs hop hy1 hy2 hob hob2 he' g1 (Nat.eq_of_beq_eq_true g2) (Nat.eq_of_beq_eq_true g3) (Nat.eq_of_beq_eq_true g4) (Nat.le_of_ble_eq_true g5) (Nat.le_of_ble_eq_true g6) (Nat.le_of_ble_eq_true g7) (Nat.le_of_ble_eq_true g8) g9 hd
  ·rename_i id t hcal hvs hts
   simp only at hcal hvs hts
   subst hcal; subst hts
   obtain ⟨y1, rfl, hy1⟩ := evs1 hvs
   split at he
   case h_2 => cases he
   rename_i e cs hob
   obtain ⟨rfl, rfl, rfl, rfl⟩ := zmb he
   exact zkZ hs hop hy1 hob hb hd
  ·cases he
 ·rename_i t parts hop
  split at he
  case h_2 => cases he
  rename_i ps hps
  split at he
  case h_2 => cases he
  rename_i v1 hv1
  obtain ⟨rfl, rfl, rfl, rfl⟩ := zmb he
  exact zlH hs hop hps hv1 hb hd
 ·cases he
end
end Go.Proofs.YtppnccjeggnllaaGreatVm
