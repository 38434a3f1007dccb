import Derived.Test.YtppnccjeggnllaaGreatVmH
namespace Go.Proofs.YtppnccjeggnllaaGreatVm
open Go Go.RowKit Go.MapKept
set_option linter.all false
def key2 (P : Program) (t : TypeId) : Bool := match P.underlying t with
 | some (.struct fs) => match fs.toList with
  | [f, g] => match P.underlying f.type, P.underlying g.type with
   | some (.int .i64), some (.int .i64) => decide (f.offset = 0) && decide (g.offset = 1) && decide (f.name ≠ "_") && decide (g.name ≠ "_") && decide (zhT P 20 t = some [.int .i64, .int .i64]) && decide (tagg P t = some true) && decide (tagg P f.type = some false) && decide (tsz P f.type = some 1) && decide (tagg P g.type = some false) && decide (tsz P g.type = some 1)
   | _, _ => false
  | _ => false
 | _ => false
def zkQ (a b : Int) : List (DV × DV) → Option (Option DV)
 | [] => some none
 | (.agg [.int .i64 a', .int .i64 b'], v) :: r => if a = a' ∧ b = b' then some (some v) else zkQ a b r
 | _ :: _ => none
section
variable {P : Program} {c : Ctx} {w : World} {t : TypeId}
structure Key2 (P : Program) (t : TypeId) (f g : Field) : Prop where
 u : P.underlying t = some (.struct #[f, g])
 uf : P.underlying f.type = some (.int .i64)
 ug : P.underlying g.type = some (.int .i64)
 of : f.offset = 0
 og : g.offset = 1
 nf : f.name ≠ "_"
 ng : g.name ≠ "_"
 fl : zhT P 20 t = some [.int .i64, .int .i64]
 ag : tagg P t = some true
 af : tagg P f.type = some false
 sf : tsz P f.type = some 1
 agg : tagg P g.type = some false
 sg : tsz P g.type = some 1
theorem zkG (h : key2 P t = true) : ∃ f g, Key2 P t f g := by
 unfold key2 at h
 split at h
 case h_2 => cases h
 rename_i fs hu
 split at h
 case h_2 => cases h
 rename_i f g hfs
 split at h
 case h_2 => cases h
 rename_i h1 h2
 simp only [Bool.and_eq_true, decide_eq_true_eq] at h
 obtain ⟨⟨⟨⟨⟨⟨⟨⟨⟨a1, a2⟩, a3⟩, a4⟩, a5⟩, a6⟩, a7⟩, a8⟩, a9⟩, a10⟩ := h
 have e : fs = #[f, g] := Array.toList_inj.1 (by simpa using hfs)
 exact ⟨f, g, e ▸ hu, h1, h2, a1, a2, a3, a4, a5, a6, a7, a8, a9, a10⟩
theorem zkH (hk : key2 P t = true) (a b a' b' : Int) : (Op.equal t (.agg #[.int .i64 a, .int .i64 b]) (.agg #[.int .i64 a', .int .i64 b'])).run P w = .ok (decide (a = a' ∧ b = b')) w := by
 obtain ⟨f, g, h⟩ := zkG hk
 obtain ⟨isA, hia, _, _, heq⟩ := zfq (P := P) (w := w) 20 t _ h.fl 10000 (by omega) [.int .i64 a, .int .i64 b] [.int .i64 a', .int .i64 b'] rfl rfl
 rw [h.ag] at hia
 cases hia
 have e : veqL [Value.int .i64 a, .int .i64 b] [.int .i64 a', .int .i64 b'] = decide (a = a' ∧ b = b') := by
  rw [Bool.eq_iff_iff]; simp [veqL, veq]
 rw [e] at heq
 simpa [Op.equal, Op.maxDepth, asV] using heq
theorem zig (hk : key2 P t = true) (em : Bool) (n : Nat) (a b : Int) : (Instr.checkKey em (n + 2) t (.agg #[.int .i64 a, .int .i64 b])).run P w = .ok () w := by
 obtain ⟨f, g, h⟩ := zkG hk
 have pf : ∀ X : Array Value, X.size = 2 → (part f.type X 0).run P w = .ok (asV false ((X.toList.drop 0).take 1)) w := fun X hX => zeU h.af h.sf X 0 (by omega) (fun _ => rfl)
 have pg : ∀ X : Array Value, X.size = 2 → (part g.type X 1).run P w = .ok (asV false ((X.toList.drop 1).take 1)) w := fun X hX => zeU h.agg h.sg X 1 (by omega) (fun _ => rfl)
 have cf : ∀ (u : TypeId) (x : Int), P.underlying u = some (.int .i64) → (Instr.checkKey em (n + 1) u (.int .i64 x)).run P w = .ok () w := fun u x hu => run_checkKey hu (by simp [IsKey]) em n
 rw [Instr.checkKey]
 simp only [Sem.run_bind, run_underlying h.u, Result.andThen_ok]
 simp [h.nf, h.ng, h.of, h.og, pf, pg, asV, cf _ _ h.uf, cf _ _ h.ug, Result.andThen]
theorem zlx (hk : key2 P t = true) {a b : Int} : ∀ {es : List (DV × DV)} {xs : List MapEntry} {r : Option DV} (i : Nat), zaA c w es xs → zkQ a b es = some r →
  (r = none ∧ (Instr.findAsking t (.agg #[.int .i64 a, .int .i64 b]) xs i).run P w = .ok none w) ∨ ∃ u j x, r = some u ∧ (Instr.findAsking t (.agg #[.int .i64 a, .int .i64 b]) xs i).run P w = .ok (some (j, x)) w ∧ Rep c w u.av x
 | [], [], r, i, _, h => by simp only [zkQ] at h; cases h; exact .inl ⟨rfl, by simp [Instr.findAsking]⟩
 | e :: es, x :: xs, r, i, he, h => by
  simp only [zaA] at he
  unfold zkQ at h
  split at h
  ·rename_i h0; cases h0
  ·rename_i a' b' v r' h0
   cases h0
   have hkey := he.1.1
   simp only [DV.av, Rep, RepL, RepP, List.map_cons, List.map_nil] at hkey
   obtain ⟨vs, e1, e2⟩ := hkey
   have e3 : vs = #[.int .i64 a', .int .i64 b'] := by
    refine Array.toList_inj.1 ?_
    match hv : vs.toList, e2 with
    | [p, q], e2 => simp only [RepL, Rep, RepP] at e2; obtain ⟨rfl, rfl, _⟩ := e2; rfl
    | [], e2 => simp [RepL] at e2
    | [_], e2 => simp [RepL] at e2
    | _ :: _ :: _ :: _, e2 => simp [RepL] at e2
   rw [e3] at e1
   by_cases hab : a = a' ∧ b = b'
   ·rw [if_pos hab] at h
    cases h
    exact .inr ⟨v, i, x.val, rfl, by simp [Instr.findAsking, e1, zkH hk, hab, Result.andThen], he.1.2⟩
   ·rw [if_neg hab] at h
    rcases zlx hk (i + 1) he.2 h with ⟨h1, h2⟩ | ⟨u, j, y, h1, h2, h3⟩
    ·exact .inl ⟨h1, by simp [Instr.findAsking, e1, zkH hk, hab, Result.andThen, h2]⟩
    ·exact .inr ⟨u, j, y, h1, by simp [Instr.findAsking, e1, zkH hk, hab, Result.andThen, h2], h3⟩
  ·cases h
 | [], _ :: _, _, _, he, _ => by simp [zaA] at he
 | _ :: _, [], _, _, he, _ => by simp [zaA] at he
theorem zjn (hk : key2 P t = true) {a b : Int} {es : List (DV × DV)} {xs : List MapEntry} {r : Option DV} (he : zaA c w es xs) (h : zkQ a b es = some r) :
  (r = none ∧ (Instr.findKey t (.agg #[.int .i64 a, .int .i64 b]) xs).run P w = .ok none w) ∨ ∃ u j x, r = some u ∧ (Instr.findKey t (.agg #[.int .i64 a, .int .i64 b]) xs).run P w = .ok (some (j, x)) w ∧ Rep c w u.av x := by
 obtain ⟨f, g, hK⟩ := zkG hk
 have e : (Instr.findKey t (.agg #[.int .i64 a, .int .i64 b]) xs).run P w = (Instr.findAsking t (.agg #[.int .i64 a, .int .i64 b]) xs 0).run P w := by
  cases xs with
  | nil => simp [Instr.findKey, run_underlying hK.u, Result.andThen, Instr.findNow, Instr.findAsking]
  | cons x xs => simp [Instr.findKey, run_underlying hK.u, Result.andThen, Instr.findNow, Instr.sameNow]
 rw [e]
 exact zlx hk 0 he h
theorem znX {vs : Array Value} {a b : Int} (h : RepL c w [.pv (.int .i64 a), .pv (.int .i64 b)] vs.toList) : vs = #[.int .i64 a, .int .i64 b] := by
 refine Array.toList_inj.1 ?_
 match hv : vs.toList, h with
 | [p, q], h => simp only [RepL, Rep, RepP] at h; obtain ⟨rfl, rfl, _⟩ := h; rfl
 | [], h => simp [RepL] at h
 | [_], h => simp [RepL] at h
 | _ :: _ :: _ :: _, h => simp [RepL] at h
end
def ziy (cs : List PV) (i : Nat) (new : List PV) : List PV := cs.take i ++ (new ++ cs.drop (i + new.length))
def zqK (P : Program) (ev : Operand → Option AV) (H : Heap) (op : Op) : Option (Prop × AV × Heap) :=
 match op with
 | .slice t x lo hi mx => match ev x, optI ev lo, optI ev hi, optI ev mx, zcE P t with
  | some (.ref id sz off n), some l, some h, some m, some e => match hget H id with
   | some (.row e' sz' cs) => if tsz P e = some sz ∧ sz' = sz then
     match m with
     | none => some (0 < sz ∧ 0 ≤ l.getD 0 ∧ l.getD 0 ≤ h.getD n ∧ (off + (h.getD n).toNat) * sz ≤ cs.length, .ref id sz (off + (l.getD 0).toNat) ((h.getD n).toNat - (l.getD 0).toNat), H)
     | some m => some (0 < sz ∧ 0 ≤ l.getD 0 ∧ l.getD 0 ≤ h.getD n ∧ h.getD n ≤ m ∧ (off + m.toNat) * sz ≤ cs.length ∧ h ≠ none, .undef, H)
    else none
   | _ => none
  | _, _, _, _, _ => none
 | .call c => match c.callee, evs ev c.args.toList, c.argTypes.toList with
  | .builtin .append, some [.ref id sz off n, x], [t, u] => match hget H id, zch H x, zcE P t with
   | some (.row e sz' cs), some (m, new), some e' => if e' = e ∧ sz' = sz ∧ tsz P e = some sz ∧ tsub P u e = true then
     some (0 < sz ∧ new.length = m * sz ∧ (off + (n + m)) * sz ≤ cs.length, .ref id sz off (n + m), hset H id (.row e sz (zgh cs ((off + n) * sz) new))) else none
   | _, _, _ => none
  | .builtin .clear, some [.ref id sz off n], [t] => match hget H id, zcE P t with
   | some (.row e sz' cs), some e' => match zdM P e' with
    | some zs => if sz' = sz ∧ tsz P e' = some sz then
     some (0 < sz ∧ zs.length = sz ∧ (off + n) * sz ≤ cs.length, .tup [], hset H id (.row e sz (zgh cs (off * sz) (zbi zs n)))) else none
    | none => none
   | _, _ => none
  | .builtin .copy, some [.ref id sz off n, .ref id2 sz2 off2 m], [t, _] => match hget H id, hget H id2, zcE P t with
   | some (.row e sz' cs), some (.row _ sz2' cs2), some e' => if tsz P e' = some sz ∧ sz' = sz ∧ sz2 = sz ∧ sz2' = sz then
     some (0 < sz ∧ 0 < min n m ∧ off * sz ≤ cs.length ∧ (off2 + min n m) * sz ≤ cs2.length, .pv (.int .i64 ((min n m : Nat) : Int)), hset H id (.row e sz (ziy cs (off * sz) ((cs2.drop (off2 * sz)).take (min n m * sz))))) else none
   | _, _, _ => none
  | _, _, _ => none
 | .lookup t x k false => match ev x, ev k with
  | some (.mapr id), some (.agg [.pv (.int .i64 a), .pv (.int .i64 b)]) => match hget H id, tmap P t with
   | some (.mp es), some (kt, et) => match zkQ a b es, zlg P et with
    | some r, some z => if key2 P kt = true then some (True, (match r with | some v => v.av | none => z), H) else none
    | _, _ => none
   | _, _ => none
  | _, _ => none
 | _ => none
section
variable {P : Program} {B : Base} {S : St} {c c' : Ctx} {w w' : World} {a : Act} {H : Heap} {mv : List Nat}
theorem zox {id e sz b cap off : Nat} {cs ps : List PV} {us : List Value} (h : HRel B H mv c w) (hob : hget H id = some (.row e sz cs)) (hφ : c.φ id = some (.blk b cap)) (hr : RepL c w (ps.map .pv) us) (hle : off + ps.length ≤ cs.length) :
  ∃ w', (storeCells ⟨b, off, none⟩ us).run P w = .ok () w' ∧ HRel B (hset H id (.row e sz (zgh cs off ps))) mv c w' ∧ za1 c c w w' := by
 obtain ⟨arr, hb, h2, h3, h4, hl⟩ := h.heap id _ _ hob hφ
 have hones : ∀ v ∈ us, v.oneCell' = true := zeC (zkN ps) hr
 have hul : us.length = ps.length := by have := z4 hr; simpa using this.symm
 obtain ⟨w', hrun, hwsz, hos, htp, hou, hoth, hb'⟩ := zfA (P := P) hb hones (by omega : off + us.length ≤ arr.size)
 have hho : za1 c c w w' := fun k hk => ⟨hk, hoth k (fun e' => (h.own id _ b cap hob hφ).2.1 (e' ▸ hk))⟩
 refine ⟨w', hrun, (h.write (o' := .row e sz (zgh cs off ps)) hob hφ hwsz hos htp hou hoth ⟨_, hb', by simp [zbr, h2], h3, by simp [zbr, zdg, h4], ?_⟩).1, hho⟩
 rw [zhD, zdg]
 have h5 := zdZ (i := off) hl hr
 have h6 : zeB (arr.toList.take cs.length) off us = (zeB arr.toList off us).take cs.length := by
  rw [zdI _ _ _ (by simp; omega), zdI _ _ _ (by simp; omega)]
  rw [List.take_append, List.take_append]
  simp only [List.take_take, List.length_take, List.length_append, Array.length_toList]
  have e1 : min off cs.length = off := by omega
  have e2 : min off arr.size = off := by omega
  rw [e1, e2, Nat.min_comm cs.length off, e1]
  rw [List.take_of_length_le (i := cs.length - off) (by omega)]
  rw [List.drop_take]
 rw [h6] at h5
 exact RepL.mono hho (fun _ _ h => h) _ _ (by simpa using h5)
theorem znq {id e sz b cap off : Nat} {cs ps : List PV} {us : List Value} {arr : Array Value} (h : HRel B H mv c w) (hob : hget H id = some (.row e sz cs)) (hφ : c.φ id = some (.blk b cap)) (hb : w.heap[b]? = some (.cells arr e (0, 0))) (hr : RepL c w (ps.map .pv) us) (hle : off ≤ cs.length) (hfit : off + ps.length ≤ arr.size) :
  ∃ w', (storeCells ⟨b, off, none⟩ us).run P w = .ok () w' ∧ HRel B (hset H id (.row e sz (ziy cs off ps))) mv c w' ∧ za1 c c w w' := by
 obtain ⟨arr', hb', h2, h3, h4, hl⟩ := h.heap id _ _ hob hφ
 rw [hb] at hb'; cases hb'
 have hones : ∀ v ∈ us, v.oneCell' = true := zeC (zkN ps) hr
 have hul : us.length = ps.length := by have := z4 hr; simpa using this.symm
 obtain ⟨w', hrun, hwsz, hos, htp, hou, hoth, hb2⟩ := zfA (P := P) hb hones (by omega : off + us.length ≤ arr.size)
 have hho : za1 c c w w' := fun k hk => ⟨hk, hoth k (fun e' => (h.own id _ b cap hob hφ).2.1 (e' ▸ hk))⟩
 have hlen : (ziy cs off ps).length = max cs.length (off + ps.length) := by
  unfold ziy; simp only [List.length_append, List.length_take, List.length_drop]; omega
 refine ⟨w', hrun, (h.write (o' := .row e sz (ziy cs off ps)) hob hφ hwsz hos htp hou hoth ⟨_, hb2, by simp [zbr, h2], h3, by rw [hlen]; simp [zbr]; omega, ?_⟩).1, hho⟩
 rw [hlen]
 have hsz : off + us.length ≤ arr.toList.length := by simp; omega
 rw [zdI _ _ _ hsz]
 have e1 : (arr.toList.take off ++ us ++ arr.toList.drop (off + us.length)).toArray.toList.take (max cs.length (off + ps.length)) = (arr.toList.take cs.length).take off ++ (us ++ (arr.toList.take cs.length).drop (off + us.length)) := by
  rw [List.take_take, Nat.min_eq_left hle, List.drop_take, List.append_assoc]
  show List.take _ (List.take off arr.toList ++ (us ++ List.drop (off + us.length) arr.toList)) = _
  have ha : (List.take off arr.toList).length = off := by rw [List.length_take]; simp; omega
  rw [List.take_append, ha, List.take_of_length_le (by omega), List.take_append]
  congr 2
  ·exact List.take_of_length_le (by omega)
  ·congr 1; omega
 rw [e1]
 unfold ziy
 rw [List.map_append, List.map_append, List.map_take, List.map_drop, ← hul]
 refine RepL.mono hho (fun _ _ h => h) _ _ (zaZ (zc9 hl) (zaZ hr (zdA hl)))
theorem zhV {o : Oper} {v : AV} {u : Value} {H' : Heap} (hs : SRel B S c w a) (hH : HRel B H' S.mv c w') (hho : za1 c c w w') (hwf : ∀ k x, hget H' k = some x → ∃ y, hget S.H k = some y) (hd : ∀ d, o.dst = some d → d < S.nt) (hr : Rep c w' v u) :
  SRel B (S.applyW o.dst (some v) H' none) c w' (a.put o.dst u) := by
 refine ⟨hH, ?_, by rw [zcx]; exact hs.nt, by rw [za9]; exact hs.df, hs.fresh, hs.lo, fun k x hk => ?_, hs.mlo, hs.nlo⟩
 ·exact zdR (fun t v h => Rep.mono hho (fun _ _ h => h) _ _ (hs.t t v h)) (fun d h => by rw [hs.nt]; exact hd d h) hr
 ·obtain ⟨y, hy⟩ := hwf k x hk
  exact hs.wf _ _ hy
theorem ziR {id : Nat} {o : VObj} {k : Nat} {x : VObj} (h : hget (hset H id o) k = some x) : ∃ y, hget H k = some y := by
 rw [zdf] at h
 split at h
 ·rename_i e; subst e
  simp only [Option.map_eq_some_iff] at h
  exact ⟨_, h.choose_spec.1⟩
 ·exact ⟨_, h⟩
theorem zge {a b cap sz : Nat} (h0 : 0 < sz) (h : a * sz ≤ b) (hb : b ≤ cap * sz) : a ≤ cap := Nat.le_of_mul_le_mul_right (Nat.le_trans h hb) h0
theorem zfs {a sz : Nat} (h0 : 0 < sz) (h : a * sz ≤ 0) : a = 0 := by
 rcases Nat.mul_eq_zero.1 (Nat.le_zero.1 h) with h | h
 ·exact h
 ·omega
theorem zjB (cs : List PV) (i : Nat) : zgh cs i [] = cs := rfl
theorem zfL : ∀ {H : Heap} {id : Nat} {o : VObj}, hget H id = some o → hset H id o = H
 | [], _, _, h => by simp [hget] at h
 | (k, o') :: r, id, o, h => by
  simp only [hget] at h
  simp only [hset]
  split
  ·rename_i e; rw [if_pos e] at h; cases h; rfl
  ·rename_i e; rw [if_neg e] at h; rw [zfL h]
theorem zl5 {α β : Type} {p q : Prop} {b d : α} {e f : β} (x : some (p, b, e) = some (q, d, f)) : p = q ∧ b = d ∧ e = f := by cases x; exact ⟨rfl, rfl, rfl⟩
theorem zkR {o : Oper} {cond : Prop} {v : AV} {H' : Heap} (hs : SRel B S c w a) (he : zqK P S.ev S.H o.op = some (cond, v, H')) (hc : cond) (hd : ∀ d, o.dst = some d → d < S.nt) :
  ∃ w' u, (execOp a.eval o).run P w = .ok (.value u) w' ∧ SRel B (S.applyW o.dst (some v) H' none) c w' (a.put o.dst u) := by
 unfold zqK at he
 split at he
 ·rename_i t x lo hi mx hop
  split at he
  case h_2 => simp at he
  rename_i id sz off n l h m e hx hl hh hm hte
  split at he
  case h_2 => simp at he
  rename_i e' sz' cs hob
  split at he
  case isFalse => simp at he
  rename_i hcnd
  obtain ⟨hsz, rfl⟩ := hcnd
  have hmean := ziE (B := B) hs o.op
  have hr := zb7 hs hx
  have rl := zeL hmean (x := lo) (fun y hy => by subst hy; simp [hop, Op.operands]) hl
  have rh := zeL hmean (x := hi) (fun y hy => by subst hy; simp [hop, Op.operands]) hh
  have rm := zeL hmean (x := mx) (fun y hy => by subst hy; simp [hop, Op.operands]) hm
  have hexec : execOp a.eval o = (do pure (.value (← Instr.sliceAt t (a.eval x) (lo.map a.eval) (hi.map a.eval) (mx.map a.eval))) : Sem Next) := by simp [execOp, hop]
  have hu := zai hte
  have fin : ∀ {u : Value} {v : AV}, (Instr.sliceAt t (a.eval x) (lo.map a.eval) (hi.map a.eval) (mx.map a.eval)).run P w = .ok u w → Rep c w v u →
    ∃ w' u, (execOp a.eval o).run P w = .ok (.value u) w' ∧ SRel B (S.applyW o.dst (some v) S.H none) c w' (a.put o.dst u) := fun {u v} h1 h2 =>
   ⟨w, u, by rw [hexec, Sem.run_bind, h1]; rfl, zhV hs hs.h (fun _ h => ⟨h, rfl⟩) (fun k x h => ⟨x, h⟩) hd h2⟩
  simp only [Rep] at hr
  split at he
  ·obtain ⟨rfl, rfl, rfl⟩ := zl5 he
   obtain ⟨h0, h1, h2, h3⟩ := hc
   have hmn : mx.map a.eval = none := by rcases rm with ⟨_, h⟩ | ⟨_, _, h, _⟩; exact h; cases h
   rcases hr with ⟨hφ, rfl, rfl, ad, hv⟩ | ⟨b, cap, ad, hφ, hv, h5, h6, h7⟩
   ·have hcs : cs = [] := hs.h.heap id _ _ hob hφ
    subst hcs
    have h9 : (h.getD ((0 : Nat) : Int)).toNat = 0 := by
     have := zfs h0 h3
     omega
    have hb := zbZ (P := P) (w := w) true 0 0 _ _ none l h none rl rh (.inl ⟨rfl, rfl⟩) h1 h2 (by show h.getD ((0 : Nat) : Int) ≤ ((0 : Nat) : Int); omega) (by simp) (.inl rfl)
    have e1 : (l.getD 0).toNat = 0 := by omega
    refine fin (u := .slice ad 0 0) ?_ ?_
    ·rw [hv, hmn]
     simp only [Instr.sliceAt, Instr.slice, Sem.run_bind, run_underlying hu, Result.andThen_ok, hb, zaS hsz, Sem.run_pure, e1, h9]
     simp
    ·rw [e1, h9]
     simp only [Rep]
     exact .inl ⟨hφ, by simp, by simp, _, rfl⟩
   ·obtain ⟨arr, hb1, h8, h9, h10, _⟩ := hs.h.heap id _ _ hob hφ
    have h11 : off + (h.getD n).toNat ≤ cap := zge h0 h3 (by omega)
    have hb := zbZ (P := P) (w := w) true n (cap - off) _ _ none l h none rl rh (.inl ⟨rfl, rfl⟩) h1 h2 (by simp; omega) (by simp) (.inl rfl)
    refine fin (u := .slice (if cap - off = (l.getD 0).toNat then ad else ad.map (·.add ((l.getD 0).toNat * sz'))) ((h.getD n).toNat - (l.getD 0).toNat) (cap - off - (l.getD 0).toNat)) ?_ ?_
    ·rw [hv, hmn]
     simp only [Instr.sliceAt, Instr.slice, Sem.run_bind, run_underlying hu, Result.andThen_ok, hb, zaS hsz, Sem.run_pure]
     simp
    ·simp only [Rep]
     refine .inr ⟨b, cap, _, hφ, by rw [Nat.sub_sub], by omega, h6, ?_⟩
     by_cases hz : cap - off = (l.getD 0).toNat
     ·right; omega
     ·rw [if_neg hz]
      rcases h7 with rfl | h7
      ·left; simp [zbc, Nat.add_mul]
      ·omega
  ·rename_i m'
   obtain ⟨rfl, rfl, rfl⟩ := zl5 he
   obtain ⟨h0, h1, h2, h3, h4, h12⟩ := hc
   rcases hr with ⟨hφ, rfl, rfl, ad, hv⟩ | ⟨b, cap, ad, hφ, hv, h5, h6, h7⟩
   ·have hcs : cs = [] := hs.h.heap id _ _ hob hφ
    subst hcs
    have h9 : m'.toNat = 0 := by
     have := zfs h0 h4
     omega
    have hb := zbZ (P := P) (w := w) true 0 0 _ _ _ l h (some m') rl rh rm h1 h2 (by simpa using h3) (by simp; omega) (.inr h12)
    refine fin (u := .slice (if m'.toNat = (l.getD 0).toNat then ad else ad.map (·.add ((l.getD 0).toNat * sz'))) ((h.getD ((0 : Nat) : Int)).toNat - (l.getD 0).toNat) (m'.toNat - (l.getD 0).toNat)) ?_ trivial
    rw [hv]
    simp only [Instr.sliceAt, Instr.slice, Sem.run_bind, run_underlying hu, Result.andThen_ok, hb, zaS hsz, Sem.run_pure]
    simp
   ·obtain ⟨arr, hb1, h8, h9, h10, _⟩ := hs.h.heap id _ _ hob hφ
    have h11 : off + m'.toNat ≤ cap := zge h0 h4 (by omega)
    have hb := zbZ (P := P) (w := w) true n (cap - off) _ _ _ l h (some m') rl rh rm h1 h2 (by simpa using h3) (by simp; omega) (.inr h12)
    refine fin (u := .slice (if m'.toNat = (l.getD 0).toNat then ad else ad.map (·.add ((l.getD 0).toNat * sz'))) ((h.getD n).toNat - (l.getD 0).toNat) (m'.toNat - (l.getD 0).toNat)) ?_ trivial
    rw [hv]
    simp only [Instr.sliceAt, Instr.slice, Sem.run_bind, run_underlying hu, Result.andThen_ok, hb, zaS hsz, Sem.run_pure]
    simp
 ·rename_i cl hop
  obtain ⟨callee, args, ts⟩ := cl
  obtain ⟨xs, rfl⟩ : ∃ xs : List Operand, args = xs.toArray := ⟨args.toList, by simp⟩
  obtain ⟨tl, rfl⟩ : ∃ tl : List TypeId, ts = tl.toArray := ⟨ts.toList, by simp⟩
  simp only at he
  split at he
  ·rename_i id sz off n x t u hvs
   split at he
   case h_2 => simp at he
   rename_i e sz' cs m nw e' hob hcn he'
   split at he
   case isFalse => simp at he
   rename_i hcnd
   obtain ⟨rfl, rfl, hsz, hu⟩ := hcnd
   obtain ⟨rfl, rfl, rfl⟩ := zl5 he
   obtain ⟨h0, hnl, hle⟩ := hc
   match xs, hvs with
   | [], hvs => simp [evs] at hvs
   | [_], hvs => have := zbA hvs; simp at this
   | _ :: _ :: _ :: _, hvs => have := zbA hvs; simp at this
   | [y1, y2], hvs =>
    simp only [evs] at hvs
    cases hy1 : S.ev y1 with
    | none => simp [hy1] at hvs
    | some a1 =>
     cases hy2 : S.ev y2 with
     | none => simp [hy1, hy2] at hvs
     | some a2 =>
      simp [hy1, hy2] at hvs
      obtain ⟨rfl, rfl⟩ := hvs
      have hrx := zb7 hs hy1
      have hry := zb7 hs hy2
      obtain ⟨i, hi, hs'⟩ := zfI hsz
      obtain ⟨hlen, news, hnr, hnew⟩ := zcK (P := P) (sz := sz') hs.h.heap hcn hry hnl
      have hnewlen := z4 hnr
      simp only [List.length_map] at hnewlen
      have hexec : execOp a.eval o = (do pure (.value (← Builtin.append_ #[t, u] o.type #[a.eval y1, a.eval y2])) : Sem Next) := by simp [execOp, hop, resolve, invoke, builtin]
      obtain ⟨hu1, hu2⟩ := zgn hu
      have e4 := hnew w rfl
      rw [← hs'] at e4
      simp only [Rep] at hrx
      rcases hrx with ⟨hφ, rfl, rfl, ad, hv⟩ | ⟨b, cap, ad, hφ, hv, h5, h6, h7⟩
      ·have hcs : cs = [] := hs.h.heap id _ _ hob hφ
       subst hcs
       have hm0 : m = 0 := by
        have := zfs h0 hle
        omega
       subst hm0
       have e2 : nw = [] := List.eq_nil_of_length_eq_zero (by omega)
       subst e2
       have e3 : news = [] := List.eq_nil_of_length_eq_zero (by simpa using hnewlen.symm)
       subst e3
       have hr := zdz (P := P) (w := w) (ty := o.type) (a := ad) (n := 0) (cap := 0) (zai he') hu1 hu2 hi (hlen w) e4 (by omega)
       refine ⟨w, .slice ad 0 0, ?_, ?_⟩
       ·rw [hexec, Sem.run_bind, hv, hr]; cases ad <;> simp [storeCells]
       ·rw [zjB, zfL hob]
        refine zhV hs hs.h (fun _ h => ⟨h, rfl⟩) (fun k x h => ⟨x, h⟩) hd ?_
        simp only [Rep]; exact .inl ⟨hφ, by simp, by simp, ad, rfl⟩
      ·obtain ⟨arr, hb1, h8, h9, h10, _⟩ := hs.h.heap id _ _ hob hφ
       have h11 : off + (n + m) ≤ cap := zge h0 hle (by omega)
       have hr := zdz (P := P) (w := w) (ty := o.type) (a := ad) (n := n) (cap := cap - off) (zai he') hu1 hu2 hi (hlen w) e4 (by omega)
       rcases h7 with rfl | h7
       ·have hfit : (off + n) * sz' + nw.length ≤ cs.length := by rw [hnl, ← Nat.add_mul]; rw [Nat.add_assoc]; exact hle
        obtain ⟨w', hrun, hH, hho⟩ := zox (P := P) (off := (off + n) * sz') hs.h hob hφ hnr hfit
        refine ⟨w', .slice (some ⟨b, off * sz', none⟩) (n + m) (cap - off), ?_, zhV hs hH hho (fun k x h => ziR h) hd ?_⟩
        ·rw [hexec, Sem.run_bind, hv, hr]
         simp only [zbc, hs', ← Nat.add_mul, hrun, Result.andThen_ok, Sem.run_pure]
        ·simp only [Rep]; exact .inr ⟨b, cap, _, hφ, rfl, by omega, h6, .inl rfl⟩
       ·obtain ⟨rfl, rfl⟩ : n = 0 ∧ m = 0 := by omega
        have e2 : nw = [] := List.eq_nil_of_length_eq_zero (by omega)
        subst e2
        have e3 : news = [] := List.eq_nil_of_length_eq_zero (by simpa using hnewlen.symm)
        subst e3
        refine ⟨w, .slice ad 0 (cap - off), ?_, ?_⟩
        ·rw [hexec, Sem.run_bind, hv, hr]; cases ad <;> simp [storeCells]
        ·rw [zjB, zfL hob]
         refine zhV hs hs.h (fun _ h => ⟨h, rfl⟩) (fun k x h => ⟨x, h⟩) hd ?_
         simp only [Rep]; exact .inr ⟨b, cap, ad, hφ, rfl, by omega, h6, .inr h7⟩
  ·rename_i id sz off n t hvs
   split at he
   case h_2 => simp at he
   rename_i e sz' cs e' hob he'
   split at he
   case h_2 => simp at he
   rename_i zs hz
   split at he
   case isFalse => simp at he
   rename_i hcnd
   obtain ⟨rfl, hsz⟩ := hcnd
   obtain ⟨rfl, rfl, rfl⟩ := zl5 he
   obtain ⟨h0, hzl, hle⟩ := hc
   match xs, hvs with
   | [], hvs => simp [evs] at hvs
   | _ :: _ :: _, hvs => have := zbA hvs; simp at this
   | [y1], hvs =>
    simp only [evs] at hvs
    cases hy1 : S.ev y1 with
    | none => simp [hy1] at hvs
    | some a1 =>
     simp [hy1] at hvs
     subst hvs
     have hrx := zb7 hs hy1
     obtain ⟨i, z, hi, hzi, hzz, hcz⟩ := zf6 hz
     have hu := zai he'
     have hexec : execOp a.eval o = (do pure (.value (← Builtin.clear_ #[t] o.type #[a.eval y1])) : Sem Next) := by simp [execOp, hop, resolve, invoke, builtin]
     have nothing : ∀ u : Value, (Builtin.clear_ #[t] o.type #[a.eval y1]).run P w = .ok (.tuple #[]) w → zgh cs (off * sz') (zbi zs n) = cs →
       ∃ w' u, (execOp a.eval o).run P w = .ok (.value u) w' ∧ SRel B (S.applyW o.dst (some (.tup [])) (hset S.H id (.row e sz' (zgh cs (off * sz') (zbi zs n)))) none) c w' (a.put o.dst u) := fun u h1 h2 => by
      refine ⟨w, .tuple #[], by rw [hexec, Sem.run_bind, h1]; rfl, ?_⟩
      rw [h2, zfL hob]
      exact zhV hs hs.h (fun _ h => ⟨h, rfl⟩) (fun k x h => ⟨x, h⟩) hd ⟨#[], rfl, by simp [RepL]⟩
     simp only [Rep] at hrx
     rcases hrx with ⟨hφ, rfl, rfl, ad, hv⟩ | ⟨b, cap, ad, hφ, hv, h5, h6, h7⟩
     ·refine nothing undef ?_ rfl
      rw [hv]; unfold Builtin.clear_
      simp only [List.getElem?_toArray, List.getElem?_cons_zero, Sem.run_bind, run_underlying hu, Result.andThen_ok]
      cases ad <;> simp
     ·by_cases hn0 : n = 0
      ·subst hn0
       refine nothing undef ?_ rfl
       rw [hv]; unfold Builtin.clear_
       simp only [List.getElem?_toArray, List.getElem?_cons_zero, Sem.run_bind, run_underlying hu, Result.andThen_ok]
       cases ad <;> simp
      ·obtain ⟨arr, hb1, h8, h9, h10, _⟩ := hs.h.heap id _ _ hob hφ
       rcases h7 with rfl | h7
       ·have hrz : RepL c w ((zbi zs n).map .pv) ((List.range (n * z.cells.size)).map fun i => z.cells[i % z.cells.size]!) := zf5 (zde hcz) n
        have hfit : off * sz' + (zbi zs n).length ≤ cs.length := by rw [zdQ, hzl, ← Nat.add_mul]; exact hle
        obtain ⟨w', hrun, hH, hho⟩ := zox (P := P) (off := off * sz') hs.h hob hφ hrz hfit
        refine ⟨w', .tuple #[], ?_, zhV hs hH hho (fun k x h => ziR h) hd ⟨#[], rfl, by simp [RepL]⟩⟩
        obtain ⟨n', rfl⟩ : ∃ n', n = n' + 1 := ⟨n - 1, by omega⟩
        rw [hexec, Sem.run_bind, hv]; unfold Builtin.clear_
        simp only [List.getElem?_toArray, List.getElem?_cons_zero, Sem.run_bind, run_underlying hu, Result.andThen_ok, zeroValue, typeInfo, run_program, hi, hzi, Sem.run_pure, Builtin.zeroCells, Array.toList_map, Array.toList_range, hrun]
       ·omega
  ·rename_i id sz off n id2 sz2 off2 m t u hvs
   split at he
   case h_2 => simp at he
   rename_i e sz' cs e2 sz2' cs2 e' hob hob2 he'
   split at he
   case isFalse => simp at he
   rename_i hcnd
   obtain ⟨hsz, e1, e2, e3⟩ := hcnd
   subst e1
   have e2' := e2.symm; subst e2'
   have e3' := e3.symm; subst e3'
   obtain ⟨rfl, rfl, rfl⟩ := zl5 he
   obtain ⟨h0, hk0, hle, hle2⟩ := hc
   match xs, hvs with
   | [], hvs => simp [evs] at hvs
   | [_], hvs => have := zbA hvs; simp at this
   | _ :: _ :: _ :: _, hvs => have := zbA hvs; simp at this
   | [y1, y2], hvs =>
    simp only [evs] at hvs
    cases hy1 : S.ev y1 with
    | none => simp [hy1] at hvs
    | some a1 =>
     cases hy2 : S.ev y2 with
     | none => simp [hy1, hy2] at hvs
     | some a2 =>
      simp [hy1, hy2] at hvs
      obtain ⟨rfl, rfl⟩ := hvs
      have hrx := zb7 hs hy1
      have hry := zb7 hs hy2
      simp only [Rep] at hrx hry
      rcases hrx with ⟨_, _, hn0, _⟩ | ⟨b, cap, ad, hφ, hv, h5, h6, h7⟩
      ·omega
      rcases hry with ⟨_, _, hm0, _⟩ | ⟨b2, cap2, ad2, hφ2, hv2, g5, g6, g7⟩
      ·omega
      have had : ad = some ⟨b, off * sz', none⟩ := by rcases h7 with h7 | h7; exact h7; omega
      have had2 : ad2 = some ⟨b2, off2 * sz', none⟩ := by rcases g7 with g7 | g7; exact g7; omega
      subst had; subst had2
      obtain ⟨arr, hb1, h8, h9, h10, _⟩ := hs.h.heap id _ _ hob hφ
      obtain ⟨arr2, hb2, g8, g9, g10, gl⟩ := hs.h.heap id2 _ _ hob2 hφ2
      obtain ⟨i, hi, hs'⟩ := zfI hsz
      have hu := zai he'
      have hmul : (off2 + min n m) * sz' = off2 * sz' + min n m * sz' := Nat.add_mul _ _ _
      have hpl : ((cs2.drop (off2 * sz')).take (min n m * sz')).length = min n m * sz' := by
       rw [List.length_take, List.length_drop]; omega
      -- what is read
      have hnr : RepL c w (((cs2.drop (off2 * sz')).take (min n m * sz')).map .pv) (((arr2.toList.take cs2.length).drop (off2 * sz')).take (min n m * sz')) := by
       rw [List.map_take, List.map_drop]; exact zc9 (zdA gl)
      generalize hnews : ((arr2.toList.take cs2.length).drop (off2 * sz')).take (min n m * sz') = news at hnr
      have hnl : news.length = min n m * sz' := by have := z4 hnr; rw [List.length_map, hpl] at this; omega
      have hread : (Builtin.firstCells sz' (min m n) (.slice (some ⟨b2, off2 * sz', none⟩) m (cap2 - off2))).run P w = .ok news.toArray w := by
       refine run_firstCells_some (P := P) w sz' (min m n) ⟨b2, off2 * sz', none⟩ m (cap2 - off2) news (by rw [hnl, Nat.min_comm]) (fun j v hj => ?_)
       rw [zbc]
       rw [← hnews, List.getElem?_take] at hj
       split at hj
       ·rw [List.getElem?_drop, List.getElem?_take] at hj
        split at hj
        ·simp only [World.cell?, hb2]; simpa using hj
        ·cases hj
       ·cases hj
      have hcapm : (off + n) * sz' ≤ cap * sz' := Nat.mul_le_mul_right _ h5
      have hmn : min n m * sz' ≤ n * sz' := Nat.mul_le_mul_right _ (Nat.min_le_left _ _)
      rw [Nat.add_mul] at hcapm
      obtain ⟨w', hrun, hH, hho⟩ := znq (P := P) (off := off * sz') hs.h hob hφ hb1 hnr hle (by rw [hpl]; omega)
      have hexec : execOp a.eval o = (do pure (.value (← Builtin.copy_ #[t, u] o.type #[a.eval y1, a.eval y2])) : Sem Next) := by simp [execOp, hop, resolve, invoke, builtin]
      refine ⟨w', goInt (Nat.min m n), ?_, zhV hs hH hho (fun k x h => ziR h) hd ?_⟩
      ·rw [hexec, Sem.run_bind, hv, hv2]
       simp only [Builtin.copy_, List.getElem?_toArray, List.getElem?_cons_zero, List.getElem?_cons_succ, Sem.run_bind, run_underlying hu, Result.andThen_ok, Builtin.lenOf, Sem.run_pure, sizeOf, typeInfo, run_program, hi, hs']
       rw [show Nat.min m n = min m n from rfl, hread]
       simp only [Result.andThen_ok, hrun, Sem.run_pure]
      ·simp only [Rep, RepP, goInt]
       have : Nat.min m n = min n m := Nat.min_comm _ _
       rw [this]
  ·simp at he
 ·rename_i t x k hop
  split at he
  case h_2 => simp at he
  rename_i id ka kb hx hk
  split at he
  case h_2 => simp at he
  rename_i es kt et hob htm
  split at he
  case h_2 => simp at he
  rename_i r z hf hz
  split at he
  case isFalse => simp at he
  rename_i hk2
  obtain ⟨rfl, rfl, rfl⟩ := zl5 he
  have hrx := zb7 hs hx
  have hrk := zb7 hs hk
  simp only [Rep] at hrx
  obtain ⟨b, cap, hφ, hv⟩ := hrx
  obtain ⟨arr, clock, hb, hents⟩ := hs.h.heap id _ _ hob hφ
  have hkv : a.eval k = .agg #[.int .i64 ka, .int .i64 kb] := by
   simp only [Rep] at hrk
   obtain ⟨vs, h1, h2⟩ := hrk
   rw [h1, znX h2]
  obtain ⟨zv, hz1, hz2⟩ := zip hz c w
  have hck := zig (P := P) (w := w) hk2 arr.isEmpty 9998 ka kb
  rcases zjn (P := P) (c := c) (w := w) hk2 hents hf with ⟨rfl, h1⟩ | ⟨u, j, y, rfl, h1, h2⟩
  ·refine ⟨w, zv, ?_, zhV hs hs.h (fun _ h => ⟨h, rfl⟩) (fun k x h => ⟨x, h⟩) hd hz2⟩
   simp only [execOp, hop, Instr.lookup, hv, hkv, Sem.run_bind, run_underlying (zcY htm), Result.andThen_ok, MapKept.run_getObj_map hb, Sem.run_pure, hck, h1, hz1]
   simp
  ·refine ⟨w, y, ?_, zhV hs hs.h (fun _ h => ⟨h, rfl⟩) (fun k x h => ⟨x, h⟩) hd h2⟩
   simp only [execOp, hop, Instr.lookup, hv, hkv, Sem.run_bind, run_underlying (zcY htm), Result.andThen_ok, MapKept.run_getObj_map hb, Sem.run_pure, hck, h1]
   simp
 ·simp at he
def zqC (P : Program) (ev : Operand → Option AV) (H : Heap) (op : Op) : Option (Prop × Heap) :=
 match op with
 | .mapUpdate t m k x => match ev m, ev k, ev x with
  | some (.mapr id), some (.agg [.pv (.int .i64 a), .pv (.int .i64 b)]), some xv => match hget H id, tmap P t, DV.of xv with
   | some (.mp es), some (kt, _), some u => if key2 P kt = true then some (zkQ a b es = some none, hset H id (.mp (es ++ [(.agg [.int .i64 a, .int .i64 b], u)]))) else none
   | _, _, _ => none
  | some (.mapr id), some kv, some xv => match hget H id, tmap P t, DV.of kv, DV.of xv with
   | some (.mp es), some (kt, _), some d, some u => match mput d u es with
    | some es' => if zje P kt d = true then some (True, hset H id (.mp es')) else none
    | none => none
   | _, _, _, _ => none
  | _, _, _ => none
 | _ => none
theorem zln {t : TypeId} {td : TypeDesc} {d u : DV} {v x : Value} (hk : zje P t d = true) (hu : P.underlying t = some td) (hr : Rep c w d.av v) (hx : Rep c w u.av x) : ∀ {es es' : List (DV × DV)} {xs : List MapEntry} (i : Nat), zaA c w es xs → mput d u es = some es' →
  (Instr.findNow td v xs i = some none ∧ ∀ n, zaA c w es' (xs ++ [{ key := v, val := x, born := n }])) ∨ ∃ j e y, Instr.findNow td v xs i = some (some (i + j, y)) ∧ xs[j]? = some e ∧ e.key = v ∧ zaA c w es' (xs.modify j fun e => { e with key := v, val := x })
 | [], es', [], i, _, h => by simp only [mput] at h; cases h; exact .inl ⟨rfl, fun n => ⟨⟨hr, hx⟩, trivial⟩⟩
 | (k', u') :: es, es', e :: xs, i, he, h => by
  simp only [zaA] at he
  simp only [mput] at h
  split at h
  ·rename_i e1
   cases h
   have h1 := zeK hk hu e1 hr he.1.1
   have hkey : e.key = v := by
    have h2 := h1
    unfold zje at hk
    split at hk
    ·simp only [DV.av, Rep, RepP] at hr
     subst hr
     split at hk
     ·rename_i hu'
      rw [hu] at hu'; cases hu'
      cases hek : e.key <;> rw [hek] at h2 <;> simp [Instr.sameNow] at h2
      obtain ⟨rfl, rfl⟩ := h2; rfl
     ·simp at hk
    ·simp only [DV.av, Rep, RepP] at hr
     subst hr
     split at hk
     ·rename_i hu'
      rw [hu] at hu'; cases hu'
      cases hek : e.key <;> rw [hek] at h2 <;> simp [Instr.sameNow, bytes_beq] at h2
      rw [h2]
     ·simp at hk
    ·simp at hk
   exact .inr ⟨0, e, e.val, by simp [Instr.findNow, h1], rfl, hkey, by simp only [List.modify_zero_cons, zaA]; exact ⟨⟨hr, hx⟩, he.2⟩⟩
  ·rename_i e1
   simp only [Option.map_eq_some_iff] at h
   obtain ⟨es2, h3, rfl⟩ := h
   have h1 := zeK hk hu e1 hr he.1.1
   rcases zln hk hu hr hx (i + 1) he.2 h3 with ⟨h4, h5⟩ | ⟨j, e', y, h4, h5, h6, h7⟩
   ·exact .inl ⟨by simp [Instr.findNow, h1, h4], fun n => by simp only [List.cons_append, zaA]; exact ⟨he.1, h5 n⟩⟩
   ·exact .inr ⟨j + 1, e', y, by simp [Instr.findNow, h1, h4]; omega, by simpa using h5, h6, by simp only [List.modify_succ_cons, zaA]; exact ⟨he.1, h7⟩⟩
  ·cases h
 | [], _, _ :: _, _, he, _ => by simp [zaA] at he
 | _ :: _, _, [], _, he, _ => by simp [zaA] at he
theorem zkq {o : Oper} {cond : Prop} {H' : Heap} (hs : SRel B S c w a) (he : zqC P S.ev S.H o.op = some (cond, H')) (hc : cond) (hd : ∀ d, o.dst = some d → d < S.nt) :
  ∃ w', (execOp a.eval o).run P w = .ok .skip w' ∧ SRel B (S.applyW o.dst none H' none) c w' (a.put o.dst undef) := by
 unfold zqC at he
 split at he
 case h_2 => simp at he
 rename_i t m k x hop
 have hexec : execOp a.eval o = (do Instr.mapUpdate t (a.eval m) (a.eval k) (a.eval x); pure .skip : Sem Next) := by simp [execOp, hop]
 have fin : ∀ {id b cap : Nat} {es es' : List (DV × DV)} {arr : Array MapEntry} {clock : Nat}, hget S.H id = some (.mp es) → c.φ id = some (.blk b cap) → w.heap[b]? = some (.map arr clock) → ∀ obj : Obj, (Instr.mapUpdate t (a.eval m) (a.eval k) (a.eval x)).run P w = .ok () { w with heap := w.heap.setIfInBounds b obj } → (∀ w', za1 c c w w' → w'.heap[b]? = some obj → zbe c w' (.mp es') (.blk b cap)) →
   ∃ w', (execOp a.eval o).run P w = .ok .skip w' ∧ SRel B (S.applyW o.dst none (hset S.H id (.mp es')) none) c w' (a.put o.dst undef) := fun {id b cap es es' arr clock} hob hφ hb obj h1 h2 => by
  have hset1 := heap_set (o' := obj) hb
  have hho : za1 c c w { w with heap := w.heap.setIfInBounds b obj } := fun k' hk' => ⟨hk', hset1.2 k' (fun e => (hs.h.own id _ b cap hob hφ).2.1 (e ▸ hk'))⟩
  refine ⟨_, by rw [hexec, Sem.run_bind, h1]; rfl, ?_⟩
  obtain ⟨hH, _⟩ := hs.h.write (w' := { w with heap := w.heap.setIfInBounds b obj }) (o' := .mp es') hob hφ (by simp) rfl rfl rfl hset1.2 (h2 _ hho hset1.1)
  refine ⟨hH, ?_, by rw [zcx]; exact hs.nt, by rw [za9]; exact hs.df, hs.fresh, hs.lo, fun k x hk => ?_, hs.mlo, hs.nlo⟩
  ·exact zdR (fun t v h => Rep.mono hho (fun _ _ h => h) _ _ (hs.t t v h)) (fun d h => by rw [hs.nt]; exact hd d h) trivial
  ·obtain ⟨y, hy⟩ := ziR hk
   exact hs.wf _ _ hy
 split at he
 case h_3 => simp at he
 case h_1 =>
  rename_i id ka kb xv hm hk hx
  split at he
  case h_2 => simp at he
  rename_i es kt et u hob htm hdx
  split at he
  case isFalse => simp at he
  rename_i hk2
  obtain ⟨rfl, rfl⟩ := zaq he
  have hrm := zb7 hs hm
  have hrk := zb7 hs hk
  have hrx := zb7 hs hx
  rw [← zqb hdx] at hrx
  simp only [Rep] at hrm
  obtain ⟨b, cap, hφ, hv⟩ := hrm
  obtain ⟨arr, clock, hb, hents⟩ := hs.h.heap id _ _ hob hφ
  have hkv : a.eval k = .agg #[.int .i64 ka, .int .i64 kb] := by
   simp only [Rep] at hrk
   obtain ⟨vs, h1, h2⟩ := hrk
   rw [h1, znX h2]
  have hck := zig (P := P) (w := w) hk2 false 9998 ka kb
  rcases zjn (P := P) (c := c) (w := w) hk2 hents hc with ⟨_, h1⟩ | ⟨u', j, y, h0, _⟩
  ·refine fin hob hφ hb (.map (arr.push { key := a.eval k, val := a.eval x, born := clock }) (clock + 1)) ?_ (fun w' hh hb' => ⟨_, _, hb', ?_⟩)
   ·rw [hv, hkv]
    simp only [Instr.mapUpdate, Sem.run_bind, run_underlying (zcY htm), Result.andThen_ok, MapKept.run_getObj_map hb, hck, h1, MapKept.run_setObj_map _ hb]
   ·rw [Array.toList_push]
    have h3 : ∀ {es : List (DV × DV)} {xs : List MapEntry}, zaA c w es xs → zaA c w (es ++ [(DV.agg [.int .i64 ka, .int .i64 kb], u)]) (xs ++ [{ key := a.eval k, val := a.eval x, born := clock }]) := fun {es} => by
     induction es with
     | nil => intro xs h; cases xs with
      | nil => exact ⟨⟨hrk, hrx⟩, trivial⟩
      | cons _ _ => simp [zaA] at h
     | cons e es ih => intro xs h; cases xs with
      | nil => simp [zaA] at h
      | cons x xs => simp only [zaA, List.cons_append] at h ⊢; exact ⟨h.1, ih h.2⟩
    exact (h3 hents).mono hh
  ·cases h0
 rename_i id kv xv hnk hm hk hx
 split at he
 case h_2 => simp at he
 rename_i es kt et d u hob htm hdk hdx
 split at he
 case h_2 => simp at he
 rename_i es' hput
 split at he
 case isFalse => simp at he
 rename_i hko
 obtain ⟨_, rfl⟩ := zaq he
 have hrm := zb7 hs hm
 have hrk := zb7 hs hk
 have hrx := zb7 hs hx
 rw [← zqb hdk] at hrk
 rw [← zqb hdx] at hrx
 simp only [Rep] at hrm
 obtain ⟨b, cap, hφ, hv⟩ := hrm
 obtain ⟨arr, clock, hb, hents⟩ := hs.h.heap id _ _ hob hφ
 obtain ⟨td, hu, hkey⟩ := zlc hko hrk
 have hck := run_checkKey (P := P) (w := w) hu hkey false 9999
 rcases zln hko hu hrk hrx 0 hents hput with ⟨h1, h2⟩ | ⟨j, e, y, h1, h2, h3, h4⟩
 ·refine fin hob hφ hb (.map (arr.push { key := a.eval k, val := a.eval x, born := clock }) (clock + 1)) ?_ (fun w' hh hb' => ⟨_, _, hb', by rw [Array.toList_push]; exact (h2 clock).mono hh⟩)
  rw [hv]
  simp only [Instr.mapUpdate, Sem.run_bind, run_underlying (zcY htm), Result.andThen_ok, MapKept.run_getObj_map hb, hck, run_findKey hu h1, MapKept.run_setObj_map _ hb]
 ·have hj : arr[j]? = some e := by simpa using h2
  refine fin hob hφ hb (.map (arr.modify j fun e => { e with key := a.eval k, val := a.eval x }) clock) ?_ (fun w' hh hb' => ⟨_, _, hb', by rw [Array.toList_modify]; exact h4.mono hh⟩)
  rw [hv]
  simp only [Instr.mapUpdate, Sem.run_bind, run_underlying (zcY htm), Result.andThen_ok, MapKept.run_getObj_map hb, hck, run_findKey hu h1, Nat.zero_add, hj, Option.map_some, Option.getD_some, h3, run_keyThatStays hkey, MapKept.run_setObj_map _ hb]
end
end Go.Proofs.YtppnccjeggnllaaGreatVm
