import Derived.Test.YtppnccjeggnllaaGreatPl10c
namespace Go.Proofs.YtppnccjeggnllaaGreat
open Go Go.RowKit Go.Proofs.YtppnccjeggnllaaGreatVm
attribute [local irreducible] zY zaM OpsS
set_option maxHeartbeats 400000
set_option maxRecDepth 100000
set_option linter.all false

theorem ziw {c : zu} (hf : Fits c) (h1 : c.Abilities.length ≤ 70) (h2 : c.Auras.length ≤ 70) (h3 : c.Foes.length ≤ 70) (h4 : c.Map.Wall.length ≤ 65536) : (flat c).length ≤ 1400000 := by
  have e1 := zds c.Abilities hf.eff
  have e2 := zfz (zae c.Abilities) c.Auras
  have e3 := zhL (zbh (zae c.Abilities) c.Auras) c.Foes hf.sc
  have e4 := zg7 ((zbP (zbh (zae c.Abilities) c.Auras) c.Foes) ++ [c.Map.W, c.Map.H]) c.Map.Wall
  simp only [List.length_append, List.length_cons, List.length_nil] at e4
  unfold flat
  simp only [List.length_append, List.length_cons, List.length_nil]
  omega
theorem zbD {c : zu} (h : few9 c = true) : Fits c ∧ (flat c).length ≤ 1400000 := by
  have hF : c.Abilities.length ≤ 70 ∧ c.Auras.length ≤ 70 ∧ c.Foes.length ≤ 70 ∧ c.Map.Wall.length ≤ 1024 ∧ (∀ x ∈ c.Abilities, x.Effects.length ≤ 100) ∧ ∀ x ∈ c.Foes, x.Script.length ≤ 100 ∧ x.Hoard.length ≤ 100 := by
    unfold few9 at h
    split at h
    · rename_i b hb; have := zg8 _ _ _ _ hb; simp [this] at h
    · rename_i hb
      split at h
      · rename_i b hb; have := zhx _ _ _ _ hb; simp [this] at h
      · rename_i hc
        split at h
        case isFalse => cases h
        split at h
        case isFalse => cases h
        split at h
        case isFalse => cases h
        have h9 := of_decide_eq_true h
        have b0 := ziZ _ _ _ hb
        have b1 := zjj _ _ _ hc
        refine ⟨by omega, by omega, by omega, by omega, fun a ha => ?_, fun f hf => ?_⟩
        · obtain ⟨i, hi, rfl⟩ := List.mem_iff_getElem.1 ha
          have := b0 i (by omega)
          rwa [Nat.zero_add, List.getD_eq_getElem?_getD, List.getElem?_eq_getElem hi, Option.getD_some] at this
        · obtain ⟨i, hi, rfl⟩ := List.mem_iff_getElem.1 hf
          have := b1 i (by omega)
          rwa [Nat.zero_add, List.getD_eq_getElem?_getD, List.getElem?_eq_getElem hi, Option.getD_some] at this
  obtain ⟨h1, h2, h3, h4, h5, h6⟩ := hF
  have hf : Fits c := ⟨by omega, fun x hx => Nat.le_trans (h5 x hx) (by decide), by omega, by omega, fun x hx => ⟨Nat.le_trans (h6 x hx).1 (by decide), Nat.le_trans (h6 x hx).2 (by decide)⟩, by omega⟩
  exact ⟨hf, ziw hf (by omega) (by omega) (by omega) (by omega)⟩



theorem zkd {c : zu} (h : za5 c = true) : c.Abilities.length ≤ 64 ∧ c.Auras.length ≤ 64 ∧ c.Foes.length ≤ 64 ∧ c.Map.Wall.length ≤ 65536 ∧ (∀ x ∈ c.Abilities, x.Effects.length ≤ 16) ∧ ∀ x ∈ c.Foes, x.Script.length ≤ 16 ∧ x.Hoard.length ≤ 16 := by
  have r := (znP c).1 h
  have h1 := r.ab.len (by omega)
  have h2 := r.au.len (by omega)
  have h3 := r.fo.len (by omega)
  refine ⟨by omega, by omega, by omega, ?_, fun x hx => ?_, fun x hx => ?_⟩
  · have hd := r.door
    unfold zby at hd
    split at hd
    case isFalse => cases hd
    rename_i h4
    unfold zeo at h4
    split at h4
    case isFalse => cases h4
    rename_i h5
    unfold zbB at h5
    split at h5
    case isFalse => cases h5
    rename_i h6
    split at h5
    case isFalse => cases h5
    rename_i h7
    have side : ∀ n : Int, zes n = true → 1 ≤ n ∧ n ≤ 256 := by
      intro n hn
      unfold zes at hn
      split at hn
      · exact ⟨by omega, of_decide_eq_true hn⟩
      · cases hn
    have w := side _ h6
    have v := side _ h7
    have e := zcF h5
    have m : c.Map.W * c.Map.H ≤ 256 * 256 := Int.mul_le_mul w.2 v.2 (by omega) (by omega)
    have m0 : 0 ≤ c.Map.W * c.Map.H := Int.mul_nonneg (by omega) (by omega)
    rw [zb1 (by omega) (by omega)] at e
    omega
  · have h4 := (r.ab.mem x hx).2
    unfold okA zcy at h4
    split at h4
    case isFalse => cases h4
    split at h4
    case isFalse => cases h4
    split at h4
    case isFalse => cases h4
    rename_i h5
    rw [zmp] at h5
    omega
  · have h4 := (r.fo.mem x hx).2
    unfold okF foe9 at h4
    dsimp only at h4
    split at h4
    · cases h4
    split at h4
    · cases h4
    rename_i h5
    unfold zb4 at h5
    split at h5
    · split at h5
      · rename_i h6; simp [h6] at h5
      · split at h5
        · rename_i h6; simp [h6] at h5
        · omega
    · rename_i h6; simp [h6] at h5
theorem zbn {c : zu} (h : za5 c = true) : Fits c ∧ (flat c).length ≤ 1400000 := by
  obtain ⟨h1, h2, h3, h4, h5, h6⟩ := zkd h
  have hf : Fits c := ⟨by omega, fun x hx => Nat.le_trans (h5 x hx) (by decide), by omega, by omega, fun x hx => ⟨Nat.le_trans (h6 x hx).1 (by decide), Nat.le_trans (h6 x hx).2 (by decide)⟩, by omega⟩
  exact ⟨hf, ziw hf (by omega) (by omega) (by omega) (by omega)⟩


attribute [local irreducible] zbN za6 za5
theorem zb8 {b : List UInt8} (h : (dec b).2 = 0) : za5 (dec b).1 = true := by
  unfold dec at h ⊢
  split at h
  case isFalse => cases h
  rename_i h1
  rw [if_pos h1]
  split at h
  case isFalse => cases h
  rename_i h2
  rw [if_pos h2]
  split at h
  case isFalse => cases h
  rename_i h3
  rw [if_pos h3]
  split at h
  case isFalse => cases h
  rename_i h4
  rw [if_pos h4]
  split at h
  case isFalse => cases h
  rename_i h5
  rw [if_pos h5]
  exact h5


attribute [local irreducible] flat enc dec zay few9 zcU
def zcG (c : zu) (d : zu) : Bool :=
  if few9 c = true then (few9 d) else false
def zbg (c : zu) : Sum Bool Unit :=
  if ((enc c).2 : Int) = 0 then (if ((dec ((enc c).1)).2 : Int) = 0 then (if zcU ((dec ((enc c).1)).1) c = true then .inr () else .inl false) else .inl false) else .inr ()
def zbf (c : zu) (d : zu) : Sum Bool Unit :=
  if ((enc c).2 : Int) = 0 then (if ((enc d).2 : Int) = 0 then (if (((enc c).1) == ((enc d).1)) = (zcU c d) then .inr () else .inl false) else .inr ()) else .inr ()
def zbm (b : List UInt8) : Bool :=
  if zay = true then (if zcU ((dec b).1) (⟨[], [], [], (⟨0, 0, []⟩ : zax), (⟨0, 0⟩ : GPos), (⟨0, 0⟩ : GPos)⟩ : zu) = true then (if ((dec b).2 : Int) = 1 then true else (((dec b).2 : Int) == 2)) else false) else false
def zbW (c : zu) (d : zu) (b : List UInt8) : Bool :=
  (let ok_20 := zcG c d; if ok_20 = true then (if (b.length : Int) > 4096 then (zay) else if (((enc c).2 : Int) == 0) = (za5 c) then (match zbg c with
    | .inl r_ => r_
    | .inr () => (match zbf c d with
    | .inl r_ => r_
    | .inr () => if ((dec b).2 : Int) = 0 then (if zay = true then (if za5 ((dec b).1) = true then (if ((enc ((dec b).1)).2 : Int) = 0 then (((enc ((dec b).1)).1) == b) else false) else false) else false) else (let t6_88 := zbm b; t6_88))) else false) else (zay))
theorem zow (c : zu) (d : zu) (b : List UInt8) (b_f : Bool) : Ok Tryz.prog 6 [z1 c, z1 d, .pv (.slc b.length b_f (encY b))] [] (B (zbW c d b)) [] [] := by
 refine Ok.len fun hlen => ?_
 have hl_c_Abilities : c.Abilities.length ≤ maxLen := hlen _ (by simp [zT, lens, zU])
 have hl_c_Auras : c.Auras.length ≤ maxLen := hlen _ (by simp [zT, lens, zU])
 have hl_c_Foes : c.Foes.length ≤ maxLen := hlen _ (by simp [zT, lens, zU])
 have hl_c_Map_Wall : c.Map.Wall.length ≤ maxLen := hlen _ (by simp [zT, lens, zU])
 have hl_d_Abilities : d.Abilities.length ≤ maxLen := hlen _ (by simp [zT, lens, zU])
 have hl_d_Auras : d.Auras.length ≤ maxLen := hlen _ (by simp [zT, lens, zU])
 have hl_d_Foes : d.Foes.length ≤ maxLen := hlen _ (by simp [zT, lens, zU])
 have hl_d_Map_Wall : d.Map.Wall.length ≤ maxLen := hlen _ (by simp [zT, lens, zU])
 have hl_b : b.length ≤ maxLen := hlen _ (by simp [zT, lens, zU])
 unfold maxLen at hl_c_Abilities hl_c_Auras hl_c_Foes hl_c_Map_Wall hl_d_Abilities hl_d_Auras hl_d_Foes hl_d_Map_Wall hl_b
 refine zz Tryz.func6 rfl ?_
 show zO Tryz.prog _ _ ⟨[(0, z1 c), (1, z1 d), (2, .pv (.slc b.length b_f (encY b)))], [], 0, [], 123, 0⟩
 refine zd (zb rfl (zB (o := .box [_, _, _, _, _, _, _, _, _, _]) (nx' := 1) rfl rfl rfl trivial (zB (o := .box [_, _, _, _, _, _, _, _, _, _]) (nx' := 2) rfl rfl rfl trivial (za rfl rfl trivial (zc (ze (zd (zb rfl (zF rfl rfl rfl rfl (zmm ) rfl rfl rfl (za rfl rfl trivial (zc ?_)))))))))))
 refine ze (zd ?_)
 refine z6 (fun ok_20 : Bool => (⟨[(2, .pv (.slc b.length b_f (encY b))), (3, .ptr 0 0), (4, .ptr 1 0), (7, B (zay)), (8, B ok_20)], [(0, .box [.pv (.slc c.Abilities.length false (c.Abilities.flatMap zj)), .pv (.slc c.Auras.length false (c.Auras.flatMap zq)), .pv (.slc c.Foes.length false (c.Foes.flatMap zw)), I c.Map.W, I c.Map.H, .pv (.slc c.Map.Wall.length false (encB c.Map.Wall)), I c.Door.X, I c.Door.Y, I c.Lair.X, I c.Lair.Y]), (1, .box [.pv (.slc d.Abilities.length false (d.Abilities.flatMap zj)), .pv (.slc d.Auras.length false (d.Auras.flatMap zq)), .pv (.slc d.Foes.length false (d.Foes.flatMap zw)), I d.Map.W, I d.Map.H, .pv (.slc d.Map.Wall.length false (encB d.Map.Wall)), I d.Door.X, I d.Door.Y, I d.Lair.X, I d.Lair.Y])], 2, [], 123, 0⟩ : St)) (fun ok_20 : Bool => zcG c d = ok_20 ∧ (ok_20 = true → few9 c = true ∧ few9 d = true)) ?_ ?_
 ·refine zb rfl (za (v := (.agg [_, _, _, _, _, _, _, _, _, _])) rfl rfl (Nat.le_of_ble_eq_true rfl) (zF rfl rfl rfl rfl (znA c) rfl rfl rfl (za rfl rfl trivial ?_)))
  refine zK rfl (fun h4 => ?_) (fun h4 => ?_)
  ·have g4 : few9 c = true := h4
   refine zg rfl h4 (za (v := (.agg [_, _, _, _, _, _, _, _, _, _])) rfl rfl (Nat.le_of_ble_eq_true rfl) (zg rfl h4 (zF rfl rfl rfl rfl (znA d) rfl rfl rfl (zr rfl h4 rfl rfl (za rfl rfl trivial (zc ?_))))))
   have e6 : zcG c d = (few9 d) := by
    unfold zcG
    try dsimp only
    rewrite [if_pos g4]
    all_goals rfl
   exact zZ (few9 d) ⟨e6, by first | assumption | omega | (simp; omega) | simp_all | grind⟩ (zH.ren [] (by decide +kernel) (by decide +kernel) rfl ⟨⟨rfl, rfl⟩, ⟨rfl, rfl⟩, ⟨rfl, rfl⟩, ⟨rfl, rfl⟩, ⟨rfl, rfl⟩, trivial⟩ ⟨⟨rfl, rfl, rfl⟩, ⟨rfl, rfl, rfl⟩, trivial⟩ (by decide))
  ·have g4 : ¬ (few9 c = true) := zaw h4
   refine zh rfl h4 rfl (zh rfl h4 rfl (zt rfl h4 rfl rfl (za rfl rfl trivial (zc ?_))))
   have e7 : zcG c d = false := by
    unfold zcG
    try dsimp only
    rewrite [if_neg g4]
    all_goals rfl
   exact zZ false ⟨e7, by first | assumption | omega | (simp; omega) | simp_all | grind⟩ (zH.ren [] (by decide +kernel) (by decide +kernel) rfl ⟨⟨rfl, rfl⟩, ⟨rfl, rfl⟩, ⟨rfl, rfl⟩, ⟨rfl, rfl⟩, ⟨rfl, rfl⟩, trivial⟩ ⟨⟨rfl, rfl, rfl⟩, ⟨rfl, rfl, rfl⟩, trivial⟩ (by decide))
 ·rintro ok_20 ⟨(hJ2 : zcG c d = ok_20), hK20⟩
  show seqK _ _ _ .normal (⟨[(2, .pv (.slc b.length b_f (encY b))), (3, .ptr 0 0), (4, .ptr 1 0), (7, B (zay)), (8, B ok_20)], [(0, .box [.pv (.slc c.Abilities.length false (c.Abilities.flatMap zj)), .pv (.slc c.Auras.length false (c.Auras.flatMap zq)), .pv (.slc c.Foes.length false (c.Foes.flatMap zw)), I c.Map.W, I c.Map.H, .pv (.slc c.Map.Wall.length false (encB c.Map.Wall)), I c.Door.X, I c.Door.Y, I c.Lair.X, I c.Lair.Y]), (1, .box [.pv (.slc d.Abilities.length false (d.Abilities.flatMap zj)), .pv (.slc d.Auras.length false (d.Auras.flatMap zq)), .pv (.slc d.Foes.length false (d.Foes.flatMap zw)), I d.Map.W, I d.Map.H, .pv (.slc d.Map.Wall.length false (encB d.Map.Wall)), I d.Door.X, I d.Door.Y, I d.Lair.X, I d.Lair.Y])], 2, [], 123, 0⟩ : St)
  refine ze (zd (zd (zb rfl (za rfl rfl trivial (za rfl rfl trivial (za rfl rfl trivial ?_))))))
  refine zK rfl (fun h10 => ?_) (fun h10 => ?_)
  ·have g10 : ¬ (ok_20 = true) := zaw (zcl h10)
   refine zh rfl h10 rfl (zh rfl h10 rfl (zh rfl h10 rfl (zr rfl h10 rfl rfl (zc (ze (zP rfl (zd (zb rfl (za rfl rfl trivial (za rfl rfl trivial (zc ?_)))))))))))
   refine ze (zo (zI ?_))
   have e12 : zbW c d b = (zay) := by
    unfold zbW
    try dsimp only
    rewrite [hJ2]
    try dsimp only
    rewrite [if_neg g10]
    all_goals rfl
   rw [e12]
   exact zp rfl ⟨trivial, trivial⟩ (rfl) rfl
  ·have g10 : ok_20 = true := (zcm h10)
   refine zg rfl h10 (za rfl rfl trivial (zg rfl h10 (za rfl rfl trivial (zg rfl h10 (zl rfl rfl rfl rfl rfl trivial (zt rfl h10 rfl rfl (zc (ze ?_))))))))
   refine zy rfl (fun h14 => ?_) (fun h14 => ?_)
   ·have g14 : (b.length : Int) > 4096 := of_decide_eq_true h14
    refine zd (zb rfl (za rfl rfl trivial (za rfl rfl trivial (zc (ze (zo (zI ?_)))))))
    have e16 : zbW c d b = (zay) := by
     unfold zbW
     try dsimp only
     rewrite [hJ2]
     try dsimp only
     rewrite [if_pos g10, if_pos g14]
     all_goals rfl
    rw [e16]
    exact zp rfl ⟨trivial, trivial⟩ (rfl) rfl
   ·have g14 : ¬ ((b.length : Int) > 4096) := of_decide_eq_false h14
    refine zA (ze (zd ?_))
    refine zaY rfl (zcn 2 (j := 0) ?_)
    simp only [List.take_succ_cons, List.take_zero, List.drop_succ_cons, List.drop_zero]
    refine za (v := (.agg [_, _, _, _, _, _, _, _, _, _])) rfl rfl (Nat.le_of_ble_eq_true rfl) ?_
    refine zcj (out' := .tup [.ref 2 _ _ _, _]) (H' := [(2, .row _ _ _), (0, _), (1, _)]) (nx' := 3) rfl rfl rfl rfl rfl rfl rfl (by (repeat' apply And.intro) <;> first | trivial | rfl | exact zi (fun _ => rfl) _ | exact zk _ | exact zn _ | exact zm _ | exact Nat.le_of_ble_eq_true rfl | assumption) (zlz c (by first | assumption | exact (zbD (hK20 (by assumption)).1).1 | exact (zbD (hK20 (by assumption)).2).1 | exact (zbn (zb8 (by assumption))).1) (by first | assumption | exact (zbD (hK20 (by assumption)).1).2 | exact (zbD (hK20 (by assumption)).2).2 | exact (zbn (zb8 (by assumption))).2)) rfl rfl rfl rfl ?_
    have p17 := zjk c (by first | assumption | exact (zbD (hK20 (by assumption)).1).2 | exact (zbD (hK20 (by assumption)).2).2 | exact (zbn (zb8 (by assumption))).2)
    refine zc ?_
    refine zbz (zH.freezeJ (T' := [(2, .pv (.slc b.length false (encY b))), (3, .ptr 0 0), (4, .ptr 1 0), (7, B (zay)), (8, B ok_20), (26, B ok_20), (27, B (!ok_20)), (28, B (!ok_20)), (29, .pv (.slc b.length false (encY b))), (30, I b.length), (31, B (decide ((b.length : Int) > 4096))), (32, B (decide ((b.length : Int) > 4096))), (35, .agg [.pv (.slc c.Abilities.length false (c.Abilities.flatMap zj)), .pv (.slc c.Auras.length false (c.Auras.flatMap zq)), .pv (.slc c.Foes.length false (c.Foes.flatMap zw)), I c.Map.W, I c.Map.H, .pv (.slc c.Map.Wall.length false (encB c.Map.Wall)), I c.Door.X, I c.Door.Y, I c.Lair.X, I c.Lair.Y]), (36, .tup [.pv (.slc (enc c).1.length false (encY (enc c).1)), I (enc c).2])]) (H' := [(0, .box [.pv (.slc c.Abilities.length false (c.Abilities.flatMap zj)), .pv (.slc c.Auras.length false (c.Auras.flatMap zq)), .pv (.slc c.Foes.length false (c.Foes.flatMap zw)), I c.Map.W, I c.Map.H, .pv (.slc c.Map.Wall.length false (encB c.Map.Wall)), I c.Door.X, I c.Door.Y, I c.Lair.X, I c.Lair.Y]), (1, .box [.pv (.slc d.Abilities.length false (d.Abilities.flatMap zj)), .pv (.slc d.Auras.length false (d.Auras.flatMap zq)), .pv (.slc d.Foes.length false (d.Foes.flatMap zw)), I d.Map.W, I d.Map.H, .pv (.slc d.Map.Wall.length false (encB d.Map.Wall)), I d.Door.X, I d.Door.Y, I d.Lair.X, I d.Lair.Y])]) [2] (by decide) ⟨⟨_, _, rfl, rfl, (by (repeat' apply And.intro) <;> first | trivial | rfl | exact zi (fun _ => rfl) _ | exact zk _ | exact zn _ | exact zm _ | exact Nat.le_of_ble_eq_true rfl | assumption)⟩, ⟨_, _, rfl, rfl, (by (repeat' apply And.intro) <;> first | trivial | rfl | exact zi (fun _ => rfl) _ | exact zk _ | exact zn _ | exact zm _ | exact Nat.le_of_ble_eq_true rfl | assumption)⟩, ⟨_, _, rfl, rfl, (by (repeat' apply And.intro) <;> first | trivial | rfl | exact zi (fun _ => rfl) _ | exact zk _ | exact zn _ | exact zm _ | exact Nat.le_of_ble_eq_true rfl | assumption)⟩, ⟨_, _, rfl, rfl, (by (repeat' apply And.intro) <;> first | trivial | rfl | exact zi (fun _ => rfl) _ | exact zk _ | exact zn _ | exact zm _ | exact Nat.le_of_ble_eq_true rfl | assumption)⟩, ⟨_, _, rfl, rfl, (by (repeat' apply And.intro) <;> first | trivial | rfl | exact zi (fun _ => rfl) _ | exact zk _ | exact zn _ | exact zm _ | exact Nat.le_of_ble_eq_true rfl | assumption)⟩, ⟨_, _, rfl, rfl, (by (repeat' apply And.intro) <;> first | trivial | rfl | exact zi (fun _ => rfl) _ | exact zk _ | exact zn _ | exact zm _ | exact Nat.le_of_ble_eq_true rfl | assumption)⟩, ⟨_, _, rfl, rfl, (by (repeat' apply And.intro) <;> first | trivial | rfl | exact zi (fun _ => rfl) _ | exact zk _ | exact zn _ | exact zm _ | exact Nat.le_of_ble_eq_true rfl | assumption)⟩, ⟨_, _, rfl, rfl, (by (repeat' apply And.intro) <;> first | trivial | rfl | exact zi (fun _ => rfl) _ | exact zk _ | exact zn _ | exact zm _ | exact Nat.le_of_ble_eq_true rfl | assumption)⟩, ⟨_, _, rfl, rfl, (by (repeat' apply And.intro) <;> first | trivial | rfl | exact zi (fun _ => rfl) _ | exact zk _ | exact zn _ | exact zm _ | exact Nat.le_of_ble_eq_true rfl | assumption)⟩, ⟨_, _, rfl, rfl, (by (repeat' apply And.intro) <;> first | trivial | rfl | exact zi (fun _ => rfl) _ | exact zk _ | exact zn _ | exact zm _ | exact Nat.le_of_ble_eq_true rfl | assumption)⟩, ⟨_, _, rfl, rfl, (by (repeat' apply And.intro) <;> first | trivial | rfl | exact zi (fun _ => rfl) _ | exact zk _ | exact zn _ | exact zm _ | exact Nat.le_of_ble_eq_true rfl | assumption)⟩, ⟨_, _, rfl, rfl, (by (repeat' apply And.intro) <;> first | trivial | rfl | exact zi (fun _ => rfl) _ | exact zk _ | exact zn _ | exact zm _ | exact Nat.le_of_ble_eq_true rfl | assumption)⟩, ⟨_, _, rfl, rfl, (by (repeat' apply And.intro) <;> first | trivial | rfl | exact zi (fun _ => rfl) _ | exact zk _ | exact zn _ | exact zm _ | exact Nat.le_of_ble_eq_true rfl | assumption)⟩, ⟨_, _, rfl, rfl, (by (repeat' apply And.intro) <;> first | trivial | rfl | exact zi (fun _ => rfl) _ | exact zk _ | exact zn _ | exact zm _ | exact Nat.le_of_ble_eq_true rfl | assumption)⟩, trivial⟩ ⟨⟨rfl, _, _, rfl, rfl, (by (repeat' apply And.intro) <;> first | trivial | rfl | exact zi (fun _ => rfl) _ | exact zk _ | exact zn _ | exact zm _ | exact Nat.le_of_ble_eq_true rfl | assumption)⟩, ⟨rfl, _, _, rfl, rfl, (by (repeat' apply And.intro) <;> first | trivial | rfl | exact zi (fun _ => rfl) _ | exact zk _ | exact zn _ | exact zm _ | exact Nat.le_of_ble_eq_true rfl | assumption)⟩, trivial⟩) ?_
    refine zc3 (j := 2) ?_
    refine za rfl rfl trivial (za rfl rfl trivial (za rfl rfl trivial (za rfl rfl trivial (za rfl rfl trivial (zc (ze (zd ?_)))))))
    refine zaY rfl (zcn 2 (j := 0) ?_)
    simp only [List.take_succ_cons, List.take_zero, List.drop_succ_cons, List.drop_zero]
    refine za (v := (.agg [_, _, _, _, _, _, _, _, _, _])) rfl rfl (Nat.le_of_ble_eq_true rfl) ?_
    refine zcj (out' := .tup [.ref 3 _ _ _, _]) (H' := [(3, .row _ _ _), (0, _), (1, _)]) (nx' := 4) rfl rfl rfl rfl rfl rfl rfl (by (repeat' apply And.intro) <;> first | trivial | rfl | exact zi (fun _ => rfl) _ | exact zk _ | exact zn _ | exact zm _ | exact Nat.le_of_ble_eq_true rfl | assumption) (zlz d (by first | assumption | exact (zbD (hK20 (by assumption)).1).1 | exact (zbD (hK20 (by assumption)).2).1 | exact (zbn (zb8 (by assumption))).1) (by first | assumption | exact (zbD (hK20 (by assumption)).1).2 | exact (zbD (hK20 (by assumption)).2).2 | exact (zbn (zb8 (by assumption))).2)) rfl rfl rfl rfl ?_
    have p19 := zjk d (by first | assumption | exact (zbD (hK20 (by assumption)).1).2 | exact (zbD (hK20 (by assumption)).2).2 | exact (zbn (zb8 (by assumption))).2)
    refine zc ?_
    refine zbz (zH.freezeJ (T' := [(2, .pv (.slc b.length false (encY b))), (3, .ptr 0 0), (4, .ptr 1 0), (7, B (zay)), (8, B ok_20), (9, .pv (.slc (enc c).1.length false (encY (enc c).1))), (10, I (enc c).2), (26, B ok_20), (27, B (!ok_20)), (28, B (!ok_20)), (29, .pv (.slc b.length false (encY b))), (30, I b.length), (31, B (decide ((b.length : Int) > 4096))), (32, B (decide ((b.length : Int) > 4096))), (34, .tup [.pv (.slc (enc c).1.length false (encY (enc c).1)), I (enc c).2]), (35, .agg [.pv (.slc c.Abilities.length false (c.Abilities.flatMap zj)), .pv (.slc c.Auras.length false (c.Auras.flatMap zq)), .pv (.slc c.Foes.length false (c.Foes.flatMap zw)), I c.Map.W, I c.Map.H, .pv (.slc c.Map.Wall.length false (encB c.Map.Wall)), I c.Door.X, I c.Door.Y, I c.Lair.X, I c.Lair.Y]), (36, .tup [.pv (.slc (enc c).1.length false (encY (enc c).1)), I (enc c).2]), (37, .pv (.slc (enc c).1.length false (encY (enc c).1))), (38, I (enc c).2), (40, .agg [.pv (.slc d.Abilities.length false (d.Abilities.flatMap zj)), .pv (.slc d.Auras.length false (d.Auras.flatMap zq)), .pv (.slc d.Foes.length false (d.Foes.flatMap zw)), I d.Map.W, I d.Map.H, .pv (.slc d.Map.Wall.length false (encB d.Map.Wall)), I d.Door.X, I d.Door.Y, I d.Lair.X, I d.Lair.Y]), (41, .tup [.pv (.slc (enc d).1.length false (encY (enc d).1)), I (enc d).2])]) (H' := [(0, .box [.pv (.slc c.Abilities.length false (c.Abilities.flatMap zj)), .pv (.slc c.Auras.length false (c.Auras.flatMap zq)), .pv (.slc c.Foes.length false (c.Foes.flatMap zw)), I c.Map.W, I c.Map.H, .pv (.slc c.Map.Wall.length false (encB c.Map.Wall)), I c.Door.X, I c.Door.Y, I c.Lair.X, I c.Lair.Y]), (1, .box [.pv (.slc d.Abilities.length false (d.Abilities.flatMap zj)), .pv (.slc d.Auras.length false (d.Auras.flatMap zq)), .pv (.slc d.Foes.length false (d.Foes.flatMap zw)), I d.Map.W, I d.Map.H, .pv (.slc d.Map.Wall.length false (encB d.Map.Wall)), I d.Door.X, I d.Door.Y, I d.Lair.X, I d.Lair.Y])]) [3] (by decide) ⟨⟨_, _, rfl, rfl, (by (repeat' apply And.intro) <;> first | trivial | rfl | exact zi (fun _ => rfl) _ | exact zk _ | exact zn _ | exact zm _ | exact Nat.le_of_ble_eq_true rfl | assumption)⟩, ⟨_, _, rfl, rfl, (by (repeat' apply And.intro) <;> first | trivial | rfl | exact zi (fun _ => rfl) _ | exact zk _ | exact zn _ | exact zm _ | exact Nat.le_of_ble_eq_true rfl | assumption)⟩, ⟨_, _, rfl, rfl, (by (repeat' apply And.intro) <;> first | trivial | rfl | exact zi (fun _ => rfl) _ | exact zk _ | exact zn _ | exact zm _ | exact Nat.le_of_ble_eq_true rfl | assumption)⟩, ⟨_, _, rfl, rfl, (by (repeat' apply And.intro) <;> first | trivial | rfl | exact zi (fun _ => rfl) _ | exact zk _ | exact zn _ | exact zm _ | exact Nat.le_of_ble_eq_true rfl | assumption)⟩, ⟨_, _, rfl, rfl, (by (repeat' apply And.intro) <;> first | trivial | rfl | exact zi (fun _ => rfl) _ | exact zk _ | exact zn _ | exact zm _ | exact Nat.le_of_ble_eq_true rfl | assumption)⟩, ⟨_, _, rfl, rfl, (by (repeat' apply And.intro) <;> first | trivial | rfl | exact zi (fun _ => rfl) _ | exact zk _ | exact zn _ | exact zm _ | exact Nat.le_of_ble_eq_true rfl | assumption)⟩, ⟨_, _, rfl, rfl, (by (repeat' apply And.intro) <;> first | trivial | rfl | exact zi (fun _ => rfl) _ | exact zk _ | exact zn _ | exact zm _ | exact Nat.le_of_ble_eq_true rfl | assumption)⟩, ⟨_, _, rfl, rfl, (by (repeat' apply And.intro) <;> first | trivial | rfl | exact zi (fun _ => rfl) _ | exact zk _ | exact zn _ | exact zm _ | exact Nat.le_of_ble_eq_true rfl | assumption)⟩, ⟨_, _, rfl, rfl, (by (repeat' apply And.intro) <;> first | trivial | rfl | exact zi (fun _ => rfl) _ | exact zk _ | exact zn _ | exact zm _ | exact Nat.le_of_ble_eq_true rfl | assumption)⟩, ⟨_, _, rfl, rfl, (by (repeat' apply And.intro) <;> first | trivial | rfl | exact zi (fun _ => rfl) _ | exact zk _ | exact zn _ | exact zm _ | exact Nat.le_of_ble_eq_true rfl | assumption)⟩, ⟨_, _, rfl, rfl, (by (repeat' apply And.intro) <;> first | trivial | rfl | exact zi (fun _ => rfl) _ | exact zk _ | exact zn _ | exact zm _ | exact Nat.le_of_ble_eq_true rfl | assumption)⟩, ⟨_, _, rfl, rfl, (by (repeat' apply And.intro) <;> first | trivial | rfl | exact zi (fun _ => rfl) _ | exact zk _ | exact zn _ | exact zm _ | exact Nat.le_of_ble_eq_true rfl | assumption)⟩, ⟨_, _, rfl, rfl, (by (repeat' apply And.intro) <;> first | trivial | rfl | exact zi (fun _ => rfl) _ | exact zk _ | exact zn _ | exact zm _ | exact Nat.le_of_ble_eq_true rfl | assumption)⟩, ⟨_, _, rfl, rfl, (by (repeat' apply And.intro) <;> first | trivial | rfl | exact zi (fun _ => rfl) _ | exact zk _ | exact zn _ | exact zm _ | exact Nat.le_of_ble_eq_true rfl | assumption)⟩, ⟨_, _, rfl, rfl, (by (repeat' apply And.intro) <;> first | trivial | rfl | exact zi (fun _ => rfl) _ | exact zk _ | exact zn _ | exact zm _ | exact Nat.le_of_ble_eq_true rfl | assumption)⟩, ⟨_, _, rfl, rfl, (by (repeat' apply And.intro) <;> first | trivial | rfl | exact zi (fun _ => rfl) _ | exact zk _ | exact zn _ | exact zm _ | exact Nat.le_of_ble_eq_true rfl | assumption)⟩, ⟨_, _, rfl, rfl, (by (repeat' apply And.intro) <;> first | trivial | rfl | exact zi (fun _ => rfl) _ | exact zk _ | exact zn _ | exact zm _ | exact Nat.le_of_ble_eq_true rfl | assumption)⟩, ⟨_, _, rfl, rfl, (by (repeat' apply And.intro) <;> first | trivial | rfl | exact zi (fun _ => rfl) _ | exact zk _ | exact zn _ | exact zm _ | exact Nat.le_of_ble_eq_true rfl | assumption)⟩, ⟨_, _, rfl, rfl, (by (repeat' apply And.intro) <;> first | trivial | rfl | exact zi (fun _ => rfl) _ | exact zk _ | exact zn _ | exact zm _ | exact Nat.le_of_ble_eq_true rfl | assumption)⟩, ⟨_, _, rfl, rfl, (by (repeat' apply And.intro) <;> first | trivial | rfl | exact zi (fun _ => rfl) _ | exact zk _ | exact zn _ | exact zm _ | exact Nat.le_of_ble_eq_true rfl | assumption)⟩, ⟨_, _, rfl, rfl, (by (repeat' apply And.intro) <;> first | trivial | rfl | exact zi (fun _ => rfl) _ | exact zk _ | exact zn _ | exact zm _ | exact Nat.le_of_ble_eq_true rfl | assumption)⟩, trivial⟩ ⟨⟨rfl, _, _, rfl, rfl, (by (repeat' apply And.intro) <;> first | trivial | rfl | exact zi (fun _ => rfl) _ | exact zk _ | exact zn _ | exact zm _ | exact Nat.le_of_ble_eq_true rfl | assumption)⟩, ⟨rfl, _, _, rfl, rfl, (by (repeat' apply And.intro) <;> first | trivial | rfl | exact zi (fun _ => rfl) _ | exact zk _ | exact zn _ | exact zm _ | exact Nat.le_of_ble_eq_true rfl | assumption)⟩, trivial⟩) ?_
    refine zc3 (j := 2) ?_
    refine za rfl rfl trivial (za rfl rfl trivial (za rfl rfl trivial (za rfl rfl trivial (za rfl rfl trivial (zc (ze (zd (zd (zb rfl (za rfl rfl trivial (zl rfl rfl rfl rfl rfl trivial ?_)))))))))))
    refine za (v := (.agg [_, _, _, _, _, _, _, _, _, _])) rfl rfl (Nat.le_of_ble_eq_true rfl) (zF rfl rfl rfl rfl (zfZ c (by first | assumption | exact zqi (hK20 (by assumption)).1 | exact zi0 (zbn (zb8 (by assumption))).1)) rfl rfl rfl (zl rfl rfl rfl rfl rfl trivial (zc (ze ?_))))
    refine zy rfl (fun h21 => ?_) (fun h21 => ?_)
    ·have g21 : ¬ ((((enc c).2 : Int) == 0) = (za5 c)) := zcL (zcl h21)
     refine zd (zb rfl (za rfl rfl trivial (zc (ze (zo (zI ?_))))))
     have e22 : zbW c d b = false := by
      unfold zbW
      try dsimp only
      rewrite [hJ2]
      try dsimp only
      rewrite [if_pos g10, if_neg g14, if_neg g21]
      all_goals rfl
     rw [e22]
     exact zp rfl ⟨trivial, trivial⟩ (rfl) rfl
    ·have g21 : (((enc c).2 : Int) == 0) = (za5 c) := zcF (zcm h21)
     refine zA (ze (zd ?_))
     refine z6 (fun w_ : Unit => match w_ with | () => (⟨[(2, .pv (.slc b.length false (encY b))), (3, .ptr 0 0), (4, .ptr 1 0), (7, B (zay)), (9, .pv (.slc (enc c).1.length false (encY (enc c).1))), (10, I (enc c).2), (11, .pv (.slc (enc d).1.length false (encY (enc d).1))), (12, I (enc d).2)], [(0, .box [.pv (.slc c.Abilities.length false (c.Abilities.flatMap zj)), .pv (.slc c.Auras.length false (c.Auras.flatMap zq)), .pv (.slc c.Foes.length false (c.Foes.flatMap zw)), I c.Map.W, I c.Map.H, .pv (.slc c.Map.Wall.length false (encB c.Map.Wall)), I c.Door.X, I c.Door.Y, I c.Lair.X, I c.Lair.Y]), (1, .box [.pv (.slc d.Abilities.length false (d.Abilities.flatMap zj)), .pv (.slc d.Auras.length false (d.Auras.flatMap zq)), .pv (.slc d.Foes.length false (d.Foes.flatMap zw)), I d.Map.W, I d.Map.H, .pv (.slc d.Map.Wall.length false (encB d.Map.Wall)), I d.Door.X, I d.Door.Y, I d.Lair.X, I d.Lair.Y])], 2, [], 123, 0⟩ : St)) (fun w_ => zbg c = .inr w_) ?_ ?_
     ·refine zd (zb rfl (za rfl rfl trivial (zl rfl rfl rfl rfl rfl trivial (zc (ze ?_)))))
      refine zy rfl (fun h24 => ?_) (fun h24 => ?_)
      ·have g24 : ((enc c).2 : Int) = 0 := zcF h24
       refine zd (zb rfl (za rfl rfl trivial (zF rfl rfl rfl rfl (zle ((enc c).1) false (by first | assumption | omega | (simp only [List.length_append, List.length_cons, List.length_nil, List.length_take]; omega))) rfl rfl rfl (za rfl rfl trivial (za rfl rfl trivial (za rfl rfl trivial (zB (o := .box [_, _, _, _, _, _, _, _, _, _]) (nx' := 5) rfl rfl rfl trivial ?_)))))))
       refine zx (H' := [(4, .box [_, _, _, _, _, _, _, _, _, _]), (0, _), (1, _)]) rfl rfl rfl rfl rfl rfl (.inl rfl) rfl ?_
       refine za rfl rfl trivial (zc (ze (zd (zb rfl (za rfl rfl trivial (zl rfl rfl rfl rfl rfl trivial (za rfl rfl trivial ?_)))))))
       refine zK rfl (fun h27 => ?_) (fun h27 => ?_)
       ·have g27 : ¬ (((dec ((enc c).1)).2 : Int) = 0) := zcs h27
        refine zh rfl h27 rfl (zh rfl h27 rfl (zh rfl h27 rfl (zh rfl h27 rfl (zr rfl h27 rfl rfl (zc (ze (zP rfl (zd (zb rfl (za rfl rfl trivial (zc ?_)))))))))))
        refine ze (zo (zcJ (zI ?_)))
        have e28 : zbg c = .inl false := by
         unfold zbg
         try dsimp only
         rewrite [if_pos g24, if_neg g27]
         all_goals rfl
        have e29 : zbW c d b = false := by
         unfold zbW
         try dsimp only
         rewrite [hJ2]
         try dsimp only
         rewrite [if_pos g10, if_neg g14, if_pos g21, e28]
         try dsimp only
         all_goals rfl
        rw [e29]
        exact zp rfl ⟨trivial, trivial⟩ (rfl) rfl
       ·have g27 : ((dec ((enc c).1)).2 : Int) = 0 := zcu h27
        refine zg rfl h27 (za (v := (.agg [_, _, _, _, _, _, _, _, _, _])) rfl rfl (Nat.le_of_ble_eq_true rfl) (zg rfl h27 (za (v := (.agg [_, _, _, _, _, _, _, _, _, _])) rfl rfl (Nat.le_of_ble_eq_true rfl) (zg rfl h27 (zF rfl rfl rfl rfl (zi9 ((dec ((enc c).1)).1) c) rfl rfl rfl (zg rfl h27 (za rfl rfl trivial (zt rfl h27 rfl rfl (zc (ze ?_))))))))))
        refine zy rfl (fun h31 => ?_) (fun h31 => ?_)
        ·have g31 : ¬ (zcU ((dec ((enc c).1)).1) c = true) := zaw (zcl h31)
         refine zd (zb rfl (za rfl rfl trivial (zc (ze (zo (zcJ (zI ?_)))))))
         have e32 : zbg c = .inl false := by
          unfold zbg
          try dsimp only
          rewrite [if_pos g24, if_pos g27, if_neg g31]
          all_goals rfl
         have e33 : zbW c d b = false := by
          unfold zbW
          try dsimp only
          rewrite [hJ2]
          try dsimp only
          rewrite [if_pos g10, if_neg g14, if_pos g21, e32]
          try dsimp only
          all_goals rfl
         rw [e33]
         exact zp rfl ⟨trivial, trivial⟩ (rfl) rfl
        ·have g31 : zcU ((dec ((enc c).1)).1) c = true := (zcm h31)
         refine zA ?_
         have e34 : zbg c = .inr () := by
          unfold zbg
          try dsimp only
          rewrite [if_pos g24, if_pos g27, if_pos g31]
          all_goals rfl
         exact zZ () e34 (zH.ren [] (by decide +kernel) (by decide +kernel) rfl ⟨⟨rfl, rfl⟩, ⟨rfl, rfl⟩, ⟨rfl, rfl⟩, ⟨rfl, rfl⟩, ⟨rfl, rfl⟩, ⟨rfl, rfl⟩, ⟨rfl, rfl⟩, ⟨rfl, rfl⟩, trivial⟩ ⟨⟨rfl, rfl, rfl⟩, ⟨rfl, rfl, rfl⟩, trivial⟩ (by decide))
      ·have g24 : ¬ (((enc c).2 : Int) = 0) := zcL h24
       refine zA ?_
       have e35 : zbg c = .inr () := by
        unfold zbg
        try dsimp only
        rewrite [if_neg g24]
        all_goals rfl
       exact zZ () e35 (zH.ren [] (by decide +kernel) (by decide +kernel) rfl ⟨⟨rfl, rfl⟩, ⟨rfl, rfl⟩, ⟨rfl, rfl⟩, ⟨rfl, rfl⟩, ⟨rfl, rfl⟩, ⟨rfl, rfl⟩, ⟨rfl, rfl⟩, ⟨rfl, rfl⟩, trivial⟩ ⟨⟨rfl, rfl, rfl⟩, ⟨rfl, rfl, rfl⟩, trivial⟩ (by decide))
     ·rintro ⟨⟩ (hJ23 : zbg c = .inr ())
      show seqK _ _ _ .normal (⟨[(2, .pv (.slc b.length false (encY b))), (3, .ptr 0 0), (4, .ptr 1 0), (7, B (zay)), (9, .pv (.slc (enc c).1.length false (encY (enc c).1))), (10, I (enc c).2), (11, .pv (.slc (enc d).1.length false (encY (enc d).1))), (12, I (enc d).2)], [(0, .box [.pv (.slc c.Abilities.length false (c.Abilities.flatMap zj)), .pv (.slc c.Auras.length false (c.Auras.flatMap zq)), .pv (.slc c.Foes.length false (c.Foes.flatMap zw)), I c.Map.W, I c.Map.H, .pv (.slc c.Map.Wall.length false (encB c.Map.Wall)), I c.Door.X, I c.Door.Y, I c.Lair.X, I c.Lair.Y]), (1, .box [.pv (.slc d.Abilities.length false (d.Abilities.flatMap zj)), .pv (.slc d.Auras.length false (d.Auras.flatMap zq)), .pv (.slc d.Foes.length false (d.Foes.flatMap zw)), I d.Map.W, I d.Map.H, .pv (.slc d.Map.Wall.length false (encB d.Map.Wall)), I d.Door.X, I d.Door.Y, I d.Lair.X, I d.Lair.Y])], 2, [], 123, 0⟩ : St)
      refine ze (zd ?_)
      refine z6 (fun w_ : Unit => match w_ with | () => (⟨[(2, .pv (.slc b.length false (encY b))), (7, B (zay))], [], 0, [], 123, 0⟩ : St)) (fun w_ => zbf c d = .inr w_) ?_ ?_
      ·refine zd ?_
       refine zaW rfl (by decide +kernel) rfl ?_
       refine za rfl rfl trivial (zl rfl rfl rfl rfl rfl trivial (za rfl rfl trivial ?_))
       refine zK rfl (fun h39 => ?_) (fun h39 => ?_)
       ·have g39 : ((enc c).2 : Int) = 0 := zcF h39
        refine zg rfl h39 (za rfl rfl trivial (zg rfl h39 (zl rfl rfl rfl rfl rfl trivial (zr rfl h39 rfl rfl (za rfl rfl trivial ?_)))))
        refine zK rfl (fun h42 => ?_) (fun h42 => ?_)
        ·have g42 : ((enc d).2 : Int) = 0 := zcF h42
         refine zg rfl h42 (za rfl rfl trivial (zg rfl h42 ?_))
         refine zeE (l := (enc c).1) rfl rfl rfl rfl rfl ?_
         refine zg rfl h42 (za rfl rfl trivial (zg rfl h42 ?_))
         refine zeE (l := (enc d).1) rfl rfl rfl rfl rfl ?_
         refine zg rfl h42 (zl rfl rfl rfl rfl rfl trivial (zg rfl h42 (za (v := (.agg [_, _, _, _, _, _, _, _, _, _])) rfl rfl (Nat.le_of_ble_eq_true rfl) (zg rfl h42 (za (v := (.agg [_, _, _, _, _, _, _, _, _, _])) rfl rfl (Nat.le_of_ble_eq_true rfl) (zg rfl h42 (zF rfl rfl rfl rfl (zi9 c d) rfl rfl rfl (zg rfl h42 (zl rfl rfl rfl rfl rfl trivial (zr rfl h42 rfl rfl (zc ?_)))))))))))
         refine ze ?_
         refine zy rfl (fun h44 => ?_) (fun h44 => ?_)
         ·have g44 : ¬ ((((enc c).1) == ((enc d).1)) = (zcU c d)) := zcL (zcl h44)
          refine zd (zb rfl (za rfl rfl trivial (zc (ze (zo (zcJ (zI ?_)))))))
          have e45 : zbf c d = .inl false := by
           unfold zbf
           try dsimp only
           rewrite [if_pos g39, if_pos g42, if_neg g44]
           all_goals rfl
          have e46 : zbW c d b = false := by
           unfold zbW
           try dsimp only
           rewrite [hJ2]
           try dsimp only
           rewrite [if_pos g10, if_neg g14, if_pos g21, hJ23]
           try dsimp only
           rewrite [e45]
           try dsimp only
           all_goals rfl
          rw [e46]
          exact zp rfl ⟨trivial, trivial⟩ (rfl) rfl
         ·have g44 : (((enc c).1) == ((enc d).1)) = (zcU c d) := zcF (zcm h44)
          refine zA ?_
          have e47 : zbf c d = .inr () := by
           unfold zbf
           try dsimp only
           rewrite [if_pos g39, if_pos g42, if_pos g44]
           all_goals rfl
          exact zZ () e47 (zH.ren [] (by decide +kernel) (by decide +kernel) rfl ⟨⟨rfl, rfl⟩, ⟨rfl, rfl⟩, trivial⟩ trivial (by decide))
        ·have g42 : ¬ (((enc d).2 : Int) = 0) := zcL h42
         refine zh rfl h42 rfl (zh rfl h42 rfl (zh rfl h42 rfl (zh rfl h42 rfl (zh rfl h42 rfl (zh rfl h42 rfl (zh rfl h42 rfl (zh rfl h42 rfl (zh rfl h42 rfl (zt rfl h42 rfl rfl (zc (ze ?_)))))))))))
         refine zd5 rfl (zA ?_)
         have e48 : zbf c d = .inr () := by
          unfold zbf
          try dsimp only
          rewrite [if_pos g39, if_neg g42]
          all_goals rfl
         exact zZ () e48 (zH.ren [] (by decide +kernel) (by decide +kernel) rfl ⟨⟨rfl, rfl⟩, ⟨rfl, rfl⟩, trivial⟩ trivial (by decide))
       ·have g39 : ¬ (((enc c).2 : Int) = 0) := zcL h39
        refine zh rfl h39 rfl (zh rfl h39 rfl (zt rfl h39 rfl rfl (za rfl rfl trivial (zf rfl rfl (zf rfl rfl (zf rfl rfl (zf rfl rfl (zf rfl rfl (zf rfl rfl (zf rfl rfl (zf rfl rfl ?_)))))))))))
        refine zf rfl rfl (za rfl rfl trivial (zc (ze (zd5 rfl (zA ?_)))))
        have e49 : zbf c d = .inr () := by
         unfold zbf
         try dsimp only
         rewrite [if_neg g39]
         all_goals rfl
        exact zZ () e49 (zH.ren [] (by decide +kernel) (by decide +kernel) rfl ⟨⟨rfl, rfl⟩, ⟨rfl, rfl⟩, trivial⟩ trivial (by decide))
      ·rintro ⟨⟩ (hJ36 : zbf c d = .inr ())
       show seqK _ _ _ .normal (⟨[(2, .pv (.slc b.length false (encY b))), (7, B (zay))], [], 0, [], 123, 0⟩ : St)
       refine ze (zd (zb rfl (za rfl rfl trivial (zF rfl rfl rfl rfl (zle b false (by first | assumption | omega | (simp only [List.length_append, List.length_cons, List.length_nil, List.length_take]; omega))) rfl rfl rfl (za rfl rfl trivial (za rfl rfl trivial (za rfl rfl trivial (zB (o := .box [_, _, _, _, _, _, _, _, _, _]) (nx' := 1) rfl rfl rfl trivial ?_))))))))
       refine zx (H' := [(0, .box [_, _, _, _, _, _, _, _, _, _])]) rfl rfl rfl rfl rfl rfl (.inl rfl) rfl ?_
       refine za rfl rfl trivial (zc (ze (zd (zd (zb rfl (za rfl rfl trivial (zl rfl rfl rfl rfl rfl trivial (zc (ze ?_)))))))))
       refine zy rfl (fun h51 => ?_) (fun h51 => ?_)
       ·have g51 : ¬ (((dec b).2 : Int) = 0) := zcs h51
        refine zd ?_
        refine z6 (fun t6_88 : Bool => (⟨[(6, B t6_88)], [], 0, [], 123, 0⟩ : St)) (fun w_ => zbm b = w_) ?_ ?_
        ·refine zb rfl (za rfl rfl trivial (za rfl rfl trivial ?_))
         refine zK rfl (fun h54 => ?_) (fun h54 => ?_)
         ·have g54 : zay = true := h54
          refine zg rfl h54 (za (v := (.agg [_, _, _, _, _, _, _, _, _, _])) rfl rfl (Nat.le_of_ble_eq_true rfl) (zg rfl h54 (za (v := (.agg [_, _, _, _, _, _, _, _, _, _])) rfl rfl trivial (zg rfl h54 ?_))))
          refine zcj (H' := [(0, _)]) (nx' := 1) rfl rfl rfl rfl rfl rfl rfl (by (repeat' apply And.intro) <;> first | trivial | rfl | exact zi (fun _ => rfl) _ | exact zk _ | exact zn _ | exact zm _ | exact Nat.le_of_ble_eq_true rfl | assumption) (zi9 ((dec b).1) (⟨[], [], [], (⟨0, 0, []⟩ : zax), (⟨0, 0⟩ : GPos), (⟨0, 0⟩ : GPos)⟩ : zu)) rfl rfl rfl rfl ?_
          refine zr rfl h54 rfl rfl (za rfl rfl trivial ?_)
          refine zK rfl (fun h56 => ?_) (fun h56 => ?_)
          ·have g56 : zcU ((dec b).1) (⟨[], [], [], (⟨0, 0, []⟩ : zax), (⟨0, 0⟩ : GPos), (⟨0, 0⟩ : GPos)⟩ : zu) = true := h56
           refine zg rfl h56 (za rfl rfl trivial (zg rfl h56 (zl rfl rfl rfl rfl rfl trivial (zg rfl h56 (za rfl rfl trivial ?_)))))
           refine zK rfl (fun h58 => ?_) (fun h58 => ?_)
           ·have g58 : ((dec b).2 : Int) = 1 := zcF h58
            refine zh rfl h58 rfl (zh rfl h58 rfl (zg rfl h56 (zr rfl h58 rfl rfl (zr rfl h56 rfl rfl (za rfl rfl trivial (zc ?_))))))
            have e59 : zbm b = true := by
             unfold zbm
             try dsimp only
             rewrite [if_pos g54, if_pos g56, if_pos g58]
             all_goals rfl
            exact zZ true e59 (zH.ren [] (by decide +kernel) (by decide +kernel) rfl ⟨⟨rfl, rfl⟩, trivial⟩ trivial (by decide))
           ·have g58 : ¬ (((dec b).2 : Int) = 1) := zcL h58
            refine zg rfl h58 (za rfl rfl trivial (zg rfl h58 (zl rfl rfl rfl rfl rfl trivial (zg rfl h56 (zt rfl h58 rfl rfl (zr rfl h56 rfl rfl (za rfl rfl trivial (zc ?_))))))))
            have e61 : zbm b = (((dec b).2 : Int) == 2) := by
             unfold zbm
             try dsimp only
             rewrite [if_pos g54, if_pos g56, if_neg g58]
             all_goals rfl
            exact zZ (((dec b).2 : Int) == 2) e61 (zH.ren [] (by decide +kernel) (by decide +kernel) rfl ⟨⟨rfl, rfl⟩, trivial⟩ trivial (by decide))
          ·have g56 : ¬ (zcU ((dec b).1) (⟨[], [], [], (⟨0, 0, []⟩ : zax), (⟨0, 0⟩ : GPos), (⟨0, 0⟩ : GPos)⟩ : zu) = true) := zaw h56
           refine zh rfl h56 rfl (zh rfl h56 rfl (zh rfl h56 rfl (zf rfl rfl (zf rfl rfl (zh rfl h56 rfl (zt rfl h56 rfl rfl (za rfl rfl trivial (zc ?_))))))))
           have e62 : zbm b = false := by
            unfold zbm
            try dsimp only
            rewrite [if_pos g54, if_neg g56]
            all_goals rfl
           exact zZ false e62 (zH.ren [] (by decide +kernel) (by decide +kernel) rfl ⟨⟨rfl, rfl⟩, trivial⟩ trivial (by decide))
         ·have g54 : ¬ (zay = true) := zaw h54
          refine zh rfl h54 rfl (zh rfl h54 rfl (zh rfl h54 rfl (zt rfl h54 rfl rfl (za rfl rfl trivial (zf rfl rfl (zf rfl rfl (zf rfl rfl (zf rfl rfl (zf rfl rfl (zf rfl rfl (za rfl rfl trivial ?_)))))))))))
          refine za rfl rfl trivial (zc ?_)
          have e63 : zbm b = false := by
           unfold zbm
           try dsimp only
           rewrite [if_neg g54]
           all_goals rfl
          exact zZ false e63 (zH.ren [] (by decide +kernel) (by decide +kernel) rfl ⟨⟨rfl, rfl⟩, trivial⟩ trivial (by decide))
        ·rintro t6_88 (hJ52 : zbm b = t6_88)
         show seqK _ _ _ .normal (⟨[(6, B t6_88)], [], 0, [], 123, 0⟩ : St)
         refine ze (zo (zI ?_))
         have e64 : zbW c d b = t6_88 := by
          unfold zbW
          try dsimp only
          rewrite [hJ2]
          try dsimp only
          rewrite [if_pos g10, if_neg g14, if_pos g21, hJ23]
          try dsimp only
          rewrite [hJ36]
          try dsimp only
          rewrite [if_neg g51, hJ52]
          try dsimp only
          all_goals rfl
         rw [e64]
         exact zp rfl ⟨trivial, trivial⟩ (rfl) rfl
       ·have g51 : ((dec b).2 : Int) = 0 := zcu h51
        refine zA (ze (zd ?_))
        refine zaY rfl (zcn 2 (j := 0) ?_)
        simp only [List.take_succ_cons, List.take_zero, List.drop_succ_cons, List.drop_zero]
        refine za (v := (.agg [_, _, _, _, _, _, _, _, _, _])) rfl rfl (Nat.le_of_ble_eq_true rfl) ?_
        refine zcj (out' := .tup [.ref 1 _ _ _, _]) (H' := [(1, .row _ _ _), (0, _)]) (nx' := 2) rfl rfl rfl rfl rfl rfl rfl (by (repeat' apply And.intro) <;> first | trivial | rfl | exact zi (fun _ => rfl) _ | exact zk _ | exact zn _ | exact zm _ | exact Nat.le_of_ble_eq_true rfl | assumption) (zlz ((dec b).1) (by first | assumption | exact (zbD (hK20 (by assumption)).1).1 | exact (zbD (hK20 (by assumption)).2).1 | exact (zbn (zb8 (by assumption))).1) (by first | assumption | exact (zbD (hK20 (by assumption)).1).2 | exact (zbD (hK20 (by assumption)).2).2 | exact (zbn (zb8 (by assumption))).2)) rfl rfl rfl rfl ?_
        have p65 := zjk ((dec b).1) (by first | assumption | exact (zbD (hK20 (by assumption)).1).2 | exact (zbD (hK20 (by assumption)).2).2 | exact (zbn (zb8 (by assumption))).2)
        refine zc ?_
        refine zbz (zH.freezeJ (T' := [(2, .pv (.slc b.length false (encY b))), (7, B (zay)), (15, .ptr 0 0), (16, I (dec b).2), (81, .tup [.agg [.pv (.slc ((dec b).1).Abilities.length false (((dec b).1).Abilities.flatMap zj)), .pv (.slc ((dec b).1).Auras.length false (((dec b).1).Auras.flatMap zq)), .pv (.slc ((dec b).1).Foes.length false (((dec b).1).Foes.flatMap zw)), I ((dec b).1).Map.W, I ((dec b).1).Map.H, .pv (.slc ((dec b).1).Map.Wall.length false (encB ((dec b).1).Map.Wall)), I ((dec b).1).Door.X, I ((dec b).1).Door.Y, I ((dec b).1).Lair.X, I ((dec b).1).Lair.Y], I (dec b).2]), (82, .pv (.slc b.length false (encY b))), (83, .tup [.agg [.pv (.slc ((dec b).1).Abilities.length false (((dec b).1).Abilities.flatMap zj)), .pv (.slc ((dec b).1).Auras.length false (((dec b).1).Auras.flatMap zq)), .pv (.slc ((dec b).1).Foes.length false (((dec b).1).Foes.flatMap zw)), I ((dec b).1).Map.W, I ((dec b).1).Map.H, .pv (.slc ((dec b).1).Map.Wall.length false (encB ((dec b).1).Map.Wall)), I ((dec b).1).Door.X, I ((dec b).1).Door.Y, I ((dec b).1).Lair.X, I ((dec b).1).Lair.Y], I (dec b).2]), (84, .agg [.pv (.slc ((dec b).1).Abilities.length false (((dec b).1).Abilities.flatMap zj)), .pv (.slc ((dec b).1).Auras.length false (((dec b).1).Auras.flatMap zq)), .pv (.slc ((dec b).1).Foes.length false (((dec b).1).Foes.flatMap zw)), I ((dec b).1).Map.W, I ((dec b).1).Map.H, .pv (.slc ((dec b).1).Map.Wall.length false (encB ((dec b).1).Map.Wall)), I ((dec b).1).Door.X, I ((dec b).1).Door.Y, I ((dec b).1).Lair.X, I ((dec b).1).Lair.Y]), (85, I (dec b).2), (86, I (dec b).2), (87, B (((dec b).2 : Int) != 0)), (103, .agg [.pv (.slc ((dec b).1).Abilities.length false (((dec b).1).Abilities.flatMap zj)), .pv (.slc ((dec b).1).Auras.length false (((dec b).1).Auras.flatMap zq)), .pv (.slc ((dec b).1).Foes.length false (((dec b).1).Foes.flatMap zw)), I ((dec b).1).Map.W, I ((dec b).1).Map.H, .pv (.slc ((dec b).1).Map.Wall.length false (encB ((dec b).1).Map.Wall)), I ((dec b).1).Door.X, I ((dec b).1).Door.Y, I ((dec b).1).Lair.X, I ((dec b).1).Lair.Y]), (104, .tup [.pv (.slc (enc ((dec b).1)).1.length false (encY (enc ((dec b).1)).1)), I (enc ((dec b).1)).2])]) (H' := [(0, .box [.pv (.slc ((dec b).1).Abilities.length false (((dec b).1).Abilities.flatMap zj)), .pv (.slc ((dec b).1).Auras.length false (((dec b).1).Auras.flatMap zq)), .pv (.slc ((dec b).1).Foes.length false (((dec b).1).Foes.flatMap zw)), I ((dec b).1).Map.W, I ((dec b).1).Map.H, .pv (.slc ((dec b).1).Map.Wall.length false (encB ((dec b).1).Map.Wall)), I ((dec b).1).Door.X, I ((dec b).1).Door.Y, I ((dec b).1).Lair.X, I ((dec b).1).Lair.Y])]) [1] (by decide) ⟨⟨_, _, rfl, rfl, (by (repeat' apply And.intro) <;> first | trivial | rfl | exact zi (fun _ => rfl) _ | exact zk _ | exact zn _ | exact zm _ | exact Nat.le_of_ble_eq_true rfl | assumption)⟩, ⟨_, _, rfl, rfl, (by (repeat' apply And.intro) <;> first | trivial | rfl | exact zi (fun _ => rfl) _ | exact zk _ | exact zn _ | exact zm _ | exact Nat.le_of_ble_eq_true rfl | assumption)⟩, ⟨_, _, rfl, rfl, (by (repeat' apply And.intro) <;> first | trivial | rfl | exact zi (fun _ => rfl) _ | exact zk _ | exact zn _ | exact zm _ | exact Nat.le_of_ble_eq_true rfl | assumption)⟩, ⟨_, _, rfl, rfl, (by (repeat' apply And.intro) <;> first | trivial | rfl | exact zi (fun _ => rfl) _ | exact zk _ | exact zn _ | exact zm _ | exact Nat.le_of_ble_eq_true rfl | assumption)⟩, ⟨_, _, rfl, rfl, (by (repeat' apply And.intro) <;> first | trivial | rfl | exact zi (fun _ => rfl) _ | exact zk _ | exact zn _ | exact zm _ | exact Nat.le_of_ble_eq_true rfl | assumption)⟩, ⟨_, _, rfl, rfl, (by (repeat' apply And.intro) <;> first | trivial | rfl | exact zi (fun _ => rfl) _ | exact zk _ | exact zn _ | exact zm _ | exact Nat.le_of_ble_eq_true rfl | assumption)⟩, ⟨_, _, rfl, rfl, (by (repeat' apply And.intro) <;> first | trivial | rfl | exact zi (fun _ => rfl) _ | exact zk _ | exact zn _ | exact zm _ | exact Nat.le_of_ble_eq_true rfl | assumption)⟩, ⟨_, _, rfl, rfl, (by (repeat' apply And.intro) <;> first | trivial | rfl | exact zi (fun _ => rfl) _ | exact zk _ | exact zn _ | exact zm _ | exact Nat.le_of_ble_eq_true rfl | assumption)⟩, ⟨_, _, rfl, rfl, (by (repeat' apply And.intro) <;> first | trivial | rfl | exact zi (fun _ => rfl) _ | exact zk _ | exact zn _ | exact zm _ | exact Nat.le_of_ble_eq_true rfl | assumption)⟩, ⟨_, _, rfl, rfl, (by (repeat' apply And.intro) <;> first | trivial | rfl | exact zi (fun _ => rfl) _ | exact zk _ | exact zn _ | exact zm _ | exact Nat.le_of_ble_eq_true rfl | assumption)⟩, ⟨_, _, rfl, rfl, (by (repeat' apply And.intro) <;> first | trivial | rfl | exact zi (fun _ => rfl) _ | exact zk _ | exact zn _ | exact zm _ | exact Nat.le_of_ble_eq_true rfl | assumption)⟩, ⟨_, _, rfl, rfl, (by (repeat' apply And.intro) <;> first | trivial | rfl | exact zi (fun _ => rfl) _ | exact zk _ | exact zn _ | exact zm _ | exact Nat.le_of_ble_eq_true rfl | assumption)⟩, ⟨_, _, rfl, rfl, (by (repeat' apply And.intro) <;> first | trivial | rfl | exact zi (fun _ => rfl) _ | exact zk _ | exact zn _ | exact zm _ | exact Nat.le_of_ble_eq_true rfl | assumption)⟩, trivial⟩ ⟨⟨rfl, _, _, rfl, rfl, (by (repeat' apply And.intro) <;> first | trivial | rfl | exact zi (fun _ => rfl) _ | exact zk _ | exact zn _ | exact zm _ | exact Nat.le_of_ble_eq_true rfl | assumption)⟩, trivial⟩) ?_
        refine zc3 (j := 2) ?_
        refine za rfl rfl trivial (za rfl rfl trivial (za rfl rfl trivial (za rfl rfl trivial (za rfl rfl trivial (zc (ze (zd (zb rfl (za rfl rfl trivial (za rfl rfl trivial ?_))))))))))
        refine zK rfl (fun h68 => ?_) (fun h68 => ?_)
        ·have g68 : zay = true := h68
         refine zg rfl h68 (za (v := (.agg [_, _, _, _, _, _, _, _, _, _])) rfl rfl (Nat.le_of_ble_eq_true rfl) (zg rfl h68 (zF rfl rfl rfl rfl (zfZ ((dec b).1) (by first | assumption | exact zqi (hK20 (by assumption)).1 | exact zi0 (zbn (zb8 (by assumption))).1)) rfl rfl rfl (zr rfl h68 rfl rfl (za rfl rfl trivial ?_)))))
         refine zK rfl (fun h70 => ?_) (fun h70 => ?_)
         ·have g70 : za5 ((dec b).1) = true := h70
          refine zg rfl h70 (za rfl rfl trivial (zg rfl h70 (zl rfl rfl rfl rfl rfl trivial (zr rfl h70 rfl rfl (za rfl rfl trivial ?_)))))
          refine zK rfl (fun h72 => ?_) (fun h72 => ?_)
          ·have g72 : ((enc ((dec b).1)).2 : Int) = 0 := zcF h72
           refine zg rfl h72 (za rfl rfl trivial (zg rfl h72 ?_))
           refine zeE (l := (enc ((dec b).1)).1) rfl rfl rfl rfl rfl ?_
           refine zg rfl h72 (za rfl rfl trivial (zg rfl h72 ?_))
           refine zeE (l := b) rfl rfl rfl rfl rfl ?_
           refine zg rfl h72 (zl rfl rfl rfl rfl rfl trivial (zr rfl h72 rfl rfl (za rfl rfl trivial (zc (ze (zo ?_))))))
           have e74 : zbW c d b = (((enc ((dec b).1)).1) == b) := by
            unfold zbW
            try dsimp only
            rewrite [hJ2]
            try dsimp only
            rewrite [if_pos g10, if_neg g14, if_pos g21, hJ23]
            try dsimp only
            rewrite [hJ36]
            try dsimp only
            rewrite [if_pos g51, if_pos g68, if_pos g70, if_pos g72]
            all_goals rfl
           rw [e74]
           exact zp rfl ⟨trivial, trivial⟩ (rfl) rfl
          ·have g72 : ¬ (((enc ((dec b).1)).2 : Int) = 0) := zcL h72
           refine zh rfl h72 rfl (zh rfl h72 rfl (zh rfl h72 rfl (zh rfl h72 rfl (zh rfl h72 rfl (zt rfl h72 rfl rfl (za rfl rfl trivial (zc (ze (zo ?_)))))))))
           have e75 : zbW c d b = false := by
            unfold zbW
            try dsimp only
            rewrite [hJ2]
            try dsimp only
            rewrite [if_pos g10, if_neg g14, if_pos g21, hJ23]
            try dsimp only
            rewrite [hJ36]
            try dsimp only
            rewrite [if_pos g51, if_pos g68, if_pos g70, if_neg g72]
            all_goals rfl
           rw [e75]
           exact zp rfl ⟨trivial, trivial⟩ (rfl) rfl
         ·have g70 : ¬ (za5 ((dec b).1) = true) := zaw h70
          refine zh rfl h70 rfl (zh rfl h70 rfl (zt rfl h70 rfl rfl (za rfl rfl trivial (zf rfl rfl (zf rfl rfl (zf rfl rfl (zf rfl rfl (zf rfl rfl (za rfl rfl trivial (za rfl rfl trivial (zc ?_)))))))))))
          refine ze (zo ?_)
          have e76 : zbW c d b = false := by
           unfold zbW
           try dsimp only
           rewrite [hJ2]
           try dsimp only
           rewrite [if_pos g10, if_neg g14, if_pos g21, hJ23]
           try dsimp only
           rewrite [hJ36]
           try dsimp only
           rewrite [if_pos g51, if_pos g68, if_neg g70]
           all_goals rfl
          rw [e76]
          exact zp rfl ⟨trivial, trivial⟩ (rfl) rfl
        ·have g68 : ¬ (zay = true) := zaw h68
         refine zh rfl h68 rfl (zh rfl h68 rfl (zt rfl h68 rfl rfl (za rfl rfl trivial (zf rfl rfl (zf rfl rfl (za rfl rfl trivial (za rfl rfl trivial (zf rfl rfl (zf rfl rfl (zf rfl rfl (zf rfl rfl ?_)))))))))))
         refine zf rfl rfl (za rfl rfl trivial (za rfl rfl trivial (zc (ze (zo ?_)))))
         have e77 : zbW c d b = false := by
          unfold zbW
          try dsimp only
          rewrite [hJ2]
          try dsimp only
          rewrite [if_pos g10, if_neg g14, if_pos g21, hJ23]
          try dsimp only
          rewrite [hJ36]
          try dsimp only
          rewrite [if_pos g51, if_neg g68]
          all_goals rfl
         rw [e77]
         exact zp rfl ⟨trivial, trivial⟩ (rfl) rfl
end Go.Proofs.YtppnccjeggnllaaGreat
