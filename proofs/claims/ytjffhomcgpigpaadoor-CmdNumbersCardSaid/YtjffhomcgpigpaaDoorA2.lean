import Derived.Test.YtjffhomcgpigpaaDoorA1
/- Small functions, each by its contract. -/
namespace Go.Proofs.YtjffhomcgpigpaaDoor
open E
set_option maxRecDepth 100000
theorem tmod_nat (n k : Nat) : (n : Int).tmod k = ((n % k : Nat) : Int) := rfl
theorem retI {a b : Int} (h : a = b) : Ending.returned (.int .i64 a) = .returned (.int .i64 b) := by rw [h]
theorem retB {a b : Bool} (h : a = b) : Ending.returned (.bool a) = .returned (.bool b) := by rw [h]
theorem retS {a b : List UInt8} (h : a = b) : Ending.returned (.string (bs a)) = .returned (.string (bs b)) := by rw [h]
theorem Cut_any (s : List UInt8) (n : Int) (w : World) (hn : 0 ≤ n) :
    Calls Tryd.prog 21 #[.string (bs s), .int .i64 n] w (RetX (.string (bs (s.take n.toNat))) w.heap (outw w)) := by
  refine begins (k21 {}) [.str (.v 0), .int .i64 (.v 0)] [] { s := fun _ => s, i := fun _ => n, h := fun _ => w.heap, o := outw w } 1 1000 rfl rfl rfl trivial (by simp [SV.den, SE.den, IE.den]) ?_
  conv => arg 7; reduce
  simp only [VC.den, BE.prop, IE.den, NE.den, SE.den, SV.den, HE.den, WS.den, Int.cast_ofNat_Int]
  refine ⟨fun h => ⟨by omega, by omega, (fun hf wr hwr hor => ⟨rfl, by rw [hwr]; exact hf.none, hor⟩)⟩, fun h => (fun hf wr hwr hor => ⟨retS (List.take_of_length_le (by omega)).symm, by rw [hwr]; exact hf.none, hor⟩)⟩
theorem Within_any (n : Int) (w : World) :
    Calls Tryd.prog 22 #[.int .i64 n, .int .i64 0, .int .i64 1048576] w (RetX (.int .i64 (n % 1048577)) w.heap (outw w)) := by
  refine begins (k22 {}) [.int .i64 (.v 0), .int .i64 (.c 0), .int .i64 (.c 1048576)] [] { i := fun _ => n, h := fun _ => w.heap, o := outw w } 1 1000 rfl rfl rfl trivial (by simp [SV.den, IE.den]) ?_
  conv => arg 7; reduce
  simp only [VC.den, BE.prop, IE.den, SV.den, HE.den, WS.den, Int.cast_ofNat_Int, inK_i64]
  have e : n.tmod 1048577 = if 0 ≤ n then n % 1048577 else -((-n) % 1048577) := by
    split
    · rename_i h; exact Int.tmod_eq_emod_of_nonneg h
    · rename_i h
      have h2 := Int.neg_tmod (-n) 1048577
      rw [Int.neg_neg] at h2
      rw [h2, Int.tmod_eq_emod_of_nonneg (by omega)]
  rw [e]
  refine ⟨fun h => ⟨by split at h <;> split <;> omega, by split at h <;> split <;> omega, by split at h <;> split <;> omega, by split at h <;> split <;> omega, (fun hf wr hwr hor => ⟨retI (by split at h <;> split <;> omega), by rw [hwr]; exact hf.none, hor⟩)⟩, fun h => ⟨by split at h <;> split <;> omega, (fun hf wr hwr hor => ⟨retI (by split at h <;> split <;> omega), by rw [hwr]; exact hf.none, hor⟩)⟩⟩
def msetB : List UInt8 := [109, 115, 101, 116]
def hsetB : List UInt8 := [104, 115, 101, 116]
/-- Are words no pairs where they must be. -/
def oddW (s : List UInt8) (n : Nat) : Bool := if s = msetB then n % 2 == 0 else if s = hsetB then n % 2 == 1 else false
theorem dec01 (n k : Nat) (d : Nat) : decide (((n : Int)).tmod (k : Int) = (d : Int)) = (n % k == d) := by
  rw [tmod_nat, Bool.eq_iff_iff]; simp; omega
theorem odd_any (s : List UInt8) (n : Nat) (w : World) :
    Calls Tryd.prog 31 #[.string (bs s), .int .i64 n] w (RetX (.bool (oddW s n)) w.heap (outw w)) := by
  refine begins (k31 {}) [.str (.v 0), .int .i64 (.ofN (.v 0))] [] { s := fun _ => s, n := fun _ => n, h := fun _ => w.heap, o := outw w } 1 1000 rfl rfl rfl trivial (by simp [SV.den, SE.den, IE.den, NE.den]) ?_
  conv => arg 7; reduce
  simp only [VC.den, BE.prop, IE.den, NE.den, SE.den, SV.den, HE.den, BE.den, WS.den, Int.cast_ofNat_Int]
  have e1 : bytesOf [109, 115, 101, 116] = msetB := rfl
  have e2 : bytesOf [104, 115, 101, 116] = hsetB := rfl
  rw [e1, e2]
  have d0 := dec01 n 2 0
  have d1 := dec01 n 2 1
  unfold oddW
  refine ⟨fun h => (fun hf wr hwr hor => ⟨retB (by rw [if_pos h]; exact d0), by rw [hwr]; exact hf.none, hor⟩), fun h => ⟨fun h2 => (fun hf wr hwr hor => ⟨retB (by rw [if_neg h, if_pos h2]; exact d1), by rw [hwr]; exact hf.none, hor⟩), fun h2 => (fun hf wr hwr hor => ⟨retB (by rw [if_neg h, if_neg h2]), by rw [hwr]; exact hf.none, hor⟩)⟩⟩
/-- How many words: + is as many as may be. -/
def smallW (s : List UInt8) : Int := if s = [43] then 256 else IntKind.u8.wrap (((s.getD 0 0).toNat : Int) - 48)
theorem wrap_u8_in (x : Int) : 0 ≤ IntKind.u8.wrap x ∧ IntKind.u8.wrap x ≤ 255 := by
  have : IntKind.u8.wrap x = x % 256 := rfl
  omega
theorem small_any (s : List UInt8) (w : World) (hs : 0 < s.length) :
    Calls Tryd.prog 36 #[.string (bs s)] w (RetX (.int .i64 (smallW s)) w.heap (outw w)) := by
  refine begins (k36 {}) [.str (.v 0)] [] { s := fun _ => s, h := fun _ => w.heap, o := outw w } 1 1000 rfl rfl rfl trivial (by simp [SV.den, SE.den]) ?_
  conv => arg 7; reduce
  simp only [VC.den, BE.prop, IE.den, NE.den, SE.den, SV.den, HE.den, WS.den, Int.cast_ofNat_Int, inK_i64]
  have e1 : bytesOf [43] = [43] := rfl
  have := wrap_u8_in (((s.getD 0 0).toNat : Int) - 48)
  rw [e1]; unfold smallW
  refine ⟨fun h => (fun hf wr hwr hor => ⟨retI (by rw [if_pos h]), by rw [hwr]; exact hf.none, hor⟩), fun h => ⟨by omega, by omega, (fun hf wr hwr hor => ⟨retI (by rw [if_neg h]), by rw [hwr]; exact hf.none, hor⟩)⟩⟩
/-- An error that New made: a Fault of this command and this code. -/
def IsFault (h : Heap) (v : Value) (s : List UInt8) (n : Int) : Prop := ∃ b, v = .iface 70 (.pointer (some ⟨b, 0, none⟩)) ∧ CellsAt h b 0 [.string (bs s), .iface 46 (.int .i64 n)]
theorem IsFault.ext {h h' : Heap} {v : Value} {s : List UInt8} {n : Int} (H : IsFault h v s n) (hx : Ext h h') : IsFault h' v s n := by
  obtain ⟨b, rfl, hc⟩ := H
  exact ⟨b, rfl, hx.cellsAt hc⟩
theorem New_any (s : List UInt8) (n : Int) (hn : n ≠ 0) (w : World) :
    Calls Tryd.prog 29 #[.string (bs s), .int .i64 n] w (RetP (fun v h => IsFault h v s n) w.heap (outw w)) := by
  refine begins (k29 {}) [.str (.v 0), .int .i64 (.v 0)] [] { s := fun _ => s, i := fun _ => n, h := fun _ => w.heap, o := outw w } 1 1000 rfl rfl rfl trivial (by simp [SV.den, SE.den, IE.den]) ?_
  conv => arg 7; reduce
  simp only [VC.den, BE.prop, IE.den, NE.den, SE.den, SV.den, HE.den, PE.den, WS.den, List.map_cons, List.map_nil, Int.cast_ofNat_Int, reduceIte, Env.setN]
  refine ⟨fun h => absurd h hn, fun _ hf w1 hw1 ho1 => ⟨_, rfl, ⟨_, rfl, ?_⟩, by rw [hw1]; exact hf.none, ho1⟩⟩
  rw [hw1]
  exact CellsAt.made w.heap [.string (bs s), .iface 46 (.int .i64 n)] 73
/-- A command, as it is known. -/
structure Cd where
  name : List UInt8
  least : Int
  most : Int
  write : Bool
  group : Int
  deriving DecidableEq
def Cd.v (c : Cd) : List Value := [.string (bs c.name), .int .i64 c.least, .int .i64 c.most, .bool c.write, .int .i64 c.group]
def Cd.a (c : Cd) : Value := .agg c.v.toArray
def Cd.none : Cd := ⟨[], 0, 0, false, 0⟩
theorem same_any (a b : Cd) (w : World) : Calls Tryd.prog 12 #[a.a, b.a] w (RetX (.bool (decide (a = b))) w.heap (outw w)) := by
  obtain ⟨s, a1, a2, a4, a3⟩ := a
  obtain ⟨t, b1, b2, b4, b3⟩ := b
  refine begins (k12 {}) [.agg [.str (.v 0), .int .i64 (.v 0), .int .i64 (.v 1), .bool (.v 0), .int .i64 (.v 2)], .agg [.str (.v 1), .int .i64 (.v 3), .int .i64 (.v 4), .bool (.v 1), .int .i64 (.v 5)]] []
    { s := fun j => if j = 0 then s else t, i := fun j => if j = 0 then a1 else if j = 1 then a2 else if j = 2 then a3 else if j = 3 then b1 else if j = 4 then b2 else b3, b := fun j => if j = 0 then a4 else b4, h := fun _ => w.heap, o := outw w } 6 1000 rfl rfl rfl trivial (by simp [Cd.a, Cd.v, SV.den, SE.den, IE.den, BE.den]) ?_
  conv => arg 7; reduce
  simp only [VC.den, BE.prop, IE.den, SE.den, SV.den, HE.den, BE.den, WS.den, List.map_cons, List.map_nil, reduceIte, Nat.reduceEqDiff, Env.setN]
  have no : ∀ {p : Prop} [Decidable p], ¬ p → Ending.returned (.bool false) = .returned (.bool (decide p)) := fun h => by rw [decide_eq_false h]
  refine ⟨fun h1 => ⟨fun h2 => ⟨fun h3 => ⟨fun h4 => (fun hf wr hwr hor => ⟨retB ?_, by rw [hwr]; exact hf.none, hor⟩), fun h4 => (fun hf wr hwr hor => ⟨no ?_, by rw [hwr]; exact hf.none, hor⟩)⟩, fun h3 => (fun hf wr hwr hor => ⟨no ?_, by rw [hwr]; exact hf.none, hor⟩)⟩, fun h2 => (fun hf wr hwr hor => ⟨no ?_, by rw [hwr]; exact hf.none, hor⟩)⟩, fun h1 => (fun hf wr hwr hor => ⟨no ?_, by rw [hwr]; exact hf.none, hor⟩)⟩
  · have : a4 = b4 := by cases a4 <;> cases b4 <;> simp_all
    subst h1 h2 h3 this
    rw [Bool.eq_iff_iff, decide_eq_true_eq, decide_eq_true_eq]; simp
  · intro e; injection e with _ _ _ e4 _; exact h4 (by rw [e4])
  · intro e; injection e with _ _ e4 _ _; exact h3 e4
  · intro e; injection e with _ e4 _ _ _; exact h2 e4
  · intro e; injection e with e4 _ _ _ _; exact h1 e4
theorem isNaN_any (s : List UInt8) (w : World) : Calls Tryd.prog 48 #[.string (bs s)] w (RetX (.bool false) w.heap (outw w)) := by
  refine begins (k48 {}) [.str (.v 0)] [] { s := fun _ => s, h := fun _ => w.heap, o := outw w } 1 1000 rfl rfl rfl trivial (by simp [SV.den, SE.den]) ?_
  conv => arg 7; reduce
  simp only [VC.den, SE.den, SV.den, HE.den, BE.den, WS.den]
  exact fun hf wr hwr hor => ⟨retB (by simp), by rw [hwr]; exact hf.none, hor⟩
def cmpB (s t : List UInt8) : Int := if bytesLt s t = true then -1 else if s = t then 0 else 1
theorem Compare_any (s t : List UInt8) (w : World) :
    Calls Tryd.prog 40 #[.string (bs s), .string (bs t)] w (RetX (.int .i64 (cmpB s t)) w.heap (outw w)) := by
  refine begins (k40 {}) [.str (.v 0), .str (.v 1)] [] { s := fun j => if j = 0 then s else t, h := fun _ => w.heap, o := outw w } 2 1000 rfl rfl rfl trivial (by simp [SV.den, SE.den]) ?_
  conv => arg 7; reduce
  simp only [VC.den, BE.prop, IE.den, SE.den, SV.den, HE.den, BE.den, WS.den, List.map_cons, List.map_nil, Int.cast_ofNat_Int, reduceIte, Nat.reduceEqDiff, Env.setE, Env.setH, Env.setB]
  intro w1 hw1 ho1
  refine (isNaN_any _ _).mono ?_
  rintro e1 v1 ⟨rfl, hx1, hp1⟩
  rw [hw1] at hx1
  refine ⟨hp1.trans ho1, hx1, ?_⟩
  refine ⟨_, rfl, ?_⟩
  intro w2 hw2 ho2
  refine (isNaN_any _ _).mono ?_
  rintro e2 v2 ⟨rfl, hx2, hp2⟩
  rw [hw2] at hx2
  refine ⟨hp2.trans ho2, hx2, ?_⟩
  refine ⟨_, rfl, nofun, fun _ => ⟨nofun, fun _ => ⟨fun h => (fun hf wr hwr hor => ⟨retI (by unfold cmpB; rw [if_pos h]), by rw [hwr]; exact hf.none, hor⟩), fun h => ⟨fun h2 => (fun hf wr hwr hor => ⟨retI (by unfold cmpB; rw [if_neg h, if_neg (fun e => h2 (.inr e))]), by rw [hwr]; exact hf.none, hor⟩), fun h2 => (fun hf wr hwr hor => ⟨retI ?_, by rw [hwr]; exact hf.none, hor⟩)⟩⟩⟩⟩
  unfold cmpB; rw [if_neg h, if_pos]
  exact Decidable.byContradiction fun e => h2 (fun h3 => h3.elim h e)
theorem long_any (s : List UInt8) (w : World) : Calls Tryd.prog 30 #[.string (bs s)] w (RetX (.bool (decide (4096 < s.length))) w.heap (outw w)) := by
  refine begins (k30 {}) [.str (.v 0)] [] { s := fun _ => s, h := fun _ => w.heap, o := outw w } 1 1000 rfl rfl rfl trivial (by simp [SV.den, SE.den]) ?_
  conv => arg 7; reduce
  simp only [VC.den, IE.den, NE.den, SE.den, SV.den, HE.den, BE.den, WS.den, Int.cast_ofNat_Int]
  exact fun hf wr hwr hor => ⟨retB (decide_eq_decide.2 (by omega)), by rw [hwr]; exact hf.none, hor⟩
theorem less_any (a b : Cd) (w : World) : Calls Tryd.prog 39 #[a.a, b.a] w (RetX (.int .i64 (cmpB a.name b.name)) w.heap (outw w)) := by
  obtain ⟨s, a1, a2, a4, a3⟩ := a
  obtain ⟨t, b1, b2, b4, b3⟩ := b
  refine begins (k39 {}) [.agg [.str (.v 0), .int .i64 (.v 0), .int .i64 (.v 1), .bool (.v 0), .int .i64 (.v 2)], .agg [.str (.v 1), .int .i64 (.v 3), .int .i64 (.v 4), .bool (.v 1), .int .i64 (.v 5)]] []
    { s := fun j => if j = 0 then s else t, i := fun j => if j = 0 then a1 else if j = 1 then a2 else if j = 2 then a3 else if j = 3 then b1 else if j = 4 then b2 else b3, b := fun j => if j = 0 then a4 else b4, h := fun _ => w.heap, o := outw w } 6 1000 rfl rfl rfl trivial (by simp [Cd.a, Cd.v, SV.den, SE.den, IE.den, BE.den]) ?_
  conv => arg 7; reduce
  simp only [VC.den, IE.den, SE.den, SV.den, HE.den, BE.den, WS.den, List.map_cons, List.map_nil, reduceIte, Nat.reduceEqDiff, Env.setE, Env.setH, Env.setI, Env.setN]
  intro w1 hw1 ho1
  refine (Compare_any _ _ _).mono ?_
  rintro e1 v1 ⟨rfl, hx1, hp1⟩
  rw [hw1] at hx1
  refine ⟨hp1.trans ho1, hx1, ?_⟩
  refine ⟨_, rfl, ?_⟩
  exact fun hf wr hwr hor => ⟨rfl, by rw [hwr]; exact hf.none, hor⟩
theorem isName_any (a : Cd) (t : List UInt8) (b : Nat) (w : World) (hb : CellsAt w.heap b 0 [.string (bs t)]) :
    Calls Tryd.prog 27 #[a.a, .pointer (some ⟨b, 0, none⟩)] w (RetX (.bool (decide (a.name = t))) w.heap (outw w)) := by
  obtain ⟨s, a1, a2, a4, a3⟩ := a
  refine begins (k27 {}) [.agg [.str (.v 0), .int .i64 (.v 0), .int .i64 (.v 1), .bool (.v 0), .int .i64 (.v 2)], .ptr (.at (.v 0) (.c 0))] [(.v 0, .c 0, [.str (.v 1)])]
    { n := fun _ => b, s := fun j => if j = 0 then s else t, i := fun j => if j = 0 then a1 else if j = 1 then a2 else a3, b := fun _ => a4, h := fun _ => w.heap, o := outw w } 6 1000 rfl rfl rfl ⟨by simpa [NE.den, SV.den, SE.den] using hb, trivial, trivial⟩ (by simp [Cd.a, Cd.v, SV.den, SE.den, IE.den, NE.den, BE.den, PE.den]) ?_
  conv => arg 7; reduce
  simp only [VC.den, IE.den, NE.den, SE.den, SV.den, HE.den, BE.den, WS.den, List.map_cons, List.map_nil, reduceIte, Nat.reduceEqDiff, Env.setN]
  intro _
  exact fun hf wr hwr hor => ⟨rfl, by rw [hwr]; exact hf.none, hor⟩
end Go.Proofs.YtjffhomcgpigpaaDoor
