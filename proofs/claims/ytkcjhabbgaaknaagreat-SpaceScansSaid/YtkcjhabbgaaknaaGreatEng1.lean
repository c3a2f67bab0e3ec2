import Derived.Calls
import Derived.Orders
import Derived.Deep.Quiet
import Derived.WalkKit
import Derived.LoopN
import Derived.Deep.AppendSrc
import Derived.Laws.AppendOwn
/- An engine of ours: a symbolic executor over the model's code, with its soundness: the deep terms. -/
namespace Go.Proofs.YtkcjhabbgaaknaaGreat.E

def bytesOf (l : List Nat) : List UInt8 := l.map UInt8.ofNat
def bs (l : List UInt8) : ByteArray := ⟨l.toArray⟩
def utf8 (n : Int) : List UInt8 := (Utf8.encode n).data.toList
def bytesLt : List UInt8 → List UInt8 → Bool := Op.bytesLess
def intBits (op : BinOp) (k : IntKind) (x y : Int) : Int :=
  let a := BitVec.ofInt k.bits x
  let b := BitVec.ofInt k.bits y
  match op with
  | .and => k.wrap (a &&& b).toNat
  | .or => k.wrap (a ||| b).toNat
  | .xor => k.wrap (a ^^^ b).toNat
  | _ => k.wrap (a &&& ~~~b).toNat

def inK (k : IntKind) (x : Int) : Prop := k.min ≤ x ∧ x ≤ k.max
instance (k : IntKind) (x : Int) : Decidable (inK k x) := inferInstanceAs (Decidable (_ ∧ _))
/-- The pointer of a slice that is cut l places in; m: its capacity was. -/
def advp (p : Option Addr) (l m size : Nat) : Option Addr := if m = l then p else p.map (·.add (l * size))

abbrev Heap := Array Obj
/-- A value of one cell, whatever it is. -/
abbrev OneV := { v : Value // v.oneCell' = true }
def one0 : OneV := ⟨.bool false, rfl⟩
/-- What the atoms stand for. -/
structure Env where
  n : Nat → Nat := fun _ => 0
  i : Nat → Int := fun _ => 0
  b : Nat → Bool := fun _ => false
  s : Nat → List UInt8 := fun _ => []
  p : Nat → Option Addr := fun _ => none
  f : Nat → Option (Nat × Value) := fun _ => none
  m : Nat → Option Nat := fun _ => none
  c : Nat → Option (Nat × List Value) := fun _ => none
  h : Nat → Heap := fun _ => #[]
  x : Nat → OneV := fun _ => one0
  w : Nat → Nat → Prop := fun _ _ => False
  e : Ending := .outgrown
  o : Os × Array (Nat × ByteArray) := (default, #[])
/-- What of the world is no memory. -/
def outw (w : World) : Os × Array (Nat × ByteArray) := (w.os, w.output)

mutual
inductive NE where
  | v (k : Nat) | c (n : Nat) | add (a b : NE) | sub (a b : NE) | mul (a b : NE) | len (s : SE) | ofI (e : IE)
inductive IE where
  | v (k : Nat) | c (n : Nat) | cneg (n : Nat) | ofN (n : NE) | add (a b : IE) | sub (a b : IE) | mul (a b : IE) | neg (a : IE) | quo (a b : IE) | rem (a b : IE)
  | wrap (k : IntKind) (e : IE) | bits (op : BinOp) (k : IntKind) (a b : IE) | shl (a : IE) (n : NE) | shr (a : IE) (n : NE) | byte (s : SE) (n : NE) | ite (c : BE) (a b : IE) | min (a b : IE) | max (a b : IE)
inductive BE where
  | v (k : Nat) | c (b : Bool) | lt (a b : IE) | le (a b : IE) | eq (a b : IE) | not (x : BE) | and (x y : BE) | or (x y : BE) | ite (c x y : BE) | beq (x y : BE)
  | seq (s t : SE) | slt (s t : SE) | pnil (p : PE) | rng (k : IntKind) (e : IE) | inil (k : Nat) | fnil (k : Nat) | mnil (k : Nat)
inductive SE where
  | v (k : Nat) | lit (l : List Nat) | take (s : SE) (n : NE) | drop (s : SE) (n : NE) | app (s t : SE) | rune (e : IE)
inductive PE where
  | v (k : Nat) | nil | at (b o : NE) | adv (p : PE) (l m : NE) (size : Nat)
end

mutual
def NE.den (ρ : Env) : NE → Nat
  | .v k => ρ.n k
  | .c n => n
  | .add a b => a.den ρ + b.den ρ
  | .sub a b => a.den ρ - b.den ρ
  | .mul a b => a.den ρ * b.den ρ
  | .len s => (s.den ρ).length
  | .ofI e => (e.den ρ).toNat
def IE.den (ρ : Env) : IE → Int
  | .v k => ρ.i k
  | .c n => (n : Int)
  | .cneg n => - (n : Int)
  | .ofN n => ((n.den ρ : Nat) : Int)
  | .add a b => a.den ρ + b.den ρ
  | .sub a b => a.den ρ - b.den ρ
  | .mul a b => a.den ρ * b.den ρ
  | .neg a => - a.den ρ
  | .quo a b => (a.den ρ).tdiv (b.den ρ)
  | .rem a b => (a.den ρ).tmod (b.den ρ)
  | .wrap k e => k.wrap (e.den ρ)
  | .bits op k a b => intBits op k (a.den ρ) (b.den ρ)
  | .shl a n => a.den ρ * 2 ^ (n.den ρ)
  | .shr a n => (a.den ρ).fdiv (2 ^ (n.den ρ))
  | .byte s n => (((s.den ρ).getD (n.den ρ) 0).toNat : Int)
  | .ite q a b => if q.den ρ then a.den ρ else b.den ρ
  | .min a b => Min.min (a.den ρ) (b.den ρ)
  | .max a b => Max.max (a.den ρ) (b.den ρ)
def BE.den (ρ : Env) : BE → Bool
  | .v k => ρ.b k
  | .c b => b
  | .lt a b => decide (a.den ρ < b.den ρ)
  | .le a b => decide (a.den ρ ≤ b.den ρ)
  | .eq a b => decide (a.den ρ = b.den ρ)
  | .not x => !x.den ρ
  | .and x y => x.den ρ && y.den ρ
  | .or x y => x.den ρ || y.den ρ
  | .ite q x y => if q.den ρ then x.den ρ else y.den ρ
  | .beq x y => x.den ρ == y.den ρ
  | .seq s t => decide (s.den ρ = t.den ρ)
  | .slt s t => bytesLt (s.den ρ) (t.den ρ)
  | .pnil p => (p.den ρ).isNone
  | .rng k e => decide (inK k (e.den ρ))
  | .inil k => (ρ.f k).isNone
  | .fnil k => (ρ.c k).isNone
  | .mnil k => (ρ.m k).isNone
def SE.den (ρ : Env) : SE → List UInt8
  | .v k => ρ.s k
  | .lit l => bytesOf l
  | .take s n => (s.den ρ).take (n.den ρ)
  | .drop s n => (s.den ρ).drop (n.den ρ)
  | .app s t => s.den ρ ++ t.den ρ
  | .rune e => utf8 (e.den ρ)
def PE.den (ρ : Env) : PE → Option Addr
  | .v k => ρ.p k
  | .nil => none
  | .at b o => some ⟨b.den ρ, o.den ρ, none⟩
  | .adv p l m size => advp (p.den ρ) (l.den ρ) (m.den ρ) size
end

/-- A test as a proposition. -/
def BE.prop (ρ : Env) : BE → Prop
  | .v k => ρ.b k = true
  | .c b => b = true
  | .lt a b => a.den ρ < b.den ρ
  | .le a b => a.den ρ ≤ b.den ρ
  | .eq a b => a.den ρ = b.den ρ
  | .not x => ¬ x.prop ρ
  | .and x y => x.prop ρ ∧ y.prop ρ
  | .or x y => x.prop ρ ∨ y.prop ρ
  | .ite q x y => (q.prop ρ ∧ x.prop ρ) ∨ (¬ q.prop ρ ∧ y.prop ρ)
  | .beq x y => (x.prop ρ ↔ y.prop ρ)
  | .seq s t => s.den ρ = t.den ρ
  | .slt s t => bytesLt (s.den ρ) (t.den ρ) = true
  | .pnil p => p.den ρ = none
  | .rng k e => inK k (e.den ρ)
  | .inil k => ρ.f k = none
  | .fnil k => ρ.c k = none
  | .mnil k => ρ.m k = none

theorem BE.prop_iff (ρ : Env) (x : BE) : x.prop ρ ↔ x.den ρ = true := by
  match x with
  | .v k => simp [BE.prop, BE.den]
  | .c b => simp [BE.prop, BE.den]
  | .lt a b => simp [BE.prop, BE.den]
  | .le a b => simp [BE.prop, BE.den]
  | .eq a b => simp [BE.prop, BE.den]
  | .not x => have := BE.prop_iff ρ x; simp [BE.prop, BE.den, this]
  | .and x y => have := BE.prop_iff ρ x; have := BE.prop_iff ρ y; simp [BE.prop, BE.den, *]
  | .or x y => have := BE.prop_iff ρ x; have := BE.prop_iff ρ y; simp [BE.prop, BE.den, *]
  | .ite q x y =>
    have hc := BE.prop_iff ρ q; have hx := BE.prop_iff ρ x; have hy := BE.prop_iff ρ y
    simp only [BE.prop, BE.den, hc, hx, hy]
    cases q.den ρ <;> simp
  | .beq x y =>
    have hx := BE.prop_iff ρ x; have hy := BE.prop_iff ρ y
    simp only [BE.prop, BE.den, hx, hy]
    cases x.den ρ <;> cases y.den ρ <;> simp
  | .seq s t => simp [BE.prop, BE.den]
  | .slt s t => simp [BE.prop, BE.den]
  | .pnil p => simp [BE.prop, BE.den]
  | .rng k e => simp [BE.prop, BE.den]
  | .inil k => simp [BE.prop, BE.den]
  | .fnil k => simp [BE.prop, BE.den]
  | .mnil k => simp [BE.prop, BE.den]

/-- A function value: no method's, nothing bound ahead. -/
def cloVal : Option (Nat × List Value) → Value
  | none => .nilFunc
  | some (f, cs) => .func (.func f) #[] cs.toArray
def ifcVal : Option (Nat × Value) → Value
  | none => .nilIface
  | some (t, v) => .iface t v

inductive SV where
  | int (k : IntKind) (e : IE) | bool (b : BE) | str (s : SE) | ptr (p : PE) | slice (p : PE) (len cap : NE)
  | agg (cs : List SV) | tup (cs : List SV) | fn (f : Fn) (first cap : List SV) | clo (k : Nat) | nilFn
  | iface (t : Nat) (x : SV) | nilIface | ifc (k : Nat) | nilMap | map (k : Nat) | val (k : Nat)

def SV.den (ρ : Env) : SV → Value
  | .int k e => .int k (e.den ρ)
  | .bool b => .bool (b.den ρ)
  | .str s => .string (bs (s.den ρ))
  | .ptr p => .pointer (p.den ρ)
  | .slice p l c => .slice (p.den ρ) (l.den ρ) (c.den ρ)
  | .agg cs => .agg (cs.map (SV.den ρ)).toArray
  | .tup cs => .tuple (cs.map (SV.den ρ)).toArray
  | .fn f a c => .func f (a.map (SV.den ρ)).toArray (c.map (SV.den ρ)).toArray
  | .clo k => cloVal (ρ.c k)
  | .nilFn => .nilFunc
  | .iface t x => .iface t (x.den ρ)
  | .nilIface => .nilIface
  | .ifc k => ifcVal (ρ.f k)
  | .nilMap => .map none
  | .map k => .map (ρ.m k)
  | .val k => (ρ.x k).1

/-- The heap, read. -/
def get (h : Heap) (b o : Nat) : Option Value :=
  match h[b]? with
  | some (.cells c _ _) => c[o]?
  | _ => none
def frz (h : Heap) (b o : Nat) : Bool :=
  match h[b]? with
  | some (.cells _ _ (lo, hi)) => lo ≤ o && o < hi
  | _ => false
def setc (h : Heap) (b o : Nat) (v : Value) : Heap :=
  h.modify b fun
    | .cells c elem fr => .cells (c.setIfInBounds o v) elem fr
    | o => o

def SV.cells : SV → List SV
  | .agg cs => cs
  | x => [x]
theorem SV.cells_den (ρ : Env) (x : SV) : (x.den ρ).cells = (x.cells.map (SV.den ρ)).toArray := by
  have h1 : ∀ o, (ifcVal o).cells = #[ifcVal o] := by intro o; cases o <;> rfl
  have h2 : ∀ o, (cloVal o).cells = #[cloVal o] := by intro o; cases o <;> rfl
  cases x
  case ifc k => simp [SV.den, SV.cells, h1]
  case clo k => simp [SV.den, SV.cells, h2]
  case val k =>
    have h3 : ∀ o : OneV, o.1.cells = #[o.1] := by rintro ⟨v, hv⟩; cases v <;> first | rfl | cases hv
    simp [SV.den, SV.cells, h3]
  all_goals simp [SV.den, SV.cells, Value.cells]

inductive HE where
  | v (k : Nat)
  | set (h : HE) (b o : NE) (x : SV)
  | push (h : HE) (ty : Nat) (cells : List SV)

def HE.den (ρ : Env) : HE → Heap
  | .v k => ρ.h k
  | .set h b o x => setc (h.den ρ) (b.den ρ) (o.den ρ) (x.den ρ)
  | .push h ty cells => (h.den ρ).push (.cells (cells.map (SV.den ρ)).toArray ty)


/-! ### Which atoms a term names -/
mutual
def NE.lt (m : Nat) : NE → Bool
  | .v k => Nat.blt k m
  | .c _ => true
  | .add a b => a.lt m && b.lt m
  | .sub a b => a.lt m && b.lt m
  | .mul a b => a.lt m && b.lt m
  | .len s => s.lt m
  | .ofI e => e.lt m
def IE.lt (m : Nat) : IE → Bool
  | .v k => Nat.blt k m
  | .c _ => true
  | .cneg _ => true
  | .ofN n => n.lt m
  | .add a b => a.lt m && b.lt m
  | .sub a b => a.lt m && b.lt m
  | .mul a b => a.lt m && b.lt m
  | .neg a => a.lt m
  | .quo a b => a.lt m && b.lt m
  | .rem a b => a.lt m && b.lt m
  | .wrap _ e => e.lt m
  | .bits _ _ a b => a.lt m && b.lt m
  | .shl a n => a.lt m && n.lt m
  | .shr a n => a.lt m && n.lt m
  | .byte s n => s.lt m && n.lt m
  | .ite q a b => BE.lt' m q && a.lt m && b.lt m
  | .min a b => a.lt m && b.lt m
  | .max a b => a.lt m && b.lt m
def BE.lt' (m : Nat) : BE → Bool
  | .v k => Nat.blt k m
  | .c _ => true
  | .lt a b => a.lt m && b.lt m
  | .le a b => a.lt m && b.lt m
  | .eq a b => a.lt m && b.lt m
  | .not x => x.lt' m
  | .and x y => x.lt' m && y.lt' m
  | .or x y => x.lt' m && y.lt' m
  | .ite q x y => q.lt' m && x.lt' m && y.lt' m
  | .beq x y => x.lt' m && y.lt' m
  | .seq s t => s.lt m && t.lt m
  | .slt s t => s.lt m && t.lt m
  | .pnil p => p.lt m
  | .rng _ e => e.lt m
  | .inil k => Nat.blt k m
  | .fnil k => Nat.blt k m
  | .mnil k => Nat.blt k m
def SE.lt (m : Nat) : SE → Bool
  | .v k => Nat.blt k m
  | .lit _ => true
  | .take s n => s.lt m && n.lt m
  | .drop s n => s.lt m && n.lt m
  | .app s t => s.lt m && t.lt m
  | .rune e => e.lt m
def PE.lt (m : Nat) : PE → Bool
  | .v k => Nat.blt k m
  | .nil => true
  | .at b o => b.lt m && o.lt m
  | .adv p l n _ => p.lt m && l.lt m && n.lt m
end
/-- Two environments that agree on the first m atoms. -/
structure Agree (m : Nat) (ρ ρ' : Env) : Prop where
  at_ : ∀ k, k < m → ρ'.n k = ρ.n k ∧ ρ'.i k = ρ.i k ∧ ρ'.b k = ρ.b k ∧ ρ'.s k = ρ.s k ∧ ρ'.p k = ρ.p k ∧ ρ'.f k = ρ.f k ∧ ρ'.m k = ρ.m k ∧ ρ'.c k = ρ.c k ∧ ρ'.h k = ρ.h k ∧ ρ'.x k = ρ.x k ∧ ρ'.w k = ρ.w k
  o : ρ'.o = ρ.o
instance {m : Nat} {ρ ρ' : Env} : CoeFun (Agree m ρ ρ') fun _ => ∀ k, k < m → ρ'.n k = ρ.n k ∧ ρ'.i k = ρ.i k ∧ ρ'.b k = ρ.b k ∧ ρ'.s k = ρ.s k ∧ ρ'.p k = ρ.p k ∧ ρ'.f k = ρ.f k ∧ ρ'.m k = ρ.m k ∧ ρ'.c k = ρ.c k ∧ ρ'.h k = ρ.h k ∧ ρ'.x k = ρ.x k ∧ ρ'.w k = ρ.w k := ⟨Agree.at_⟩
theorem blt_lt {k m : Nat} (h : Nat.blt k m = true) : k < m := by simpa [Nat.blt_eq] using h
mutual
theorem NE.stable {m : Nat} {ρ ρ' : Env} (ha : Agree m ρ ρ') : (e : NE) → e.lt m = true → e.den ρ' = e.den ρ
  | .v k, h => by simp only [NE.lt] at h; simp only [NE.den, (ha k (blt_lt h)).1]
  | .c _, _ => by simp only [NE.den]
  | .add a b, h => by simp only [NE.lt, Bool.and_eq_true] at h; simp only [NE.den, NE.stable ha a h.1, NE.stable ha b h.2]
  | .sub a b, h => by simp only [NE.lt, Bool.and_eq_true] at h; simp only [NE.den, NE.stable ha a h.1, NE.stable ha b h.2]
  | .mul a b, h => by simp only [NE.lt, Bool.and_eq_true] at h; simp only [NE.den, NE.stable ha a h.1, NE.stable ha b h.2]
  | .len s, h => by simp only [NE.lt] at h; simp only [NE.den, SE.stable ha s h]
  | .ofI e, h => by simp only [NE.lt] at h; simp only [NE.den, IE.stable ha e h]
theorem IE.stable {m : Nat} {ρ ρ' : Env} (ha : Agree m ρ ρ') : (e : IE) → e.lt m = true → e.den ρ' = e.den ρ
  | .v k, h => by simp only [IE.lt] at h; simp only [IE.den, (ha k (blt_lt h)).2.1]
  | .c _, _ => by simp only [IE.den]
  | .cneg _, _ => by simp only [IE.den]
  | .ofN n, h => by simp only [IE.lt] at h; simp only [IE.den, NE.stable ha n h]
  | .add a b, h => by simp only [IE.lt, Bool.and_eq_true] at h; simp only [IE.den, IE.stable ha a h.1, IE.stable ha b h.2]
  | .sub a b, h => by simp only [IE.lt, Bool.and_eq_true] at h; simp only [IE.den, IE.stable ha a h.1, IE.stable ha b h.2]
  | .mul a b, h => by simp only [IE.lt, Bool.and_eq_true] at h; simp only [IE.den, IE.stable ha a h.1, IE.stable ha b h.2]
  | .neg a, h => by simp only [IE.lt] at h; simp only [IE.den, IE.stable ha a h]
  | .quo a b, h => by simp only [IE.lt, Bool.and_eq_true] at h; simp only [IE.den, IE.stable ha a h.1, IE.stable ha b h.2]
  | .rem a b, h => by simp only [IE.lt, Bool.and_eq_true] at h; simp only [IE.den, IE.stable ha a h.1, IE.stable ha b h.2]
  | .wrap _ e, h => by simp only [IE.lt] at h; simp only [IE.den, IE.stable ha e h]
  | .bits _ _ a b, h => by simp only [IE.lt, Bool.and_eq_true] at h; simp only [IE.den, IE.stable ha a h.1, IE.stable ha b h.2]
  | .shl a n, h => by simp only [IE.lt, Bool.and_eq_true] at h; simp only [IE.den, IE.stable ha a h.1, NE.stable ha n h.2]
  | .shr a n, h => by simp only [IE.lt, Bool.and_eq_true] at h; simp only [IE.den, IE.stable ha a h.1, NE.stable ha n h.2]
  | .byte s n, h => by simp only [IE.lt, Bool.and_eq_true] at h; simp only [IE.den, SE.stable ha s h.1, NE.stable ha n h.2]
  | .ite q a b, h => by simp only [IE.lt, Bool.and_eq_true] at h; simp only [IE.den, BE.stable ha q h.1.1, IE.stable ha a h.1.2, IE.stable ha b h.2]
  | .min a b, h => by simp only [IE.lt, Bool.and_eq_true] at h; simp only [IE.den, IE.stable ha a h.1, IE.stable ha b h.2]
  | .max a b, h => by simp only [IE.lt, Bool.and_eq_true] at h; simp only [IE.den, IE.stable ha a h.1, IE.stable ha b h.2]
theorem BE.stable {m : Nat} {ρ ρ' : Env} (ha : Agree m ρ ρ') : (e : BE) → e.lt' m = true → e.den ρ' = e.den ρ
  | .v k, h => by simp only [BE.lt'] at h; simp only [BE.den, (ha k (blt_lt h)).2.2.1]
  | .c _, _ => by simp only [BE.den]
  | .lt a b, h => by simp only [BE.lt', Bool.and_eq_true] at h; simp only [BE.den, IE.stable ha a h.1, IE.stable ha b h.2]
  | .le a b, h => by simp only [BE.lt', Bool.and_eq_true] at h; simp only [BE.den, IE.stable ha a h.1, IE.stable ha b h.2]
  | .eq a b, h => by simp only [BE.lt', Bool.and_eq_true] at h; simp only [BE.den, IE.stable ha a h.1, IE.stable ha b h.2]
  | .not x, h => by simp only [BE.lt'] at h; simp only [BE.den, BE.stable ha x h]
  | .and x y, h => by simp only [BE.lt', Bool.and_eq_true] at h; simp only [BE.den, BE.stable ha x h.1, BE.stable ha y h.2]
  | .or x y, h => by simp only [BE.lt', Bool.and_eq_true] at h; simp only [BE.den, BE.stable ha x h.1, BE.stable ha y h.2]
  | .ite q x y, h => by simp only [BE.lt', Bool.and_eq_true] at h; simp only [BE.den, BE.stable ha q h.1.1, BE.stable ha x h.1.2, BE.stable ha y h.2]
  | .beq x y, h => by simp only [BE.lt', Bool.and_eq_true] at h; simp only [BE.den, BE.stable ha x h.1, BE.stable ha y h.2]
  | .seq s t, h => by simp only [BE.lt', Bool.and_eq_true] at h; simp only [BE.den, SE.stable ha s h.1, SE.stable ha t h.2]
  | .slt s t, h => by simp only [BE.lt', Bool.and_eq_true] at h; simp only [BE.den, SE.stable ha s h.1, SE.stable ha t h.2]
  | .pnil p, h => by simp only [BE.lt'] at h; simp only [BE.den, PE.stable ha p h]
  | .rng _ e, h => by simp only [BE.lt'] at h; simp only [BE.den, IE.stable ha e h]
  | .inil k, h => by simp only [BE.lt'] at h; simp only [BE.den, (ha k (blt_lt h)).2.2.2.2.2.1]
  | .fnil k, h => by simp only [BE.lt'] at h; simp only [BE.den, (ha k (blt_lt h)).2.2.2.2.2.2.2.1]
  | .mnil k, h => by simp only [BE.lt'] at h; simp only [BE.den, (ha k (blt_lt h)).2.2.2.2.2.2.1]
theorem SE.stable {m : Nat} {ρ ρ' : Env} (ha : Agree m ρ ρ') : (e : SE) → e.lt m = true → e.den ρ' = e.den ρ
  | .v k, h => by simp only [SE.lt] at h; simp only [SE.den, (ha k (blt_lt h)).2.2.2.1]
  | .lit _, _ => by simp only [SE.den]
  | .take s n, h => by simp only [SE.lt, Bool.and_eq_true] at h; simp only [SE.den, SE.stable ha s h.1, NE.stable ha n h.2]
  | .drop s n, h => by simp only [SE.lt, Bool.and_eq_true] at h; simp only [SE.den, SE.stable ha s h.1, NE.stable ha n h.2]
  | .app s t, h => by simp only [SE.lt, Bool.and_eq_true] at h; simp only [SE.den, SE.stable ha s h.1, SE.stable ha t h.2]
  | .rune e, h => by simp only [SE.lt] at h; simp only [SE.den, IE.stable ha e h]
theorem PE.stable {m : Nat} {ρ ρ' : Env} (ha : Agree m ρ ρ') : (e : PE) → e.lt m = true → e.den ρ' = e.den ρ
  | .v k, h => by simp only [PE.lt] at h; simp only [PE.den, (ha k (blt_lt h)).2.2.2.2.1]
  | .nil, _ => by simp only [PE.den]
  | .at b o, h => by simp only [PE.lt, Bool.and_eq_true] at h; simp only [PE.den, NE.stable ha b h.1, NE.stable ha o h.2]
  | .adv p l n _, h => by simp only [PE.lt, Bool.and_eq_true] at h; simp only [PE.den, PE.stable ha p h.1.1, NE.stable ha l h.1.2, NE.stable ha n h.2]
end
mutual
def SV.lt (m : Nat) : SV → Bool
  | .int _ e => e.lt m
  | .bool b => b.lt' m
  | .str s => s.lt m
  | .ptr p => p.lt m
  | .slice p l c => p.lt m && l.lt m && c.lt m
  | .agg cs => SV.lts m cs
  | .tup cs => SV.lts m cs
  | .fn _ a c => SV.lts m a && SV.lts m c
  | .clo k => Nat.blt k m
  | .nilFn => true
  | .iface _ x => x.lt m
  | .nilIface => true
  | .ifc k => Nat.blt k m
  | .nilMap => true
  | .map k => Nat.blt k m
  | .val k => Nat.blt k m
def SV.lts (m : Nat) : List SV → Bool
  | [] => true
  | x :: l => x.lt m && SV.lts m l
end
mutual
theorem SV.stable {m : Nat} {ρ ρ' : Env} (ha : Agree m ρ ρ') : (x : SV) → x.lt m = true → x.den ρ' = x.den ρ
  | .int _ e, h => by simp only [SV.lt] at h; simp only [SV.den, IE.stable ha e h]
  | .bool b, h => by simp only [SV.lt] at h; simp only [SV.den, BE.stable ha b h]
  | .str s, h => by simp only [SV.lt] at h; simp only [SV.den, SE.stable ha s h]
  | .ptr p, h => by simp only [SV.lt] at h; simp only [SV.den, PE.stable ha p h]
  | .slice p l c, h => by simp only [SV.lt, Bool.and_eq_true] at h; simp only [SV.den, PE.stable ha p h.1.1, NE.stable ha l h.1.2, NE.stable ha c h.2]
  | .agg cs, h => by simp only [SV.lt] at h; simp only [SV.den, SV.stables ha cs h]
  | .tup cs, h => by simp only [SV.lt] at h; simp only [SV.den, SV.stables ha cs h]
  | .fn _ a c, h => by simp only [SV.lt, Bool.and_eq_true] at h; simp only [SV.den, SV.stables ha a h.1, SV.stables ha c h.2]
  | .clo k, h => by simp only [SV.lt] at h; simp only [SV.den, (ha k (blt_lt h)).2.2.2.2.2.2.2.1]
  | .nilFn, _ => by simp only [SV.den]
  | .iface _ x, h => by simp only [SV.lt] at h; simp only [SV.den, SV.stable ha x h]
  | .nilIface, _ => by simp only [SV.den]
  | .ifc k, h => by simp only [SV.lt] at h; simp only [SV.den, (ha k (blt_lt h)).2.2.2.2.2.1]
  | .nilMap, _ => by simp only [SV.den]
  | .map k, h => by simp only [SV.lt] at h; simp only [SV.den, (ha k (blt_lt h)).2.2.2.2.2.2.1]
  | .val k, h => by simp only [SV.lt] at h; simp only [SV.den, (ha k (blt_lt h)).2.2.2.2.2.2.2.2.2.1]
theorem SV.stables {m : Nat} {ρ ρ' : Env} (ha : Agree m ρ ρ') : (l : List SV) → SV.lts m l = true → l.map (SV.den ρ') = l.map (SV.den ρ)
  | [], _ => rfl
  | x :: l, h => by
    simp only [SV.lts, Bool.and_eq_true] at h
    simp only [List.map_cons, SV.stable ha x h.1, SV.stables ha l h.2]
end
def HE.lt (m : Nat) : HE → Bool
  | .v k => Nat.blt k m
  | .set h b o x => h.lt m && b.lt m && o.lt m && x.lt m
  | .push h _ cells => h.lt m && SV.lts m cells
theorem HE.stable {m : Nat} {ρ ρ' : Env} (ha : Agree m ρ ρ') : (x : HE) → x.lt m = true → x.den ρ' = x.den ρ
  | .v k, h => by simp only [HE.lt] at h; simp only [HE.den, (ha k (blt_lt h)).2.2.2.2.2.2.2.2.1]
  | .set h b o x, hh => by
    simp only [HE.lt, Bool.and_eq_true] at hh
    simp only [HE.den, HE.stable ha h hh.1.1.1, NE.stable ha b hh.1.1.2, NE.stable ha o hh.1.2, SV.stable ha x hh.2]
  | .push h _ cells, hh => by
    simp only [HE.lt, Bool.and_eq_true] at hh
    simp only [HE.den, HE.stable ha h hh.1, SV.stables ha cells hh.2]
end Go.Proofs.YtkcjhabbgaaknaaGreat.E

/- The engine: operations that leave the world alone: their value, and what each needs. -/
namespace Go.Proofs.YtkcjhabbgaaknaaGreat.E

def IE.nn : IE → Bool
  | .c _ => true
  | .ofN _ => true
  | .byte _ _ => true
  | .add a b => a.nn && b.nn
  | _ => false
def IE.toN : IE → NE
  | .c n => .c n
  | .ofN n => n
  | .add a b => if a.nn && b.nn then .add a.toN b.toN else .ofI (.add a b)
  | e => .ofI e

theorem IE.nn_sound (ρ : Env) : (e : IE) → e.nn = true → 0 ≤ e.den ρ
  | .c n, _ => by simp only [IE.den]; omega
  | .ofN n, _ => by simp only [IE.den]; omega
  | .byte _ _, _ => by simp only [IE.den]; omega
  | .add a b, h => by
    simp only [IE.nn, Bool.and_eq_true] at h
    have := IE.nn_sound ρ a h.1; have := IE.nn_sound ρ b h.2
    simp only [IE.den]; omega
theorem IE.toN_sound (ρ : Env) : (e : IE) → (e.toN).den ρ = (e.den ρ).toNat
  | .c n => by simp [IE.toN, NE.den, IE.den]
  | .ofN n => by simp [IE.toN, IE.den]
  | .add a b => by
    simp only [IE.toN]
    split
    · rename_i h
      simp only [Bool.and_eq_true] at h
      have h1 := IE.nn_sound ρ a h.1; have h2 := IE.nn_sound ρ b h.2
      have e1 := IE.toN_sound ρ a; have e2 := IE.toN_sound ρ b
      simp only [NE.den, IE.den, e1, e2]; omega
    · simp only [NE.den]
  | .v _ | .cneg _ | .sub _ _ | .mul _ _ | .neg _ | .quo _ _ | .rem _ _ | .wrap _ _ | .bits _ _ _ _ | .shl _ _ | .shr _ _ | .byte _ _ | .ite _ _ _ | .min _ _ | .max _ _ => by
    simp only [IE.toN, NE.den]

/-- A constant. -/
def ofValue : Value → Option SV
  | .int k (.ofNat n) => some (.int k (.c n))
  | .int k (.negSucc n) => some (.int k (.cneg (n + 1)))
  | .bool b => some (.bool (.c b))
  | .string s => some (.str (.lit (s.data.toList.map UInt8.toNat)))
  | .pointer none => some (.ptr .nil)
  | .slice none l c => some (.slice .nil (.c l) (.c c))
  | .nilFunc => some .nilFn
  | .nilIface => some .nilIface
  | .map none => some .nilMap
  | _ => none
def ofValues : List Value → Option (List SV)
  | [] => some []
  | v :: l => match ofValue v, ofValues l with
    | some x, some r => some (x :: r)
    | _, _ => none
def ofConst : Value → Option SV
  | .agg cs => (ofValues cs.toList).map .agg
  | .tuple cs => (ofValues cs.toList).map .tup
  | v => ofValue v

theorem ofValue_sound (ρ : Env) {v : Value} {x : SV} (h : ofValue v = some x) : x.den ρ = v := by
  unfold ofValue at h
  split at h <;> (first | (injection h with h; subst h) | exact absurd h (by simp))
  case h_4 s =>
    obtain ⟨⟨l⟩⟩ := s
    simp only [SV.den, SE.den, bytesOf, bs, List.map_map]
    congr 2
    have : (UInt8.ofNat ∘ UInt8.toNat) = id := by funext x; simp
    simp [this]
  all_goals simp [SV.den, IE.den, BE.den, PE.den, NE.den]
  omega
theorem ofValues_sound (ρ : Env) : (l : List Value) → (r : List SV) → ofValues l = some r → r.map (SV.den ρ) = l
  | [], r, h => by simp [ofValues] at h; subst h; rfl
  | v :: l, r, h => by
    unfold ofValues at h
    split at h
    · rename_i x r' h1 h2
      injection h with h; subst h
      simp [ofValue_sound ρ h1, ofValues_sound ρ l r' h2]
    · cases h
theorem ofConst_sound (ρ : Env) {v : Value} {x : SV} (h : ofConst v = some x) : x.den ρ = v := by
  unfold ofConst at h
  split at h
  · rename_i cs
    cases h' : ofValues cs.toList with
    | none => simp [h'] at h
    | some r => simp [h'] at h; subst h; simp [SV.den, ofValues_sound ρ _ _ h']
  · rename_i cs
    cases h' : ofValues cs.toList with
    | none => simp [h'] at h
    | some r => simp [h'] at h; subst h; simp [SV.den, ofValues_sound ρ _ _ h']
  · exact ofValue_sound ρ h

/-- An entry of the symbolic frame: a slot, what it holds, and under which guard (slot, outcome). -/
structure Ent where
  t : Nat
  x : SV
  g : Option (Nat × Bool) := none
abbrev Sig := List Ent

def Holds (a : Act) : Option (Nat × Bool) → Prop
  | none => True
  | some (s, b) => a.tmps.getD s undef = .bool b
def Ag (ρ : Env) (nt : Nat) (σ : Sig) (a : Act) : Prop :=
  a.defers = [] ∧ a.tmps.size = nt ∧ ∀ e ∈ σ, Holds a e.g → a.tmps.getD e.t undef = e.x.den ρ

def find (σ : Sig) (t : Nat) : Option Ent := σ.find? (·.t == t)
def look (σ : Sig) (gs : List (Nat × Bool)) : Operand → Option SV
  | .tmp t => match find σ t with
    | some ⟨_, x, none⟩ => some x
    | some ⟨_, x, some g⟩ => if gs.contains g then some x else none
    | none => none
  | .const v => ofConst v
  | .global g => some (.ptr (.at (.c g) (.c 0)))
  | .func f => some (.fn (.func f) [] [])

theorem look_sound {ρ : Env} {nt : Nat} {σ : Sig} {a : Act} (hag : Ag ρ nt σ a) {gs : List (Nat × Bool)} (hg : ∀ g ∈ gs, Holds a (some g))
    {o : Operand} {x : SV} (h : look σ gs o = some x) : a.eval o = x.den ρ := by
  cases o with
  | tmp t =>
    simp only [look] at h
    cases hf : find σ t with
    | none => simp [hf] at h
    | some e =>
      obtain ⟨t', y, g⟩ := e
      have hm := List.mem_of_find?_eq_some hf
      have ht : t' = t := by simpa using List.find?_some hf
      subst ht
      cases g with
      | none =>
        simp [hf] at h; subst h
        exact hag.2.2 _ hm trivial
      | some g =>
        simp only [hf] at h
        split at h
        · rename_i hc
          injection h with h; subst h
          exact hag.2.2 _ hm (hg g (by simpa using hc))
        · cases h
  | const v => simp only [look] at h; simp [Act.eval, ofConst_sound ρ h]
  | global g => simp only [look] at h; injection h with h; subst h; simp [Act.eval, SV.den, PE.den, NE.den]
  | func f => simp only [look] at h; injection h with h; subst h; simp [Act.eval, SV.den]

/-- A slot is written. -/
def putσ (σ : Sig) (d : Nat) (x : SV) (g : Option (Nat × Bool)) : Sig :=
  ⟨d, x, g⟩ :: σ.filter fun e => e.t != d && (match e.g with | some (s, _) => s != d | none => true)
def dropσ (σ : Sig) (d : Nat) : Sig := σ.filter fun e => e.t != d && (match e.g with | some (s, _) => s != d | none => true)

theorem getD_put_ne {a : Act} {d t : Nat} {v : Value} (h : t ≠ d) : (a.put (some d) v).tmps.getD t undef = a.tmps.getD t undef := by
  simp [Act.put, Array.getElem?_setIfInBounds_ne (Ne.symm h)]
theorem getD_put_eq {a : Act} {d : Nat} {v : Value} (h : d < a.tmps.size) : (a.put (some d) v).tmps.getD d undef = v := by
  simp [Act.put, h]

theorem Ag_drop {ρ : Env} {nt : Nat} {σ : Sig} {a : Act} (h : Ag ρ nt σ a) (d : Nat) (v : Value) : Ag ρ nt (dropσ σ d) (a.put (some d) v) := by
  refine ⟨h.1, by simpa [Act.put] using h.2.1, fun e he hg => ?_⟩
  simp only [dropσ, List.mem_filter, Bool.and_eq_true, bne_iff_ne] at he
  rw [getD_put_ne he.2.1]
  refine h.2.2 e he.1 ?_
  obtain ⟨t, x, g⟩ := e
  cases g with
  | none => trivial
  | some g =>
    obtain ⟨s, b⟩ := g
    simp only [Holds] at *
    rw [getD_put_ne (by simpa using he.2.2)] at hg
    exact hg
theorem Ag_put {ρ : Env} {nt : Nat} {σ : Sig} {a : Act} (h : Ag ρ nt σ a) {d : Nat} (hd : d < nt) {x : SV} {g : Option (Nat × Bool)} {v : Value}
    (hv : Holds (a.put (some d) v) g → v = x.den ρ) : Ag ρ nt (putσ σ d x g) (a.put (some d) v) := by
  have h' := Ag_drop h d v
  refine ⟨h'.1, h'.2.1, fun e he hg => ?_⟩
  rcases List.mem_cons.1 he with rfl | he
  · rw [getD_put_eq (by rw [h.2.1]; exact hd)]
    exact hv hg
  · exact h'.2.2 e he hg
theorem Ag_put_none {ρ : Env} {nt : Nat} {σ : Sig} {a : Act} (h : Ag ρ nt σ a) (v : Value) : Ag ρ nt σ (a.put none v) := h
end Go.Proofs.YtkcjhabbgaaknaaGreat.E

/- The engine: operations that leave the world alone, and their soundness. -/
namespace Go.Proofs.YtkcjhabbgaaknaaGreat.E

abbrev PR := Option (List BE × SV)

def arith (k : IntKind) (e : IE) (keep : Bool) : PR :=
  if k.signed && !keep then some ([.rng k e], .int k e) else some ([], .int k (.wrap k e))
def shiftBy (k : IntKind) (b : IE) : List BE × NE :=
  match b with
  | .c n => ([], .c (min n k.bits))
  | b => ([.le (.c 0) b, .le b (.c k.bits)], b.toN)
def cmpI (op : BinOp) (a b : IE) : Option BE :=
  match op with
  | .eql => some (.eq a b) | .neq => some (.not (.eq a b)) | .lss => some (.lt a b) | .leq => some (.le a b) | .gtr => some (.lt b a) | .geq => some (.le b a)
  | _ => none
def cmpS (op : BinOp) (a b : SE) : Option BE :=
  match op with
  | .eql => some (.seq a b) | .neq => some (.not (.seq a b)) | .lss => some (.slt a b) | .leq => some (.or (.slt a b) (.seq a b))
  | .gtr => some (.not (.or (.slt a b) (.seq a b))) | .geq => some (.not (.slt a b))
  | _ => none
def binI (op : BinOp) (k : IntKind) (a b : IE) (keep : Bool) : PR :=
  match op with
  | .add => arith k (.add a b) keep
  | .sub => arith k (.sub a b) keep
  | .mul => arith k (.mul a b) keep
  | .quo => some ([.not (.eq b (.c 0)), .rng k (.quo a b)], .int k (.quo a b))
  | .rem => some ([.not (.eq b (.c 0))], .int k (.rem a b))
  | .and => some ([], .int k (.bits .and k a b))
  | .or => some ([], .int k (.bits .or k a b))
  | .xor => some ([], .int k (.bits .xor k a b))
  | .andNot => some ([], .int k (.bits .andNot k a b))
  | .shl | .shr => none
  | op => (cmpI op a b).map fun c => ([], .bool c)
inductive TK where | bool | iface | ptr | slice | fn | map | other
def kindOf (P : Program) (t : TypeId) : TK :=
  match P.underlying t with
  | some .bool => .bool
  | some (.interface _) => .iface
  | some (.pointer _) => .ptr
  | some (.slice _) => .slice
  | some (.func _ _ _) => .fn
  | some (.map _ _) => .map
  | _ => .other
/-- Equality of two values that are no integers and no strings. -/
def eqSV (P : Program) (t : TypeId) (x y : SV) (konst : Bool) : Option BE :=
  match kindOf P t, x, y with
  | .bool, .bool a, .bool b => some (.beq a b)
  | .ptr, .ptr p, .ptr .nil => some (.pnil p)
  | .ptr, .ptr .nil, .ptr p => some (.pnil p)
  | .slice, .slice p _ _, .slice .nil _ _ => some (.pnil p)
  | .slice, .slice .nil _ _, .slice p _ _ => some (.pnil p)
  | .fn, .nilFn, .nilFn => some (.c true)
  | .fn, .fn _ _ _, .nilFn => some (.c false)
  | .fn, .clo k, .nilFn => some (.fnil k)
  | .map, .nilMap, .nilMap => some (.c true)
  | .map, .map k, .nilMap => some (.mnil k)
  | .iface, .nilIface, .nilIface => if konst then some (.c true) else none
  | .iface, .nilIface, .iface _ _ => some (.c false)
  | .iface, .iface _ _, .nilIface => some (.c false)
  | .iface, .ifc k, .nilIface => if konst then some (.inil k) else none
  | _, _, _ => none
def binSV (P : Program) (op : BinOp) (t : TypeId) (x y : SV) (konst : Bool) (keep : Bool) : PR :=
  match op, x, y with
  | .shl, .int k a, .int _ b => (arith k (.shl a (shiftBy k b).2) keep).map fun r => ((shiftBy k b).1 ++ r.1, r.2)
  | .shr, .int k a, .int _ b => some ((shiftBy k b).1, .int k (.shr a (shiftBy k b).2))
  | op, .int k a, .int k' b => if k = k' then binI op k a b keep else none
  | .add, .str a, .str b => some ([.le (.ofN (.add (.len a) (.len b))) (.c 9223372036854775807)], .str (.app a b))
  | op, .str a, .str b => (cmpS op a b).map fun c => ([], .bool c)
  | .eql, x, y => (eqSV P t x y konst).map fun c => ([], .bool c)
  | .neq, x, y => (eqSV P t x y konst).map fun c => ([], .bool (.not c))
  | _, _, _ => none

theorem wrap_of_in {k : IntKind} {x : Int} (h : inK k x) : k.wrap x = x := by
  obtain ⟨h1, h2⟩ := h
  cases k <;> simp only [IntKind.wrap, IntKind.min, IntKind.max, IntKind.signed, IntKind.bits, Bool.false_eq_true, if_false, if_true, Bool.true_and, Bool.false_and] at * <;>
    (first | omega | (split <;> rename_i hh <;> simp at hh <;> omega))
theorem bs_toList (l : List UInt8) : (bs l).toList = l := ByteArray.toList_mk l
theorem bs_size (l : List UInt8) : (bs l).size = l.length := by simp [bs, ByteArray.size]
theorem bs_append (a b : List UInt8) : bs a ++ bs b = bs (a ++ b) := by
  apply ByteArray.ext; simp [bs, ByteArray.data_append]
theorem bs_extract (l : List UInt8) (i j : Nat) : (bs l).extract i j = bs ((l.take j).drop i) := by
  apply ByteArray.ext; simp [bs, ByteArray.data_extract, List.extract_eq_take_drop, List.drop_take]
theorem bs_get? (l : List UInt8) (i : Nat) (h : i < l.length) : (bs l)[i]? = some (l.getD i 0) := by
  have hs : i < (bs l).size := by rw [bs_size]; exact h
  rw [getElem?_pos (bs l) i hs]
  simp [ByteArray.getElem_eq_getElem_data, bs, h]

/-- What the value of an operation is asked: the run of a value. -/
def Runs (P : Program) (m : Sem Value) (v : Value) : Prop := ∀ w, m.run P w = .ok v w

section
variable {P : Program} {ρ : Env}
theorem arith_sound {k : IntKind} {e : IE} {keep : Bool} {r : List BE × SV} (h : arith k e keep = some r) (hn : ∀ p ∈ r.1, p.prop ρ) :
    Value.int k (k.wrap (e.den ρ)) = r.2.den ρ := by
  unfold arith at h
  split at h
  · injection h with h; subst h
    have := hn (.rng k e) (by simp)
    simp only [SV.den, wrap_of_in (show inK k (e.den ρ) from this)]
  · injection h with h; subst h; simp only [SV.den, IE.den]
theorem beq_dec (a b : List UInt8) : (a == b) = decide (a = b) := by rw [Bool.eq_iff_iff]; simp
theorem shiftBy_sound {k : IntKind} {b : IE} (hn : ∀ p ∈ (shiftBy k b).1, p.prop ρ) : ¬ b.den ρ < 0 ∧ (shiftBy k b).2.den ρ = min (b.den ρ).toNat k.bits := by
  cases b
  case c n => simp only [shiftBy, IE.den, NE.den]; exact ⟨by omega, by simp⟩
  all_goals
    simp only [shiftBy] at hn ⊢
    have h1 := hn _ (List.mem_cons_self)
    have h2 := hn _ (List.mem_cons_of_mem _ List.mem_cons_self)
    simp only [BE.prop, IE.den] at h1 h2
    rw [IE.toN_sound]
    simp only [IE.den]
    omega
theorem cmpI_sound {op : BinOp} {a b : IE} {c : BE} (h : cmpI op a b = some c) : Op.intCmp op (a.den ρ) (b.den ρ) = pure (.bool (c.den ρ)) := by
  cases op <;> simp only [cmpI] at h <;> (first | (injection h with h; subst h) | cases h) <;> simp [Op.intCmp, BE.den, bne, BEq.beq]
  all_goals rfl
theorem cmpS_sound {op : BinOp} {a b : SE} {c : BE} (h : cmpS op a b = some c) : Op.stringOp op (bs (a.den ρ)) (bs (b.den ρ)) = pure (.bool (c.den ρ)) := by
  cases op <;> simp only [cmpS] at h <;> (first | (injection h with h; subst h) | cases h) <;> simp [Op.stringOp, BE.den, bs_toList, bytesLt, beq_dec]
theorem cmpI_not_arith {op : BinOp} {a b : IE} {c : BE} (h : cmpI op a b = some c) (k : IntKind) (x y : Int) (t : TypeId) :
    binOp op t (.int k x) (.int k y) = Op.intCmp op x y := by
  cases op <;> simp only [cmpI] at h <;> (first | cases h | skip) <;> simp [binOp]
theorem binI_sound {op : BinOp} {k : IntKind} {a b : IE} {keep : Bool} {r : List BE × SV} (h : binI op k a b keep = some r) (hn : ∀ p ∈ r.1, p.prop ρ) (t : TypeId) :
    Runs P (binOp op t (.int k (a.den ρ)) (.int k (b.den ρ))) (r.2.den ρ) := by
  intro w
  unfold binI at h
  split at h
  · have := arith_sound h hn; simp only [IE.den] at this; simp [binOp, Op.intArith, this]
  · have := arith_sound h hn; simp only [IE.den] at this; simp [binOp, Op.intArith, this]
  · have := arith_sound h hn; simp only [IE.den] at this; simp [binOp, Op.intArith, this]
  · injection h with h; subst h
    have h1 := hn _ (List.mem_cons_self)
    have h2 := hn _ (List.mem_cons_of_mem _ List.mem_cons_self)
    simp only [BE.prop, IE.den] at h1 h2
    have h1' : ¬ b.den ρ = 0 := by simpa using h1
    simp [binOp, Op.intDiv, h1', SV.den, IE.den, wrap_of_in h2]
  · injection h with h; subst h
    have h1 := hn _ (List.mem_cons_self)
    simp only [BE.prop, IE.den] at h1
    have h1' : ¬ b.den ρ = 0 := by simpa using h1
    simp [binOp, Op.intDiv, h1', SV.den, IE.den]
  · injection h with h; subst h; simp [binOp, Op.intBits, SV.den, IE.den, intBits]
  · injection h with h; subst h; simp [binOp, Op.intBits, SV.den, IE.den, intBits]
  · injection h with h; subst h; simp [binOp, Op.intBits, SV.den, IE.den, intBits]
  · injection h with h; subst h; simp [binOp, Op.intBits, SV.den, IE.den, intBits]
  · cases h
  · cases h
  · cases hc : cmpI op a b with
    | none => simp [hc] at h
    | some c =>
      simp [hc] at h; subst h
      rw [cmpI_not_arith hc, cmpI_sound hc]
      simp [SV.den]
theorem binOp_shl (t : TypeId) (k k' : IntKind) (x y : Int) : binOp .shl t (.int k x) (.int k' y) = Op.shift .shl k x k' y := by simp [binOp]
theorem binOp_shr (t : TypeId) (k k' : IntKind) (x y : Int) : binOp .shr t (.int k x) (.int k' y) = Op.shift .shr k x k' y := by simp [binOp]
theorem eqGuard_ints (op : BinOp) (t : TypeId) (x y : Operand) (k k' : IntKind) (a b : Int) : eqGuard op t x y (.int k a) (.int k' b) = pure () := by
  unfold eqGuard; split <;> rfl
theorem eqGuard_strs (op : BinOp) (t : TypeId) (x y : Operand) (a b : ByteArray) : eqGuard op t x y (.string a) (.string b) = pure () := by
  unfold eqGuard; split <;> rfl
theorem run_pureUnit {β : Type} (m : Sem β) (w : World) : ((do (pure () : Sem Unit); m) : Sem β).run P w = m.run P w := rfl
def isK : Operand → Bool | .const _ => true | _ => false
theorem und {α : Type} {t : TypeId} {w : World} {d : TypeDesc} (h : P.underlying t = some d) (f : TypeDesc → Sem α) : (underlying t >>= f).run P w = (f d).run P w := by
  rw [Sem.run_bind, run_underlying h]; rfl
section
variable {t : TypeId} {w : World} {n : Nat}
theorem eqIn_bool (hu : P.underlying t = some .bool) (a b : Bool) : (Op.equalIn (n+1) t (.bool a) (.bool b)).run P w = .ok (a == b) w := by
  unfold Op.equalIn; exact und hu _
theorem eqIn_ptr {e : TypeId} (hu : P.underlying t = some (.pointer e)) (b : Option Addr) : (Op.equalIn (n+1) t (.pointer none) (.pointer b)).run P w = .ok (b.isNone) w := by
  unfold Op.equalIn; exact und hu _
theorem eqIn_ptr' {e : TypeId} (hu : P.underlying t = some (.pointer e)) (b : Option Addr) : (Op.equalIn (n+1) t (.pointer b) (.pointer none)).run P w = .ok (b.isNone) w := by
  cases b <;> (unfold Op.equalIn; exact und hu _)
theorem eqIn_slice {e : TypeId} (hu : P.underlying t = some (.slice e)) (b : Option Addr) (l c l' c' : Nat) : (Op.equalIn (n+1) t (.slice none l c) (.slice b l' c')).run P w = .ok (b.isNone) w := by
  unfold Op.equalIn; exact und hu _
theorem eqIn_slice' {e : TypeId} (hu : P.underlying t = some (.slice e)) (b : Option Addr) (l c l' c' : Nat) : (Op.equalIn (n+1) t (.slice b l c) (.slice none l' c')).run P w = .ok (b.isNone) w := by
  cases b <;> (unfold Op.equalIn; exact und hu _)
theorem eqIn_fn0 {ps rs v} (hu : P.underlying t = some (.func ps rs v)) : (Op.equalIn (n+1) t .nilFunc .nilFunc).run P w = .ok true w := by
  unfold Op.equalIn; exact und hu _
theorem eqIn_fn1 {ps rs v} (hu : P.underlying t = some (.func ps rs v)) (f a c) : (Op.equalIn (n+1) t (.func f a c) .nilFunc).run P w = .ok false w := by
  unfold Op.equalIn; exact und hu _
theorem eqIn_map' {k e} (hu : P.underlying t = some (.map k e)) (m : Option Nat) : (Op.equalIn (n+1) t (.map m) (.map none)).run P w = .ok m.isNone w := by
  cases m <;> (unfold Op.equalIn; exact und hu _)
theorem eqIn_fn2 {ps rs v} (hu : P.underlying t = some (.func ps rs v)) (f) : (Op.equalIn (n+1) t (cloVal f) .nilFunc).run P w = .ok f.isNone w := by
  cases f <;> (unfold Op.equalIn; exact und hu _)
theorem eqIn_if3 {ms} (hu : P.underlying t = some (.interface ms)) (f) : (Op.equalIn (n+1) t (ifcVal f) .nilIface).run P w = .ok f.isNone w := by
  cases f <;> (unfold Op.equalIn; exact und hu _)
theorem eqIn_map {k e} (hu : P.underlying t = some (.map k e)) : (Op.equalIn (n+1) t (.map none) (.map none)).run P w = .ok true w := by
  unfold Op.equalIn; exact und hu _
theorem eqIn_if0 {ms} (hu : P.underlying t = some (.interface ms)) : (Op.equalIn (n+1) t .nilIface .nilIface).run P w = .ok true w := by
  unfold Op.equalIn; exact und hu _
theorem eqIn_if1 {ms} (hu : P.underlying t = some (.interface ms)) (u v) : (Op.equalIn (n+1) t .nilIface (.iface u v)).run P w = .ok false w := by
  unfold Op.equalIn; exact und hu _
theorem eqIn_if2 {ms} (hu : P.underlying t = some (.interface ms)) (u v) : (Op.equalIn (n+1) t (.iface u v) .nilIface).run P w = .ok false w := by
  unfold Op.equalIn; exact und hu _
end
theorem eqGuard_other {op : BinOp} {t : TypeId} {ox oy : Operand} {a b : Value} (h1 : ¬ (a = .nilIface ∧ b = .nilIface ∧ ¬ (isK ox || isK oy) = true)) (h2 : ∀ x y, ¬ (a = .agg x ∧ b = .agg y)) (w : World) :
    (eqGuard op t ox oy a b).run P w = .ok () w := by
  unfold eqGuard
  cases op <;> (first | rfl | skip) <;> simp only [Bool.not_true, Bool.false_eq_true, if_false]
  all_goals
    split
    · cases ox <;> cases oy <;> (first | rfl | exact absurd ⟨rfl, rfl, by simp [isK]⟩ h1)
    · exact absurd ⟨rfl, rfl⟩ (h2 _ _)
    · rfl
theorem eqSV_sound {t : TypeId} {x y : SV} {ox oy : Operand} {c : BE} (h : eqSV P t x y (isK ox || isK oy) = some c) (op : BinOp) (w : World) :
    (eqGuard op t ox oy (x.den ρ) (y.den ρ)).run P w = .ok () w ∧ (Op.equal t (x.den ρ) (y.den ρ)).run P w = .ok (c.den ρ) w := by
  have e0 : ∀ x y : Value, Op.equal t x y = Op.equalIn (9999 + 1) t x y := fun _ _ => rfl
  rw [e0]
  have hkind : ∀ d, P.underlying t = some d → kindOf P t = (match d with | .bool => .bool | .interface _ => .iface | .pointer _ => .ptr | .slice _ => .slice | .func _ _ _ => .fn | .map _ _ => .map | _ => .other) := by
    intro d hd; unfold kindOf; rw [hd]; cases d <;> rfl
  have hsome : kindOf P t ≠ .other → ∃ d, P.underlying t = some d := by
    intro h1; unfold kindOf at h1
    cases hu : P.underlying t with
    | none => simp [hu] at h1
    | some d => exact ⟨d, rfl⟩
  unfold eqSV at h
  split at h
  all_goals (first | (cases h; done) | skip)
  all_goals
    rename_i hk
    obtain ⟨d, hu⟩ := hsome (by rw [hk]; simp)
    rw [hkind d hu] at hk
    cases d <;> (first | (exfalso; revert hk; simp; done) | skip)
  all_goals (first | (injection h with h; subst h) | skip)
  all_goals (first | (split at h <;> (first | (injection h with h; subst h) | cases h)) | skip)
  all_goals refine ⟨eqGuard_other (by simp_all [SV.den]) (by intro a b h; simp only [SV.den] at h; first | (simp at h; done) | (unfold cloVal at h; split at h <;> simp at h) | (unfold ifcVal at h; split at h <;> simp at h)) w, ?_⟩
  all_goals simp only [SV.den, PE.den, BE.den]
  · exact eqIn_bool hu _ _
  · exact eqIn_ptr' hu _
  · exact eqIn_ptr hu _
  · exact eqIn_slice' hu _ _ _ _ _
  · exact eqIn_slice hu _ _ _ _ _
  · exact eqIn_fn0 hu
  · exact eqIn_fn1 hu _ _ _
  · exact eqIn_fn2 hu _
  · exact eqIn_map hu
  · exact eqIn_map' hu _
  · exact eqIn_if0 hu
  · exact eqIn_if1 hu _ _
  · exact eqIn_if2 hu _ _
  · exact eqIn_if3 hu _
end
end Go.Proofs.YtkcjhabbgaaknaaGreat.E

/- The engine: a region that draws its order: an operation that writes nothing may be taken first, where the others leave alone what it reads. -/
namespace Go.Proofs.YtkcjhabbgaaknaaGreat.E
section
variable {P : Program} {ops : Array Oper} {Q : Exit → Act → World → Prop} {md : Region.Mode}

abbrev HeldC := List Nat × (World → Prop)
/-- Whatever order is picked; each operation leaves what is held as it was, but for those that come behind the reader. -/
def wpAnyH (P : Program) (md : Region.Mode) (ops : Array Oper) (Q : Exit → Act → World → Prop) (L : List HeldC) : Nat → Array Bool → Act → World → Prop
  | 0, listed, a, w => Region.ready md ops listed = [] ∧ Q .normal a w
  | fuel + 1, listed, a, w =>
    (Region.ready md ops listed = [] → Q .normal a w) ∧
    ∀ i ∈ Region.ready md ops listed, wpOp P ops Q i (fun a' w' => (∀ x ∈ L, i ∉ x.1 → x.2 w → x.2 w') ∧ wpAnyH P md ops Q L fuel (listed.setIfInBounds i true) a' w') a w

theorem wpAny_of_H : ∀ (fuel : Nat) (listed : Array Bool) (a : Act) (w : World), wpAnyH P md ops Q [] fuel listed a w → wpAny P md ops Q fuel listed a w
  | 0, _, _, _, h => h
  | fuel + 1, _, _, _, h => ⟨h.1, fun i hi => wpOp_mono (fun a w h' => wpAny_of_H fuel _ a w h'.2) (h.2 i hi)⟩
theorem wpAnyH_weaken {x : HeldC} {L : List HeldC} : ∀ (fuel : Nat) (listed : Array Bool) (a : Act) (w : World), wpAnyH P md ops Q (x :: L) fuel listed a w → wpAnyH P md ops Q L fuel listed a w
  | 0, _, _, _, h => h
  | fuel + 1, _, _, _, h => ⟨h.1, fun i hi => wpOp_mono (fun a w h' => ⟨fun y hy hn => h'.1 y (List.mem_cons_of_mem _ hy) hn, wpAnyH_weaken fuel _ a w h'.2⟩) (h.2 i hi)⟩

/-- In this state, in every world of a class, the operation yields this value and leaves the world. -/
def YieldsC (P : Program) (ops : Array Oper) (C : World → Prop) (o : Oper) (v : Value) (a : Act) : Prop :=
  (Region.wanted o (yielded ops a.tmps) = true ∧ ∀ w, C w → (execOp a.eval o).run P w = .ok (.value v) w) ∨
  (Region.wanted o (yielded ops a.tmps) = false ∧ v = undef)
variable {C : World → Prop}
theorem YieldsC.wpOp {i : Nat} {o : Oper} {v : Value} {a : Act} (hi : ops[i]? = some o) (hy : YieldsC P ops C o v a)
    {K : Act → World → Prop} {w : World} (hw : C w) (h : K (a.put o.dst v) w) : wpOp P ops Q i K a w := by
  unfold Go.wpOp
  simp only [hi]
  rcases hy with ⟨hw', hv⟩ | ⟨hw', rfl⟩
  · simp only [hw', if_true, Oper.wp, hv w hw, Oper.upon]; exact .inl h
  · simp only [hw', Bool.false_eq_true, if_false]; exact h
theorem YieldsC.of_same {o : Oper} {v : Value} {a a' : Act} (hy : YieldsC P ops C o v a) (he : execOp a'.eval o = execOp a.eval o)
    (hw : Region.wanted o (yielded ops a'.tmps) = Region.wanted o (yielded ops a.tmps)) : YieldsC P ops C o v a' := by
  unfold YieldsC at *
  rw [he, hw]
  exact hy
theorem wpOp_putC {j : Nat} {oi oj : Oper} {v : Value} (hj : ops[j]? = some oj) (hap : oi.apart ops oj = true)
    (hsi : ∀ cs b, oi.op ≠ .select cs b) (hsj : ∀ cs b, oj.op ≠ .select cs b)
    (hQ : ∀ c a w, Q (.panic c) (a.put oi.dst v) w → Q (.panic c) a w) {K : Act → World → Prop} {a : Act} {w : World}
    (hy : YieldsC P ops C oi v a) (h : wpOp P ops Q j K (a.put oi.dst v) w) :
    wpOp P ops Q j (fun a' w' => YieldsC P ops C oi v a' ∧ K (a'.put oi.dst v) w') a w := by
  obtain ⟨h1, h2, h3⟩ := Oper.apart_spec hap
  have keep : ∀ (a : Act), YieldsC P ops C oi v a → ∀ u, YieldsC P ops C oi v (a.put oj.dst u) := fun a hy u =>
    hy.of_same (execOp_put oi hsi a oj.dst u h3) (wanted_put oi a oj.dst u h3)
  have keepD : ∀ d, YieldsC P ops C oi v { a with defers := d :: a.defers } := fun d => hy.of_same rfl rfl
  unfold wpOp at *
  simp only [hj] at *
  rw [wanted_put oj a oi.dst v h1] at h
  split
  · rename_i hw
    simp only [hw, if_true] at h
    rcases h with h | ⟨hasks, hlets⟩
    case inr => exact .inr ⟨by unfold Oper.asks at *; rw [execOp_put oj hsj a oi.dst v h1] at hasks; exact hasks, hlets⟩
    refine .inl ?_
    unfold Oper.wp at *
    rw [execOp_put oj hsj a oi.dst v h1] at h
    generalize (execOp a.eval oj).run P w = r at *
    cases r with
    | ok n w' =>
      cases n <;> simp only [Oper.upon] at h ⊢
      case value u => exact ⟨keep a hy u, by rw [← Act.put_comm a v u h2]; exact h⟩
      case skip => exact ⟨keep a hy _, by rw [← Act.put_comm a v undef h2]; exact h⟩
      case defer d =>
        refine ⟨keep _ (keepD d) _, ?_⟩
        rw [← Act.put_comm _ v undef h2, ← Act.put_defers]
        exact h
      case enter f args =>
        refine Calls.mono h fun e w'' he => ?_
        cases e with
        | returned u => exact ⟨keep a hy u, by rw [← Act.put_comm a v u h2]; exact he⟩
        | panicked c => exact hQ _ _ _ he
        | outgrown => exact he
      case row row args => exact Rows.mono h fun u w'' he => ⟨keep a hy u, by rw [← Act.put_comm a v u h2]; exact he⟩
    | halt x w' =>
      cases x <;> simp only [Oper.upon] at h ⊢
      case panic u => exact hQ _ _ _ h
  · rename_i hw
    simp only [hw] at h
    exact ⟨keep a hy _, by rw [← Act.put_comm a v undef h2]; exact h⟩

/-- What comes behind operation i: each of the list waits for i or for one of the list. -/
def depD (md : Region.Mode) (ops : Array Oper) (i : Nat) (D : List Nat) : Bool :=
  D.all fun j => match ops[j]? with
    | some oj => oj.after.toList.any fun e => Region.binds md e && (e.on == i || D.contains e.on)
    | none => false
def noneListed (listed : Array Bool) (D : List Nat) : Bool := D.all fun j => !listed.getD j true
theorem depD_spec {i : Nat} {D : List Nat} {listed : Array Bool} (h : depD md ops i D = true) (hnl : noneListed listed D = true) (hi : listed.getD i true = false)
    {j : Nat} (hj : j ∈ Region.ready md ops listed) : j ∉ D := by
  intro hD
  obtain ⟨_, oj, hoj, hall⟩ := mem_ready.1 hj
  simp only [depD, List.all_eq_true] at h
  have h1 := h j hD
  simp only [hoj, List.any_eq_true, Bool.and_eq_true, Bool.or_eq_true, beq_iff_eq, List.contains_iff_mem] at h1
  obtain ⟨e, he, hb, h2⟩ := h1
  have h3 := hall e (by simpa using he) hb
  have key : ∀ k, listed.getD k true = false → listed.getD k false = false := by
    intro k hk
    rcases Nat.lt_or_ge k listed.size with h' | h'
    · simp [h'] at hk ⊢; exact hk
    · simp [Array.getElem?_eq_none h'] at hk
  rcases h2 with h2 | h2
  · rw [h2, key i hi] at h3; cases h3
  · simp only [noneListed, List.all_eq_true, Bool.not_eq_true'] at hnl
    rw [key _ (hnl _ h2)] at h3; cases h3

theorem ready_set {j : Nat} {listed : Array Bool} {D : List Nat} (hnl : noneListed listed D = true) (hj : j ∉ D) : noneListed (listed.setIfInBounds j true) D = true := by
  simp only [noneListed, List.all_eq_true, Bool.not_eq_true'] at *
  intro k hk
  have hne : j ≠ k := by intro h; rw [h] at hj; exact hj hk
  rw [getD_set_ne true hne]
  exact hnl k hk
/-- **An operation that writes nothing is taken first**, in a class of worlds that each operation which may come ahead of it leaves. -/
theorem wpAnyH_first {i : Nat} {oi : Oper} {v : Value} {L : List HeldC} {D : List Nat} (hi : ops[i]? = some oi) (hsel : ∀ (j : Nat) (o : Oper) cs b, ops[j]? = some o → o.op ≠ .select cs b)
    (hQ : ∀ c a w, Q (.panic c) (a.put oi.dst v) w → Q (.panic c) a w) (hDc : depD md ops i D = true) :
    ∀ (fuel : Nat) (listed : Array Bool) (a : Act) (w : World), C w → noneListed listed D = true →
      (∀ j oj, ops[j]? = some oj → j ≠ i → listed.getD j true = false → (∀ e ∈ oj.after, Region.binds md e = true → e.on ≠ i) → oi.apart ops oj = true) →
      i ∈ Region.ready md ops listed → YieldsC P ops C oi v a →
      wpAnyH P md ops Q ((D, C) :: L) fuel (listed.setIfInBounds i true) (a.put oi.dst v) w → wpAnyH P md ops Q L (fuel + 1) listed a w := by
  intro fuel
  induction fuel with
  | zero =>
    intro listed a w hC _ _ hr hy H
    refine ⟨fun h => (by rw [h] at hr; cases hr), fun j hj => ?_⟩
    by_cases hji : j = i
    · subst hji
      exact hy.wpOp hi hC ⟨fun _ _ _ h => h, H⟩
    · have := ready_mono hj hji
      rw [H.1] at this
      cases this
  | succ fuel ih =>
    intro listed a w hC hnl hfree hr hy H
    refine ⟨fun h => (by rw [h] at hr; cases hr), fun j hj => ?_⟩
    by_cases hji : j = i
    · subst hji
      exact hy.wpOp hi hC ⟨fun _ _ _ h => h, wpAnyH_weaken _ _ _ _ H⟩
    · have h1 := H.2 j (ready_mono hj hji)
      obtain ⟨hjun, oj, hoj, hall⟩ := mem_ready.1 hj
      have hnot : ∀ e ∈ oj.after, Region.binds md e = true → e.on ≠ i := fun e he hb heq => by
        have h1 := hall e he hb
        have h0 := (mem_ready.1 hr).1
        rw [heq] at h1
        rcases Nat.lt_or_ge i listed.size with h' | h'
        · simp [h'] at h0 h1; rw [h0] at h1; cases h1
        · simp [Array.getElem?_eq_none h'] at h1
      have hjD : j ∉ D := depD_spec hDc hnl (mem_ready.1 hr).1 hj
      have h2 := wpOp_putC hoj (hfree j oj hoj hji hjun hnot) (fun cs b => hsel i oi cs b hi) (fun cs b => hsel j oj cs b hoj) hQ hy h1
      have hfree' : ∀ k ok, ops[k]? = some ok → k ≠ i → (listed.setIfInBounds j true).getD k true = false →
          (∀ e ∈ ok.after, Region.binds md e = true → e.on ≠ i) → oi.apart ops ok = true := fun k ok hk hki hun hno => by
        refine hfree k ok hk hki ?_ hno
        by_cases hjk : j = k
        · subst hjk; exact hjun
        · rw [getD_set_ne true hjk] at hun; exact hun
      refine wpOp_mono (fun a' w' h3 => ⟨fun x hx hn hxw => h3.2.1 x (List.mem_cons_of_mem _ hx) hn hxw, ?_⟩) h2
      have hC' : C w' := h3.2.1 (D, C) List.mem_cons_self hjD hC
      refine ih (listed.setIfInBounds j true) a' w' hC' (ready_set hnl hjD) hfree' (ready_mono hr (Ne.symm hji)) h3.1 ?_
      rw [Array.setIfInBounds_comm _ _ hji]
      exact h3.2.2
end
end Go.Proofs.YtkcjhabbgaaknaaGreat.E

/- The engine: the operations that leave the world alone, all of them. -/
namespace Go.Proofs.YtkcjhabbgaaknaaGreat.E

def NE.plus (a : NE) (n : Nat) : NE :=
  match n with
  | 0 => a
  | n + 1 => match a with
    | .c m => .c (m + (n + 1))
    | .add b (.c m) => .add b (.c (m + (n + 1)))
    | a => .add a (.c (n + 1))
theorem NE.plus_den (ρ : Env) (a : NE) (n : Nat) : (a.plus n).den ρ = a.den ρ + n := by
  unfold NE.plus
  split
  · rfl
  · split <;> simp only [NE.den]
    omega
def NE.scale (a : NE) (size : Nat) : NE :=
  match size with
  | 1 => a
  | size => match a with
    | .c n => .c (n * size)
    | a => .mul a (.c size)
theorem NE.scale_den (ρ : Env) (a : NE) (n : Nat) : (a.scale n).den ρ = a.den ρ * n := by
  unfold NE.scale
  split
  · simp
  · split <;> simp only [NE.den]
def NE.addN (a b : NE) : NE :=
  match b with
  | .c n => a.plus n
  | b => match a with
    | .c 0 => b
    | a => .add a b
theorem NE.addN_den (ρ : Env) (a b : NE) : (a.addN b).den ρ = a.den ρ + b.den ρ := by
  unfold NE.addN
  split
  · rw [NE.plus_den]; simp only [NE.den]
  · split <;> simp only [NE.den]
    omega

def widen (s d : IntKind) : Bool := (s.signed == d.signed && s.bits ≤ d.bits) || (!s.signed && d.signed && s.bits < d.bits)
def convSV (P : Program) (src dst : TypeId) (x : SV) : PR :=
  match P.underlying src, P.underlying dst, x with
  | some _, some (.int k), .int k' e => if widen k' k then some ([.rng k e], .int k e) else some ([], .int k (.wrap k e))
  | some _, some .string, .int _ e => some ([], .str (.rune e))
  | some _, some .string, .str s => some ([], .str s)
  | _, _, _ => none
def intE : SV → Option IE | .int _ e => some e | _ => none
/-- The bounds of a slice expression: what is needed, from where, to where ('none': as it stands). -/
def bnd (lo hi : Option SV) (len cap : NE) : Option (List BE × Option NE × Option NE) :=
  match lo, hi with
  | none, none => some ([], none, none)
  | some l, none => (intE l).map fun l => ([.le (.c 0) l, .le l (.ofN len)], some l.toN, none)
  | none, some h => (intE h).map fun h => ([.le (.c 0) h, .le h (.ofN cap)], none, some h.toN)
  | some l, some h => match intE l, intE h with
    | some l, some h => some ([.le (.c 0) h, .le h (.ofN cap), .le (.c 0) l, .le l h], some l.toN, some h.toN)
    | _, _ => none
def sliceSV (P : Program) (t : TypeId) (x : SV) (lo hi : Option SV) : PR :=
  match P.underlying t, x with
  | some .string, .str s => (bnd lo hi (.len s) (.len s)).map fun r =>
      (r.1, .str (match r.2 with | (none, none) => s | (some l, none) => .drop s l | (none, some h) => .take s h | (some l, some h) => .drop (.take s h) l))
  | some (.slice elem), .slice p n c => match P.info? elem with
    | some i => (bnd lo hi n c).map fun r =>
      (r.1, match r.2 with
        | (none, none) => .slice p n c
        | (none, some h) => .slice p h c
        | (some l, none) => .slice (.adv p l c i.size) (.sub n l) (.sub c l)
        | (some l, some h) => .slice (.adv p l c i.size) (.sub h l) (.sub c l))
    | none => none
  | _, _ => none
def isAggB (P : Program) (t : TypeId) : Bool := match P.underlying t with | some (.struct _) => true | some (.array _ _) => true | _ => false
def partSV (P : Program) (t : TypeId) (cs : List SV) (off : Nat) : Option SV :=
  match P.underlying t, P.info? t with
  | some _, some i => if isAggB P t then some (.agg ((cs.drop off).take i.size)) else cs[off]?
  | _, _ => none
def fieldSV (P : Program) (t : TypeId) (x : SV) (f : Nat) : Option SV :=
  match P.underlying t, x with
  | some (.struct fs), .agg cs => match fs[f]? with
    | some fd => partSV P fd.type cs fd.offset
    | none => none
  | _, _ => none
def fieldAddrSV (P : Program) (t : TypeId) (x : SV) (f : Nat) : Option SV :=
  match P.underlying t, x with
  | some (.struct fs), .ptr (.at b o) => match fs[f]? with
    | some fd => match P.info? fd.type with
      | some i => if i.size = 0 then none else some (.ptr (.at b (o.plus fd.offset)))
      | none => none
    | none => none
  | _, _ => none
def indexAddrSV (P : Program) (t : TypeId) (x i : SV) : PR :=
  match P.underlying t, x, i with
  | some (.array len elem), .ptr (.at b o), .int _ e => match P.info? elem with
    | some inf => some ([.le (.c 0) e, .lt e (.c len)], .ptr (.at b (o.addN (e.toN.scale inf.size))))
    | none => none
  | some (.slice elem), .slice (.at b o) n _, .int _ e => match P.info? elem with
    | some inf => some ([.le (.c 0) e, .lt e (.ofN n)], .ptr (.at b (o.addN (e.toN.scale inf.size))))
    | none => none
  | _, _, _ => none
def indexSV (P : Program) (t : TypeId) (x i : SV) : PR :=
  match P.underlying t, x, i with
  | some .string, .str s, .int _ e => some ([.le (.c 0) e, .lt e (.ofN (.len s))], .int .u8 (.byte s e.toN))
  | some (.array len elem), .agg cs, .int _ (.c n) => match P.info? elem with
    | some inf => if n < len then (partSV P elem cs (n * inf.size)).map fun v => ([], v) else none
    | none => none
  | _, _, _ => none
def lenSV (P : Program) (t : TypeId) (x : SV) : Option NE :=
  match P.underlying t, x with
  | some .string, .str s => some (.len s)
  | some (.array n _), _ => some (.c n)
  | some (.slice _), .slice _ n _ => some n
  | some (.map _ _), .nilMap => some (.c 0)
  | _, _ => none
def capSV (P : Program) (t : TypeId) (x : SV) : Option NE :=
  match P.underlying t, x with
  | some (.array n _), _ => some (.c n)
  | some (.slice _), .slice _ _ c => some c
  | _, _ => none
def minSV (isMax : Bool) : List SV → Option SV
  | [.int k a] => some (.int k a)
  | [.int k a, .int _ b] => some (.int k (if isMax then .max a b else .min a b))
  | _ => none
def fillS (place : Nat → Option (Nat × Nat)) (cells : List SV) : List (Nat × SV) → Option (List SV)
  | [] => some cells
  | (i, v) :: rest => match place i with
    | none => none
    | some (off, size) => if v.cells.length ≠ size || off + v.cells.length > cells.length then none
      else fillS place (cells.take off ++ v.cells ++ cells.drop (off + v.cells.length)) rest
def zeroCells (P : Program) (t : TypeId) : Option (List SV) :=
  match (P.info? t).bind (·.zero) with
  | some z => ofValues z.cells.toList
  | none => none
def buildSV (P : Program) (t : TypeId) (parts : List (Nat × SV)) : Option SV :=
  match zeroCells P t, P.underlying t with
  | some z, some (.struct fs) =>
    match fs.toList.mapM fun f => (P.info? f.type).map fun i => (f.offset, i.size) with
    | some pl => (fillS (pl[·]?) z parts).map .agg
    | none => none
  | some z, some (.array _ e) => match P.info? e with
    | some i => (fillS (fun k => some (k * i.size, i.size)) z parts).map .agg
    | none => none
  | _, _ => none
def nilCheckSV : SV → Option SV
  | .ptr (.at b o) => some (.ptr (.at b o))
  | .fn (.func f) a c => some (.fn (.func f) a c)
  | .iface t x => some (.iface t x)
  | _ => none
def unSV (op : UnOp) (x : SV) (keep : Bool) : PR :=
  match op, x with
  | .not, .bool b => some ([], .bool (.not b))
  | .neg, .int k e => arith k (.sub (.c 0) e) keep
  | _, _ => none
def isIfaceD : TypeDesc → Bool | .interface _ => true | _ => false
def lookL (lk : Operand → Option SV) : List Operand → Option (List SV)
  | [] => some []
  | x :: l => match lk x, lookL lk l with
    | some v, some r => some (v :: r)
    | _, _ => none
def lookO (lk : Operand → Option SV) : Option Operand → Option (Option SV)
  | none => some none
  | some x => (lk x).map some
def noNeed (x : Option SV) : PR := x.map fun v => ([], v)

/-- An operation that leaves the world alone: what it needs, and its value. -/
def pureOp (P : Program) (lk : Operand → Option SV) (keep : Bool) : Op → PR
  | .move x | .assign x => noNeed (lk x)
  | .binOp op t x y _ => match lk x, lk y with
    | some a, some b => binSV P op t a b (isK x || isK y) keep
    | _, _ => none
  | .unOp op _ x => (lk x).bind fun a => unSV op a keep
  | .convert s d x => (lk x).bind fun a => convSV P s d a
  | .makeInterface t x => match lk x, P.underlying t with
    | some a, some d => if isIfaceD d then none else some ([], .iface t a)
    | _, _ => none
  | .makeFunc fn a c => match lookL lk a.toList, lookL lk c.toList with
    | some a, some c => some ([], .fn fn a c)
    | _, _ => none
  | .slice t x lo hi none => match lk x, lookO lk lo, lookO lk hi with
    | some a, some lo, some hi => sliceSV P t a lo hi
    | _, _, _ => none
  | .fieldAddr t x f => (lk x).bind fun a => noNeed (fieldAddrSV P t a f)
  | .field t x f => (lk x).bind fun a => noNeed (fieldSV P t a f)
  | .indexAddr t x i => match lk x, lk i with
    | some a, some b => indexAddrSV P t a b
    | _, _ => none
  | .index t x i => match lk x, lk i with
    | some a, some b => indexSV P t a b
    | _, _ => none
  | .extract x i => match lk x with
    | some (.tup vs) => noNeed vs[i]?
    | _ => none
  | .nilCheck x => (lk x).bind fun a => noNeed (nilCheckSV a)
  | .build t parts => match lookL lk (parts.toList.map (·.2)) with
    | some vs => noNeed (buildSV P t ((parts.toList.map (·.1)).zip vs))
    | none => none
  | .call { callee := .builtin .len, args, argTypes } => match lookL lk args.toList, argTypes[0]? with
    | some (x :: _), some t => (lenSV P t x).map fun n => ([], .int .i64 (.ofN n))
    | _, _ => none
  | .call { callee := .builtin .cap, args, argTypes } => match lookL lk args.toList, argTypes[0]? with
    | some (x :: _), some t => (capSV P t x).map fun n => ([], .int .i64 (.ofN n))
    | _, _ => none
  | .call { callee := .builtin .min, args, .. } => match lookL lk args.toList with
    | some l => noNeed (minSV false l)
    | _ => none
  | .call { callee := .builtin .max, args, .. } => match lookL lk args.toList with
    | some l => noNeed (minSV true l)
    | _ => none
  | _ => none
end Go.Proofs.YtkcjhabbgaaknaaGreat.E

/- The engine: the soundness of what leaves the world alone. -/
namespace Go.Proofs.YtkcjhabbgaaknaaGreat.E
section
variable {P : Program} {ρ : Env}

theorem bs_utf8 (n : Int) : bs (utf8 n) = Utf8.encode n := rfl
theorem convSV_sound {s d : TypeId} {x : SV} {r : List BE × SV} (h : convSV P s d x = some r) (hn : ∀ p ∈ r.1, p.prop ρ) : Runs P (convert s d (x.den ρ)) (r.2.den ρ) := by
  intro w
  unfold convSV at h
  split at h
  · rename_i d1 k k' e h1 h2
    have e1 : (convert s d (SV.den ρ (.int k' e))).run P w = .ok (.int k (k.wrap (e.den ρ))) w := by
      unfold convert; rw [und h1, und h2]; simp only [SV.den]; rfl
    rw [e1]
    split at h
    · injection h with h; subst h
      have := hn (.rng k e) (by simp)
      simp only [SV.den, wrap_of_in (show inK k (e.den ρ) from this)]
    · injection h with h; subst h; simp only [SV.den, IE.den]
  · rename_i d1 k' e h1 h2
    injection h with h; subst h
    unfold convert; rw [und h1, und h2]
    simp only [SV.den, SE.den, bs_utf8]; rfl
  · rename_i d1 e h1 h2
    injection h with h; subst h
    unfold convert; rw [und h1, und h2]; simp only [SV.den]; rfl
  · cases h

theorem intE_sound {x : SV} {e : IE} (h : intE x = some e) : ∃ k, x = .int k e := by
  cases x <;> simp [intE] at h; exact ⟨_, by rw [h]⟩
theorem sliceBound_ok {k : IntKind} {x : Int} {y : Nat} {code : BoundsCode} (h1 : 0 ≤ x) (h2 : x ≤ y) (w : World) : (Instr.sliceBound (.int k x) y code).run P w = .ok x.toNat w := by
  unfold Instr.sliceBound
  simp [asIntOf, h1, h2]
theorem bnd_sound {lo hi : Option SV} {len cap : NE} {r : List BE × Option NE × Option NE} (h : bnd lo hi len cap = some r) (hn : ∀ p ∈ r.1, p.prop ρ) (b : Bool) (w : World) :
    (Instr.sliceBounds b (len.den ρ) (cap.den ρ) (lo.map (SV.den ρ)) (hi.map (SV.den ρ)) none).run P w =
      .ok ((r.2.1.map (NE.den ρ)).getD 0, (r.2.2.map (NE.den ρ)).getD (len.den ρ), cap.den ρ) w := by
  unfold bnd at h
  split at h
  · injection h with h; subst h; simp [Instr.sliceBounds]
  · rename_i l
    cases hl : intE l with
    | none => simp [hl] at h
    | some e =>
      simp [hl] at h; subst h
      obtain ⟨k, rfl⟩ := intE_sound hl
      have h1 := hn (.le (.c 0) e) (by simp)
      have h2 := hn (.le e (.ofN len)) (by simp)
      simp only [BE.prop, IE.den] at h1 h2
      simp [Instr.sliceBounds, SV.den, sliceBound_ok (P := P) h1 h2, IE.toN_sound]
  · rename_i l
    cases hl : intE l with
    | none => simp [hl] at h
    | some e =>
      simp [hl] at h; subst h
      obtain ⟨k, rfl⟩ := intE_sound hl
      have h1 := hn (.le (.c 0) e) (by simp)
      have h2 := hn (.le e (.ofN cap)) (by simp)
      simp only [BE.prop, IE.den] at h1 h2
      simp [Instr.sliceBounds, SV.den, sliceBound_ok (P := P) h1 h2, IE.toN_sound]
  · rename_i l hh
    split at h
    · rename_i e1 e2 hl1 hl2
      injection h with h; subst h
      obtain ⟨k1, rfl⟩ := intE_sound hl1
      obtain ⟨k2, rfl⟩ := intE_sound hl2
      have h1 := hn (.le (.c 0) e2) (by simp)
      have h2 := hn (.le e2 (.ofN cap)) (by simp)
      have h3 := hn (.le (.c 0) e1) (by simp)
      have h4 := hn (.le e1 e2) (by simp)
      simp only [BE.prop, IE.den] at h1 h2 h3 h4
      have h5 : e1.den ρ ≤ ((e2.den ρ).toNat : Int) := by omega
      simp [Instr.sliceBounds, SV.den, sliceBound_ok (P := P) h1 h2, sliceBound_ok (P := P) h3 h5, IE.toN_sound]
    · cases h
theorem sizeOf_run {t : TypeId} {i : TypeInfo} (h : P.info? t = some i) (w : World) : (sizeOf t).run P w = .ok i.size w := by
  have : (typeInfo t).run P w = .ok i w := by simp [typeInfo, h]
  unfold sizeOf
  rw [Sem.run_bind, this]; rfl
theorem sliceSV_sound {t : TypeId} {x : SV} {lo hi : Option SV} {r : List BE × SV} (h : sliceSV P t x lo hi = some r) (hn : ∀ p ∈ r.1, p.prop ρ) :
    Runs P (Instr.sliceAt t (x.den ρ) (lo.map (SV.den ρ)) (hi.map (SV.den ρ)) none) (r.2.den ρ) := by
  intro w
  unfold sliceSV at h
  split at h
  · rename_i s hu
    cases hb : bnd lo hi (.len s) (.len s) with
    | none => simp [hb] at h
    | some q =>
      simp [hb] at h; subst h
      have hb' := bnd_sound (P := P) hb hn false w
      simp only [NE.den] at hb'
      unfold Instr.sliceAt; rw [und hu]
      show (Instr.slice t _ _ _ none).run P w = _
      unfold Instr.slice; rw [und hu]
      simp only [SV.den, Option.isSome_none, Bool.false_eq_true, if_false, bs_size]
      rw [Sem.run_bind, hb']
      obtain ⟨_, l, u⟩ := q
      cases l <;> cases u <;> simp [SE.den, bs_extract]
  · rename_i elem p n c hu
    cases hi' : P.info? elem with
    | none => simp [hi'] at h
    | some i =>
      simp only [hi'] at h
      cases hb : bnd lo hi n c with
      | none => simp [hb] at h
      | some q =>
        simp [hb] at h; subst h
        have hb' := bnd_sound (P := P) hb hn true w
        unfold Instr.sliceAt; rw [und hu]
        show (Instr.slice t _ _ _ none).run P w = _
        unfold Instr.slice; rw [und hu]
        simp only [SV.den]
        rw [Sem.run_bind, hb']
        simp only [Result.andThen]
        rw [Sem.run_bind, sizeOf_run hi']
        obtain ⟨_, l, u⟩ := q
        have h0 : ∀ p : Option Addr, p.map (·.add 0) = p := by intro p; cases p <;> simp [Addr.add]
        cases l <;> cases u <;> simp [SV.den, NE.den, PE.den, advp, h0]
  · cases h
end
end Go.Proofs.YtkcjhabbgaaknaaGreat.E

/- The engine: the soundness of what leaves the world alone, second part. -/
namespace Go.Proofs.YtkcjhabbgaaknaaGreat.E
section
variable {P : Program} {ρ : Env}

theorem isAgg_run {t : TypeId} {d : TypeDesc} (h : P.underlying t = some d) (w : World) : (isAgg t).run P w = .ok (isAggB P t) w := by
  unfold isAgg isAggB
  rw [und h, h]
  cases d <;> rfl
theorem part_sound {t : TypeId} {cs : List SV} {off : Nat} {x : SV} (h : partSV P t cs off = some x) (w : World) :
    (part t (cs.map (SV.den ρ)).toArray off).run P w = .ok (x.den ρ) w := by
  unfold partSV at h
  split at h
  · rename_i d i hu hi
    unfold part
    rw [Sem.run_bind, isAgg_run hu]
    simp only [Result.andThen]
    split at h
    · rename_i hb
      injection h with h; subst h
      simp only [hb, if_true]
      rw [Sem.run_bind, sizeOf_run hi]
      simp [SV.den, List.extract_eq_take_drop]
    · rename_i hb
      simp only [hb]
      simp [h]
  · cases h
theorem fieldSV_sound {t : TypeId} {x y : SV} {f : Nat} (h : fieldSV P t x f = some y) : Runs P (Instr.field t (x.den ρ) f) (y.den ρ) := by
  intro w
  unfold fieldSV at h
  split at h
  · rename_i fs cs hu
    split at h
    · rename_i fd hf
      unfold Instr.field
      rw [und hu]
      simp only [hf, SV.den]
      rw [Sem.run_bind]
      simp only [asAgg, Sem.run_pure, Result.andThen]
      exact part_sound h w
    · cases h
  · cases h
theorem fieldAddrSV_sound {t : TypeId} {x y : SV} {f : Nat} (h : fieldAddrSV P t x f = some y) : Runs P (Instr.fieldAt t (x.den ρ) f) (y.den ρ) := by
  intro w
  unfold fieldAddrSV at h
  split at h
  · rename_i fs b o hu
    split at h
    · rename_i fd hf
      split at h
      · rename_i i hi
        split at h
        · cases h
        · rename_i hz
          injection h with h; subst h
          unfold Instr.fieldAt
          rw [und hu]
          simp only [hf, SV.den, PE.den, Instr.sureAddr]
          simp only [pure_bind]
          unfold fieldPlace
          simp only [Sem.run_bind, sizeOf_run hi, Result.andThen, hz, if_false, Sem.run_pure]
          simp only [NE.plus_den, Addr.add]
          split <;> simp_all
      · cases h
    · cases h
  · cases h
theorem addr_add (b o n : Nat) : Addr.add ⟨b, o, none⟩ n = ⟨b, o + n, none⟩ := by
  unfold Addr.add; split <;> simp_all
theorem indexAddrSV_sound {t : TypeId} {x i : SV} {r : List BE × SV} (h : indexAddrSV P t x i = some r) (hn : ∀ p ∈ r.1, p.prop ρ) :
    Runs P (Instr.indexAt t (x.den ρ) (i.den ρ)) (r.2.den ρ) := by
  intro w
  unfold indexAddrSV at h
  split at h
  · rename_i len elem b o k e hu
    split at h
    · rename_i inf hi
      injection h with h; subst h
      have h1 := hn (.le (.c 0) e) (by simp)
      have h2 := hn (.lt e (.c len)) (by simp)
      simp only [BE.prop, IE.den] at h1 h2
      have h1' : (0 : Int) ≤ e.den ρ := by simpa using h1
      unfold Instr.indexAt
      simp only [SV.den, asIntOf, pure_bind]
      rw [und hu]
      simp only [PE.den, Instr.sureAddr, pure_bind]
      rw [und hu]
      simp only [h1', h2, and_self, if_true, Sem.run_bind, sizeOf_run hi, Result.andThen, Sem.run_pure, addr_add, NE.addN_den, NE.scale_den, IE.toN_sound]
    · cases h
  · rename_i elem b o n c k e hu
    split at h
    · rename_i inf hi
      injection h with h; subst h
      have h1 := hn (.le (.c 0) e) (by simp)
      have h2 := hn (.lt e (.ofN n)) (by simp)
      simp only [BE.prop, IE.den] at h1 h2
      have h1' : (0 : Int) ≤ e.den ρ := by simpa using h1
      unfold Instr.indexAt
      simp only [SV.den, asIntOf, pure_bind]
      rw [und hu]
      simp only [PE.den]
      rw [und hu]
      simp only [h1', h2, and_self, if_true, Sem.run_bind, sizeOf_run hi, Result.andThen, Sem.run_pure, addr_add, NE.addN_den, NE.scale_den, IE.toN_sound]
    · cases h
  · cases h
theorem indexSV_sound {t : TypeId} {x i : SV} {r : List BE × SV} (h : indexSV P t x i = some r) (hn : ∀ p ∈ r.1, p.prop ρ) :
    Runs P (Instr.index t (x.den ρ) (i.den ρ)) (r.2.den ρ) := by
  intro w
  unfold indexSV at h
  split at h
  · rename_i s k e hu
    injection h with h; subst h
    have h1 := hn (.le (.c 0) e) (by simp)
    have h2 := hn (.lt e (.ofN (.len s))) (by simp)
    simp only [BE.prop, IE.den, NE.den] at h1 h2
    have h1' : (0 : Int) ≤ e.den ρ := by simpa using h1
    unfold Instr.index
    simp only [SV.den, asIntOf, pure_bind]
    rw [und hu]
    have h3 : (e.den ρ).toNat < (s.den ρ).length := by omega
    simp only [h1', if_true, bs_get? _ _ h3, Sem.run_pure, IE.den, IE.toN_sound]
  · rename_i len elem cs k n hu
    split at h
    · rename_i inf hi
      split at h
      · rename_i hlt
        cases hp : partSV P elem cs (n * inf.size) with
        | none => simp [hp] at h
        | some v =>
          simp [hp] at h; subst h
          unfold Instr.index
          simp only [SV.den, asIntOf, pure_bind, IE.den]
          rw [und hu]
          have hlt' : (0 : Int) ≤ (n : Int) ∧ (n : Int) < len := by omega
          simp only [hlt', and_self, if_true, Sem.run_bind, sizeOf_run hi, Result.andThen, Int.toNat_natCast]
          exact part_sound hp w
      · cases h
    · cases h
  · cases h
theorem lenSV_sound {t : TypeId} {x : SV} {n : NE} {ats : Array TypeId} {args : Array Value} (h : lenSV P t x = some n) (ha : ats[0]? = some t) (hx : args[0]? = some (x.den ρ)) (ty : TypeId) :
    Runs P (Builtin.len_ ats ty args) (.int .i64 ((n.den ρ : Nat) : Int)) := by
  intro w
  unfold Builtin.len_
  simp only [ha, hx]
  unfold lenSV at h
  split at h
  · rename_i s hu; injection h with h; subst h; rw [und hu]; simp [SV.den, goInt, NE.den, bs_size]
  · rename_i hu; injection h with h; subst h; rw [und hu]; simp [goInt, NE.den]
  · rename_i hu; injection h with h; subst h; rw [und hu]; simp [SV.den, goInt]
  · rename_i hu; injection h with h; subst h; rw [und hu]; simp [SV.den, goInt, NE.den]
  · cases h
theorem capSV_sound {t : TypeId} {x : SV} {n : NE} {ats : Array TypeId} {args : Array Value} (h : capSV P t x = some n) (ha : ats[0]? = some t) (hx : args[0]? = some (x.den ρ)) (ty : TypeId) :
    Runs P (Builtin.cap_ ats ty args) (.int .i64 ((n.den ρ : Nat) : Int)) := by
  intro w
  unfold Builtin.cap_
  simp only [ha, hx]
  unfold capSV at h
  split at h
  · rename_i hu; injection h with h; subst h; rw [und hu]; simp [goInt, NE.den]
  · rename_i hu; injection h with h; subst h; rw [und hu]; simp [SV.den, goInt]
  · cases h
theorem minSV_sound {l : List SV} {y : SV} (m : Bool) (h : minSV m l = some y) (ats : Array TypeId) (ty : TypeId) :
    Runs P (if m then Builtin.max_ ats ty (l.map (SV.den ρ)).toArray else Builtin.min_ ats ty (l.map (SV.den ρ)).toArray) (y.den ρ) := by
  intro w
  unfold minSV at h
  split at h
  · injection h with h; subst h
    cases m <;> simp [Builtin.max_, Builtin.min_, SV.den]
  · injection h with h; subst h
    cases m
    · simp [Builtin.min_, Builtin.min2, SV.den, IE.den]; omega
    · simp [Builtin.max_, Builtin.max2, SV.den, IE.den]; omega
  · cases h
theorem nilCheckSV_sound {x y : SV} (h : nilCheckSV x = some y) : x = y := by
  unfold nilCheckSV at h
  split at h <;> (first | exact Option.some.inj h | cases h)
theorem unSV_sound {op : UnOp} {x : SV} {keep : Bool} {r : List BE × SV} (h : unSV op x keep = some r) (hn : ∀ p ∈ r.1, p.prop ρ) : Runs P (Op.unary op (x.den ρ)) (r.2.den ρ) := by
  intro w
  unfold unSV at h
  split at h
  · injection h with h; subst h; simp [Op.unary, SV.den, BE.den]
  · have := arith_sound h hn
    simp only [IE.den] at this
    simp [Op.unary, Op.intArith, SV.den] at this ⊢
    exact this
  · cases h
theorem fill_fold (off : Nat) : ∀ (vs : List Value) (k : Nat) (cs : List Value), off + k + vs.length ≤ cs.length →
    ((vs.zipIdx k).foldl (fun (cs : Array Value) (x : Value × Nat) => cs.setIfInBounds (off + x.2) x.1) cs.toArray) = (cs.take (off + k) ++ vs ++ cs.drop (off + k + vs.length)).toArray
  | [], k, cs, h => by simp
  | v :: vs, k, cs, h => by
    simp only [List.zipIdx_cons, List.foldl_cons, List.setIfInBounds_toArray]
    simp only [List.length_cons] at h
    rw [fill_fold off vs (k + 1) _ (by simp; omega)]
    congr 1
    have hk : off + k < cs.length := by omega
    rw [show off + (k + 1) = off + k + 1 from by omega]
    rw [List.take_succ_eq_append_getElem (by simpa using hk)]
    rw [List.take_set_of_le (Nat.le_refl _)]
    rw [List.drop_set_of_lt (by omega)]
    simp only [List.getElem_set_self, List.append_assoc, List.nil_append, List.cons_append, List.length_cons]
    rw [show off + k + 1 + vs.length = off + k + (vs.length + 1) from by omega]
theorem fillS_sound (place : Nat → Option (Nat × Nat)) : ∀ (parts : List (Nat × SV)) (cells r : List SV), fillS place cells parts = some r →
    Instr.fill place (cells.map (SV.den ρ)).toArray (parts.map fun p => (p.1, p.2.den ρ)) = some (r.map (SV.den ρ)).toArray
  | [], cells, r, h => by simp only [fillS] at h; injection h with h; subst h; rfl
  | (i, v) :: rest, cells, r, h => by
    unfold fillS at h
    simp only [List.map_cons]
    unfold Instr.fill
    cases hp : place i with
    | none => simp [hp] at h
    | some q =>
      obtain ⟨off, size⟩ := q
      simp only [hp] at h ⊢
      split at h
      · cases h
      · rename_i hc
        have hlen : (v.den ρ).cells.size = v.cells.length := by rw [SV.cells_den]; simp
        have hc' : ¬ ((v.den ρ).cells.size ≠ size || decide (off + (v.den ρ).cells.size > (cells.map (SV.den ρ)).toArray.size)) = true := by
          rw [hlen]; simpa using hc
        rw [if_neg hc']
        have e : (Array.foldl (fun (cs : Array Value) (x : Value × Nat) => cs.setIfInBounds (off + x.2) x.1) (cells.map (SV.den ρ)).toArray ((v.den ρ).cells.zipIdx)) =
            ((cells.take off ++ v.cells ++ cells.drop (off + v.cells.length)).map (SV.den ρ)).toArray := by
          rw [SV.cells_den, ← Array.foldl_toList, Array.toList_zipIdx]
          simp only []
          rw [fill_fold off _ 0 _ (by simp at hc ⊢; omega)]
          simp [List.map_take, List.map_drop]
        have h2 := fillS_sound place rest _ r h
        rw [← e] at h2
        exact h2
theorem zeroValue_run {t : TypeId} {v : Value} (h : (P.info? t).bind (·.zero) = some v) (w : World) : (zeroValue t).run P w = .ok v w := by
  cases hi : P.info? t with
  | none => simp [hi] at h
  | some i =>
    simp [hi] at h
    have : (typeInfo t).run P w = .ok i w := by simp [typeInfo, hi]
    unfold zeroValue
    rw [Sem.run_bind, this]
    simp [h]
theorem zeroCells_sound {t : TypeId} {z : List SV} (h : zeroCells P t = some z) : ∃ v, (P.info? t).bind (·.zero) = some v ∧ v.cells = (z.map (SV.den ρ)).toArray := by
  unfold zeroCells at h
  split at h
  · rename_i v hv
    refine ⟨v, hv, ?_⟩
    have := ofValues_sound ρ _ _ h
    rw [this]
  · cases h
theorem mapM_places {w : World} : ∀ (l : List Field) (pl : List (Nat × Nat)), l.mapM (fun f => (P.info? f.type).map fun i => (f.offset, i.size)) = some pl →
    (l.mapM (fun f => (do pure (f.offset, ← sizeOf f.type) : Sem (Nat × Nat)))).run P w = .ok pl w
  | [], pl, h => by simp at h; subst h; rfl
  | f :: l, pl, h => by
    simp only [List.mapM_cons] at h ⊢
    cases hi : P.info? f.type with
    | none => simp [hi] at h
    | some i =>
      simp only [hi, Option.map_some] at h
      cases hr : l.mapM (fun f => (P.info? f.type).map fun i => (f.offset, i.size)) with
      | none => rw [hr] at h; simp at h
      | some r =>
        rw [hr] at h
        simp at h; subst h
        rw [Sem.run_bind]
        simp only [Sem.run_bind, sizeOf_run hi, Result.andThen, Sem.run_pure, mapM_places l r hr]
theorem buildSV_sound {t : TypeId} {parts : List (Nat × SV)} {y : SV} (h : buildSV P t parts = some y) :
    Runs P (Instr.build t (parts.map fun p => (p.1, p.2.den ρ)).toArray) (y.den ρ) := by
  intro w
  unfold buildSV at h
  split at h
  · rename_i z fs hz hu
    split at h
    · rename_i pl hpl
      cases hf : fillS (pl[·]?) z parts with
      | none => simp [hf] at h
      | some r =>
        simp [hf] at h; subst h
        obtain ⟨v, hv, hc⟩ := zeroCells_sound (ρ := ρ) hz
        unfold Instr.build
        rw [Sem.run_bind, zeroValue_run hv]
        simp only [Result.andThen]
        rw [und hu]
        simp only []
        rw [Sem.run_bind]
        have e1 : (fs.mapM (fun f => (do pure (f.offset, ← sizeOf f.type) : Sem (Nat × Nat)))).run P w = .ok pl.toArray w := by
          have := mapM_places (P := P) (w := w) fs.toList pl hpl
          rw [← Array.toArray_toList (xs := fs), List.mapM_toArray]
          simp only [map_eq_pure_bind, Sem.run_bind, this, Result.andThen, Sem.run_pure]
        rw [e1]
        have e2 := fillS_sound (ρ := ρ) (pl[·]?) parts z r hf
        simp only [Result.andThen]
        have e3 : (fun x => (pl.toArray)[x]? : Nat → Option (Nat × Nat)) = (fun x => pl[x]?) := by funext x; simp
        simp only [e3, hc, e2, SV.den]
        rfl
    · cases h
  · rename_i z len e hz hu
    split at h
    · rename_i i hi
      cases hf : fillS (fun k => some (k * i.size, i.size)) z parts with
      | none => simp [hf] at h
      | some r =>
        simp [hf] at h; subst h
        obtain ⟨v, hv, hc⟩ := zeroCells_sound (ρ := ρ) hz
        unfold Instr.build
        rw [Sem.run_bind, zeroValue_run hv]
        simp only [Result.andThen]
        rw [und hu]
        simp only []
        rw [Sem.run_bind, sizeOf_run hi]
        have e2 := fillS_sound (ρ := ρ) (fun k => some (k * i.size, i.size)) parts z r hf
        simp only [Result.andThen, hc, e2, SV.den]
        rfl
    · cases h
  · cases h
end
end Go.Proofs.YtkcjhabbgaaknaaGreat.E

/- The engine: an operation that leaves the world alone, whichever it is: its value. -/
namespace Go.Proofs.YtkcjhabbgaaknaaGreat.E
section
variable {P : Program} {ρ : Env} {lk : Operand → Option SV} {a : Act}

theorem lookL_sound (hl : ∀ y v, lk y = some v → a.eval y = v.den ρ) : ∀ (l : List Operand) (r : List SV), lookL lk l = some r → l.map a.eval = r.map (SV.den ρ)
  | [], r, h => by unfold lookL at h; injection h with h; subst h; rfl
  | x :: l, r, h => by
    unfold lookL at h
    split at h
    · rename_i v r' h1 h2
      injection h with h; subst h
      simp only [List.map_cons, hl _ _ h1, lookL_sound hl l r' h2]
    · cases h
theorem lookL_arr (hl : ∀ y v, lk y = some v → a.eval y = v.den ρ) {l : Array Operand} {r : List SV} (h : lookL lk l.toList = some r) : l.map a.eval = (r.map (SV.den ρ)).toArray := by
  rw [← lookL_sound hl _ _ h, ← List.map_toArray, Array.toArray_toList]
theorem lookO_sound (hl : ∀ y v, lk y = some v → a.eval y = v.den ρ) {x : Option Operand} {r : Option SV} (h : lookO lk x = some r) : x.map a.eval = r.map (SV.den ρ) := by
  cases x with
  | none => simp [lookO] at h; subst h; rfl
  | some x =>
    simp only [lookO] at h
    cases hx : lk x with
    | none => simp [hx] at h
    | some v => simp [hx] at h; subst h; simp [hl _ _ hx]
theorem noNeed_some {x : Option SV} {r : List BE × SV} (h : noNeed x = some r) : x = some r.2 := by
  cases x with
  | none => simp [noNeed] at h
  | some v => simp [noNeed] at h; subst h; rfl
theorem valM {m : Sem Value} {v : Value} {w : World} (h : m.run P w = .ok v w) : (do pure (.value (← m)) : Sem Next).run P w = .ok (.value v) w := by
  rw [Sem.run_bind, h]; rfl
/-- Neither a number nor a text. -/
def plainV : Value → Bool
  | .int _ _ | .float _ _ | .complex _ _ _ | .string _ => false
  | _ => true
theorem binOp_eqs (t : TypeId) {x y : Value} (h : plainV x = true) :
    binOp .eql t x y = (do pure (.bool (← Op.equal t x y)) : Sem Value) ∧ binOp .neq t x y = (do pure (.bool (!(← Op.equal t x y))) : Sem Value) := by
  cases x <;> simp only [plainV] at h <;> (first | cases h | skip) <;> cases y <;> exact ⟨rfl, rfl⟩
theorem plain_clo : ∀ o, plainV (cloVal o) = true := by intro o; cases o <;> rfl
theorem plain_ifc : ∀ o, plainV (ifcVal o) = true := by intro o; cases o <;> rfl
theorem eqSV_shape {t : TypeId} {x y : SV} {k : Bool} {c : BE} (h : eqSV P t x y k = some c) : plainV (x.den ρ) = true := by
  unfold eqSV at h
  split at h
  all_goals (first | (cases h; done) | skip)
  all_goals simp only [SV.den] <;> (first | rfl | skip)
  · exact plain_clo _
  · exact plain_ifc _
theorem binSV_sound {op : BinOp} {t : TypeId} {x y : SV} {ox oy : Operand} {keep : Bool} {r : List BE × SV} (h : binSV P op t x y (isK ox || isK oy) keep = some r) (hn : ∀ p ∈ r.1, p.prop ρ) (w : World) :
    (do eqGuard op t ox oy (x.den ρ) (y.den ρ); binOp op t (x.den ρ) (y.den ρ) : Sem Value).run P w = .ok (r.2.den ρ) w := by
  unfold binSV at h
  split at h
  · rename_i k a k' b
    simp only [SV.den, eqGuard_ints, pure_bind]
    cases ha : arith k (.shl a (shiftBy k b).2) keep with
    | none => simp [ha] at h
    | some q =>
      simp [ha] at h; subst h
      have h1 := arith_sound (ρ := ρ) ha (fun p hp => hn p (by simp [hp]))
      obtain ⟨h2, h3⟩ := shiftBy_sound (ρ := ρ) (k := k) (b := b) (fun p hp => hn p (by simp [hp]))
      simp only [IE.den, h3] at h1
      rw [binOp_shl]
      simp [Op.shift, h2, h1]
  · rename_i k a k' b
    injection h with h; subst h
    simp only [SV.den, eqGuard_ints, pure_bind]
    obtain ⟨h2, h3⟩ := shiftBy_sound (ρ := ρ) (k := k) (b := b) hn
    rw [binOp_shr]
    simp [Op.shift, h2, IE.den, h3]
  · rename_i k a k' b _ _
    split at h
    · rename_i hk; subst hk
      simp only [SV.den, eqGuard_ints, pure_bind]
      exact binI_sound h hn t w
    · cases h
  · rename_i a b
    injection h with h; subst h
    simp only [SV.den, eqGuard_strs, pure_bind]
    have h1 := hn _ (List.mem_cons_self)
    simp only [BE.prop, IE.den, NE.den] at h1
    have h2 : ¬ (((bs (a.den ρ)).size + (bs (b.den ρ)).size : Nat) : Int) > IntKind.i64.max := by
      rw [bs_size, bs_size]; simp [IntKind.max, IntKind.signed, IntKind.bits]; omega
    simp only [binOp, Op.stringOp, h2, if_false, Sem.run_pure, bs_append, SE.den]
  · rename_i a b _
    cases hc : cmpS op a b with
    | none => simp [hc] at h
    | some c =>
      simp [hc] at h; subst h
      simp only [SV.den, eqGuard_strs, pure_bind]
      have : binOp op t (.string (bs (a.den ρ))) (.string (bs (b.den ρ))) = Op.stringOp op (bs (a.den ρ)) (bs (b.den ρ)) := by
        cases op <;> simp only [cmpS] at hc <;> (first | cases hc | skip) <;> simp [binOp]
      rw [this, cmpS_sound hc]; rfl
  · obtain ⟨c, hc, rfl⟩ := Option.map_eq_some_iff.1 h
    obtain ⟨h1, h2⟩ := eqSV_sound (ρ := ρ) hc .eql w
    rw [Sem.run_bind, h1]
    simp only [Result.andThen]
    rw [(binOp_eqs t (eqSV_shape (ρ := ρ) hc)).1, Sem.run_bind, h2]
    simp only [Result.andThen, Sem.run_pure, SV.den]
  · obtain ⟨c, hc, rfl⟩ := Option.map_eq_some_iff.1 h
    obtain ⟨h1, h2⟩ := eqSV_sound (ρ := ρ) hc .neq w
    rw [Sem.run_bind, h1]
    simp only [Result.andThen]
    rw [(binOp_eqs t (eqSV_shape (ρ := ρ) hc)).2, Sem.run_bind, h2]
    simp only [Result.andThen, Sem.run_pure, SV.den, BE.den]
  · cases h
theorem pureOp_sound {keep : Bool} {o : Oper} {r : List BE × SV} (h : pureOp P lk keep o.op = some r) (hl : ∀ y v, lk y = some v → a.eval y = v.den ρ) (hn : ∀ p ∈ r.1, p.prop ρ) (w : World) :
    (execOp a.eval o).run P w = .ok (.value (r.2.den ρ)) w := by
  obtain ⟨dst, op, ty, pos, after, guard⟩ := o
  simp only at h
  unfold pureOp at h
  split at h
  case h_1 x =>
    have := noNeed_some h
    unfold execOp; simp only [hl _ _ this]; rfl
  case h_2 x =>
    have := noNeed_some h
    unfold execOp; simp only [hl _ _ this]; rfl
  case h_3 op t x y yt =>
    split at h
    · rename_i u v hu hv
      unfold execOp; simp only [hl _ _ hu, hl _ _ hv]
      exact valM (binSV_sound h hn w)
    · cases h
  case h_4 op t x =>
    obtain ⟨u, hu, h⟩ := Option.bind_eq_some_iff.1 h
    unfold execOp; simp only [hl _ _ hu]
    exact valM (unSV_sound h hn w)
  case h_5 s d x =>
    obtain ⟨u, hu, h⟩ := Option.bind_eq_some_iff.1 h
    unfold execOp; simp only [hl _ _ hu]
    exact valM (convSV_sound h hn w)
  case h_6 t x =>
    split at h
    · rename_i u d hu hd
      split at h
      · cases h
      · rename_i hi
        injection h with h; subst h
        unfold execOp; simp only [hl _ _ hu]
        refine valM ?_
        unfold Instr.makeInterface
        rw [und hd]
        cases d <;> (first | (exfalso; apply hi; rfl) | (simp only [SV.den]; rfl))
    · cases h
  case h_7 fn x y =>
    split at h
    · rename_i u v hu hv
      injection h with h; subst h
      unfold execOp; simp only [lookL_arr hl hu, lookL_arr hl hv]
      exact valM (by simp only [SV.den]; rfl)
    · cases h
  case h_8 t x lo hi =>
    split at h
    · rename_i u l v hu hlo hhi
      unfold execOp; simp only [hl _ _ hu, lookO_sound hl hlo, lookO_sound hl hhi]
      exact valM (sliceSV_sound h hn w)
    · cases h
  case h_9 t x f =>
    obtain ⟨u, hu, h⟩ := Option.bind_eq_some_iff.1 h
    unfold execOp; simp only [hl _ _ hu]
    exact valM (fieldAddrSV_sound (noNeed_some h) w)
  case h_10 t x f =>
    obtain ⟨u, hu, h⟩ := Option.bind_eq_some_iff.1 h
    unfold execOp; simp only [hl _ _ hu]
    exact valM (fieldSV_sound (noNeed_some h) w)
  case h_11 t x i =>
    split at h
    · rename_i u v hu hv
      unfold execOp; simp only [hl _ _ hu, hl _ _ hv]
      exact valM (indexAddrSV_sound h hn w)
    · cases h
  case h_12 t x i =>
    split at h
    · rename_i u v hu hv
      unfold execOp; simp only [hl _ _ hu, hl _ _ hv]
      exact valM (indexSV_sound h hn w)
    · cases h
  case h_13 x i =>
    split at h
    · rename_i vs hu
      have := noNeed_some h
      unfold execOp; simp only [hl _ _ hu]
      refine valM ?_
      unfold Instr.extract
      simp only [SV.den, List.getElem?_toArray, List.getElem?_map, this, Option.map_some]; rfl
    · cases h
  case h_14 x =>
    obtain ⟨u, hu, h⟩ := Option.bind_eq_some_iff.1 h
    have := nilCheckSV_sound (noNeed_some h)
    subst this
    have h' := noNeed_some h
    unfold execOp; simp only [hl _ _ hu]
    unfold nilCheckSV at h'
    split at h' <;> (first | (cases h'; done) | skip)
    all_goals rename_i heq
    all_goals rw [heq]
    all_goals simp only [SV.den]
    all_goals (try simp only [PE.den])
    all_goals rfl
  case h_15 t parts =>
    split at h
    · rename_i vs hv
      have h1 := buildSV_sound (ρ := ρ) (noNeed_some h) w
      unfold execOp; simp only []
      have e : parts.map (fun x => match x with | (i, x) => (i, a.eval x)) = (((parts.toList.map (·.1)).zip vs).map fun p => (p.1, p.2.den ρ)).toArray := by
        have h2 := lookL_sound hl _ _ hv
        have h3 : ((parts.toList.map (·.1)).zip vs).map (fun p => (p.1, p.2.den ρ)) = (parts.toList.map (·.1)).zip (vs.map (SV.den ρ)) := by
          rw [List.zip_map_right]; rfl
        rw [h3, ← h2, List.map_map, List.zip_map', ← List.map_toArray, Array.toArray_toList]
        rfl
      rw [e]
      exact valM h1
    · cases h
  case h_16 args ats =>
    split at h
    · rename_i x rest t hx ht
      obtain ⟨n, hn', rfl⟩ := Option.map_eq_some_iff.1 h
      rw [BigFrame.execOp_builtin, BigFrame.builtin_len]
      refine valM ?_
      have := lookL_arr hl hx
      simp only [SV.den, IE.den]; exact lenSV_sound hn' ht (by rw [this]; simp) _ w
    · cases h
  case h_17 args ats =>
    split at h
    · rename_i x rest t hx ht
      obtain ⟨n, hn', rfl⟩ := Option.map_eq_some_iff.1 h
      rw [BigFrame.execOp_builtin, BigFrame.builtin_cap]
      refine valM ?_
      have := lookL_arr hl hx
      simp only [SV.den, IE.den]; exact capSV_sound hn' ht (by rw [this]; simp) _ w
    · cases h
  case h_18 args ats =>
    split at h
    · rename_i l hx
      rw [BigFrame.execOp_builtin, BigFrame.builtin_min]
      refine valM ?_
      rw [lookL_arr hl hx]
      have := minSV_sound (P := P) (ρ := ρ) false (noNeed_some h) ats ty w
      simpa only [Bool.false_eq_true, if_false] using this
    · cases h
  case h_19 args ats =>
    split at h
    · rename_i l hx
      rw [BigFrame.execOp_builtin, BigFrame.builtin_max]
      refine valM ?_
      rw [lookL_arr hl hx]
      have := minSV_sound (P := P) (ρ := ρ) true (noNeed_some h) ats ty w
      simpa only [if_true] using this
    · cases h
  case h_20 => cases h
end
end Go.Proofs.YtkcjhabbgaaknaaGreat.E

/- The engine: rows of cells in the heap; what is done with them. -/
namespace Go.Proofs.YtkcjhabbgaaknaaGreat.E

/-- Cells, one behind the other. -/
def rowAt (h : Heap) (b o : Nat) (vs : List Value) : Prop := ∀ j v, vs[j]? = some v → get h b (o + j) = some v
/-- A slice's cells. -/
def row (h : Heap) (p : Option Addr) (vs : List Value) : Prop := vs = [] ∨ ∃ b o, p = some ⟨b, o, none⟩ ∧ rowAt h b o vs
def setcs (h : Heap) (b : Nat) : Nat → List Value → Heap
  | _, [] => h
  | o, v :: vs => setcs (setc h b o v) b (o + 1) vs
def wrAt (h : Heap) (b o n : Nat) : Prop := ∀ j, j < n → (get h b (o + j)).isSome = true ∧ frz h b (o + j) = false
def wrRow (h : Heap) (p : Option Addr) (o n : Nat) : Prop := n = 0 ∨ ∃ b k, p = some ⟨b, k, none⟩ ∧ wrAt h b (k + o) n
def setRow (h : Heap) (p : Option Addr) (o : Nat) (vs : List Value) : Heap := match p with | some a => setcs h a.block (a.off + o) vs | none => h
/-- A text's bytes as cells. -/
def u8s (l : List UInt8) : List Value := l.map fun b => .int .u8 b.toNat

theorem get_setc (h : Heap) (b o : Nat) (v : Value) (b' o' : Nat) : get (setc h b o v) b' o' = if b = b' ∧ o = o' ∧ (get h b o).isSome = true then some v else get h b' o' := by
  unfold get setc
  rw [Array.getElem?_modify]
  by_cases hb : b = b'
  · subst hb
    simp only [true_and, if_true]
    cases hh : h[b]? with
    | none => simp
    | some x =>
      cases x with
      | cells c e f =>
        simp only [Option.map_some]
        rw [Array.getElem?_setIfInBounds]
        by_cases ho : o = o'
        · subst ho
          by_cases hl : o < c.size
          · simp [hl]
          · simp [hl]
        · simp [ho]
      | _ => simp
  · simp [hb]
theorem frz_setc (h : Heap) (b o : Nat) (v : Value) (b' o' : Nat) : frz (setc h b o v) b' o' = frz h b' o' := by
  unfold frz setc
  rw [Array.getElem?_modify]
  by_cases hb : b = b'
  · subst hb
    simp only [if_true]
    cases h[b]? with
    | none => rfl
    | some x => cases x <;> rfl
  · simp [hb]
theorem size_setc (h : Heap) (b o : Nat) (v : Value) : (setc h b o v).size = h.size := by unfold setc; simp
theorem setCells_heap (b : Nat) : ∀ (vs : List Value) (o : Nat) (w : World), (w.setCells b o vs).heap = setcs w.heap b o vs
  | [], _, _ => rfl
  | v :: vs, o, w => by
    rw [World.setCells, setCells_heap b vs, setcs]
    congr 1
theorem outw_setCells (b : Nat) : ∀ (vs : List Value) (o : Nat) (w : World), outw (w.setCells b o vs) = outw w
  | [], _, _ => rfl
  | v :: vs, o, w => by rw [World.setCells, outw_setCells b vs]; rfl
theorem cell_get (w : World) (b o : Nat) : w.cell? ⟨b, o, none⟩ = get w.heap b o := by
  unfold World.cell? get; cases w.heap[b]? with
  | none => rfl
  | some x => cases x <;> rfl
theorem frozen_frz (w : World) (b o : Nat) : w.frozen? ⟨b, o, none⟩ = frz w.heap b o := by
  unfold World.frozen? frz; cases w.heap[b]? with
  | none => rfl
  | some x => cases x <;> rfl

section
variable {P : Program}
theorem firstCells_row {w : World} {p : Option Addr} {vs : List Value} {size n len cap : Nat} (hl : vs.length = n * size) (h : row w.heap p vs) :
    (Builtin.firstCells size n (.slice p len cap)).run P w = .ok vs.toArray w := by
  cases p with
  | none =>
    rcases h with rfl | ⟨b, o, h, _⟩
    · exact run_firstCells_none w size n len cap
    · cases h
  | some a =>
    refine run_firstCells_some w size n a len cap vs hl ?_
    rcases h with rfl | ⟨b, o, h, hr⟩
    · simp
    · injection h with h; subst h
      intro j v hv
      rw [addr_add, cell_get]
      exact hr j v hv

/-- What is handed over as a row: of n elements these cells. -/
def SrcIs (h : Heap) (size : Nat) : Value → Nat → List Value → Prop
  | .slice q m _, n, news => n ≤ m ∧ news.length = n * size ∧ row h q news
  | .string s, n, news => size = 1 ∧ n ≤ s.data.toList.length ∧ news = u8s (s.data.toList.take n)
  | _, _, _ => False
def lenV : Value → Nat
  | .slice _ m _ => m
  | .string s => s.data.toList.length
  | _ => 0
theorem firstCells_src {w : World} {size n : Nat} {x : Value} {news : List Value} (h : SrcIs w.heap size x n news) : (Builtin.firstCells size n x).run P w = .ok news.toArray w := by
  unfold SrcIs at h
  split at h
  · exact firstCells_row h.2.1 h.2.2
  · obtain ⟨h1, h2, rfl⟩ := h
    rename_i s _ _
    simp only [Builtin.firstCells, Sem.run_pure]
    congr 1
    apply Array.ext'
    simp [u8s, ByteArray.extract, ByteArray.copySlice]
  · exact h.elim
theorem srcLen {w : World} {size n : Nat} {x : Value} {news : List Value} (h : SrcIs w.heap size x n news) : news.length = n * size := by
  unfold SrcIs at h
  split at h
  · exact h.2.1
  · obtain ⟨rfl, h2, rfl⟩ := h
    simp [u8s]; exact Nat.min_eq_left h2
  · exact h.elim
theorem lenOf_src {w w' : World} {size n : Nat} {x : Value} {news : List Value} (h : SrcIs w.heap size x n news) : (Builtin.lenOf x).run P w' = .ok (lenV x) w' := by
  unfold SrcIs at h
  split at h
  · rfl
  · rename_i s
    have : s.size = s.data.toList.length := rfl
    simp only [Builtin.lenOf, lenV, Sem.run_pure, this]
  · exact h.elim

structure AppPre (h : Heap) (size bytes : Nat) (p : Option Addr) (n cap : Nat) (x : Value) (olds news : List Value) : Prop where
  src : SrcIs h size x (lenV x) news
  oldL : olds.length = n * size
  old : row h p olds
  one : ∀ u ∈ news, u.oneCell' = true
  room : n + lenV x ≤ cap → wrRow h p (n * size) news.length
  fit : (n + lenV x) * bytes ≤ 140737488355328
  len : n + lenV x ≤ 9223372036854775807
def Appended (e : TypeId) (size : Nat) (h : Heap) (p : Option Addr) (n cap m : Nat) (olds news : List Value) (h' : Heap) (p' : Option Addr) (c' : Nat) : Prop :=
  (n + m ≤ cap ∧ h' = setRow h p (n * size) news ∧ p' = p ∧ c' = cap) ∨
  (cap < n + m ∧ n + m ≤ c' ∧ ∃ rest : List Value, rest.length = (c' - (n + m)) * size ∧ h' = h.push (.cells (olds ++ news ++ rest).toArray e) ∧ p' = some ⟨h.size, 0, none⟩)

theorem append_run {w : World} {t tx ty e : TypeId} {i : TypeInfo} {z : Value} (ht : P.underlying t = some (.slice e)) (hi : P.info? e = some i) (hz : i.zero = some z) (hzs : z.cells.size = i.size)
    (htx : (∃ e', P.underlying tx = some (.slice e')) ∨ P.underlying tx = some .string) {p : Option Addr} {n cap : Nat} {x : Value} {olds news : List Value} (h : AppPre w.heap i.size i.bytes p n cap x olds news) :
    ∃ p' c' w', (Builtin.append_ #[t, tx] ty #[.slice p n cap, x]).run P w = .ok (.slice p' (n + lenV x) c') w' ∧ outw w' = outw w ∧ Appended e i.size w.heap p n cap (lenV x) olds news w'.heap p' c' := by
  have hsrc : Src P i.size tx x (lenV x) news w := ⟨htx, fun w' => lenOf_src h.src, firstCells_src h.src, firstCells_src (w := w.drew) h.src, srcLen h.src, h.one⟩
  by_cases hr : n + lenV x ≤ cap
  · have hw := h.room hr
    by_cases h0 : news = []
    · subst h0
      refine ⟨p, cap, w, ?_, rfl, .inl ⟨hr, ?_, rfl, rfl⟩⟩
      · have h1 := hsrc.len
        have h2 := hsrc.cells
        cases p with
        | none => rcases htx with ⟨e', hk⟩ | hk <;> simp [Builtin.append_, run_underlying ht, run_underlying hk, sizeOf, typeInfo, hi, h1, hr, h2]
        | some a => rcases htx with ⟨e', hk⟩ | hk <;> simp [Builtin.append_, run_underlying ht, run_underlying hk, sizeOf, typeInfo, hi, h1, hr, h2, storeCells]
      · unfold setRow; cases p <;> rfl
    · rcases hw with hw | ⟨b, k, rfl, hw⟩
      · exact absurd (List.length_eq_zero_iff.1 hw) h0
      · refine ⟨_, _, _, run_append_room_src w t tx ty e i ht hi b k n cap x (lenV x) news hsrc hr ?_ ?_, outw_setCells _ _ _ _, .inl ⟨hr, ?_, rfl, rfl⟩⟩
        · intro j hj; rw [cell_get]; exact (hw j hj).1
        · intro j hj; rw [frozen_frz]; exact (hw j hj).2
        · rw [setCells_heap]; rfl
  · have hfit := growslice_fits (old := cap) (by omega : cap < n + lenV x) h.fit
    refine ⟨_, _, _, run_append_grow_src w t tx ty e i z ht hi hz p n cap olds (firstCells_row (w := w.drew) h.oldL h.old) x (lenV x) news hsrc (by omega) (by have := h.len; omega) hfit, rfl, .inr ⟨by omega, grownCap_ge w _ cap e, (Builtin.zeroCells z.cells (grownCap w (n + lenV x) cap e - (n + lenV x))).toList, ?_, ?_, rfl⟩⟩
    · simp [Builtin.zeroCells, hzs]
    · show (w.heap.push _) = _
      congr 2
      apply Array.ext'
      simp
theorem storeCells_row {b : Nat} : ∀ (vs : List Value) (o i : Nat) (w : World), wrAt w.heap b (o + i) vs.length → (∀ u ∈ vs, u.oneCell' = true) →
    ∃ w', (storeCells ⟨b, o, none⟩ vs i).run P w = .ok () w' ∧ w'.heap = setcs w.heap b (o + i) vs ∧ outw w' = outw w
  | [], _, _, w, _, _ => ⟨w, rfl, rfl, rfl⟩
  | v :: vs, o, i, w, h, h1 => by
    have h0 := h 0 (by simp)
    have hst : (store ⟨b, o + i, none⟩ v).run P w = .ok () (w.setCell ⟨b, o + i, none⟩ v) := by
      rw [run_store P w _ v _ (h1 v List.mem_cons_self), cell_get, frozen_frz]
      simp only [Nat.add_zero] at h0
      rw [h0.2]
      cases hg : get w.heap b (o + i) with
      | none => rw [hg] at h0; exact absurd h0.1 (by simp)
      | some u => rfl
    have hh : (w.setCell ⟨b, o + i, none⟩ v).heap = setc w.heap b (o + i) v := by
      unfold World.setCell setc
      simp only [Option.isSome_none, Bool.false_eq_true, if_false]
      rfl
    obtain ⟨w', hr, hw', ho⟩ := storeCells_row vs o (i + 1) (w.setCell ⟨b, o + i, none⟩ v) (by
      intro j hj
      have := h (j + 1) (by simp; omega)
      rw [hh, get_setc, frz_setc, show o + (i + 1) + j = o + i + (j + 1) by omega]
      refine ⟨?_, this.2⟩
      split
      · rfl
      · exact this.1) (fun u hu => h1 u (List.mem_cons_of_mem _ hu))
    refine ⟨w', ?_, ?_, ho⟩
    · rw [storeCells, Sem.run_bind, addr_add, hst]
      exact hr
    · rw [hw', hh]; rfl
structure CopyPre (h : Heap) (size : Nat) (p : Option Addr) (n : Nat) (x : Value) (news : List Value) : Prop where
  src : SrcIs h size x (Nat.min (lenV x) n) news
  one : ∀ u ∈ news, u.oneCell' = true
  room : wrRow h p 0 news.length
theorem copy_run {w : World} {t tx ty e : TypeId} {i : TypeInfo} (ht : P.underlying t = some (.slice e)) (hi : P.info? e = some i) {p : Option Addr} {n cap : Nat} {x : Value} {news : List Value} (h : CopyPre w.heap i.size p n x news) :
    ∃ w', (Builtin.copy_ #[t, tx] ty #[.slice p n cap, x]).run P w = .ok (.int .i64 (Nat.min (lenV x) n : Nat)) w' ∧ outw w' = outw w ∧ w'.heap = setRow w.heap p 0 news := by
  have h1 := lenOf_src (P := P) (w' := w) h.src
  have h2 := firstCells_src (P := P) h.src
  cases p with
  | none =>
    refine ⟨w, ?_, rfl, rfl⟩
    simp [Builtin.copy_, run_underlying ht, sizeOf, typeInfo, hi, h1, h2, goInt]
  | some a =>
    rcases h.room with h0 | ⟨b, k, he, hw⟩
    · have := List.length_eq_zero_iff.1 h0; subst this
      refine ⟨w, ?_, rfl, rfl⟩
      simp [Builtin.copy_, run_underlying ht, sizeOf, typeInfo, hi, h1, h2, goInt, storeCells]
    · injection he with he; subst he
      obtain ⟨w', hr, hw', ho⟩ := storeCells_row (P := P) news k 0 w hw h.one
      refine ⟨w', ?_, ho, by rw [hw']; rfl⟩
      simp [Builtin.copy_, run_underlying ht, sizeOf, typeInfo, hi, h1, h2, goInt, hr]
/-- So many times the same cells. -/
def copies (n : Nat) (z : List Value) : List Value := (List.replicate n z).flatten
theorem copies_succ (n : Nat) (z : List Value) : copies (n + 1) z = z ++ copies n z := by simp [copies, List.replicate_succ]
theorem copies_length (n : Nat) (z : List Value) : (copies n z).length = n * z.length := by
  induction n with
  | zero => simp [copies]
  | succ n ih => rw [copies_succ, List.length_append, ih, Nat.add_mul]; omega
theorem copies_get (z : List Value) : ∀ (n i : Nat), i < n * z.length → (copies n z)[i]? = z[i % z.length]?
  | 0, i, h => by omega
  | n + 1, i, h => by
    rw [copies_succ]
    have hz : 0 < z.length := by
      rcases Nat.eq_zero_or_pos z.length with h0 | h0
      · rw [h0] at h; omega
      · exact h0
    by_cases hi : i < z.length
    · rw [List.getElem?_append_left hi, Nat.mod_eq_of_lt hi]
    · rw [List.getElem?_append_right (by omega), copies_get z n (i - z.length) (by rw [Nat.add_mul] at h; omega)]
      conv => rhs; rw [show i = (i - z.length) + z.length by omega, Nat.add_mod_right]
theorem range_copies (z : Array Value) (n : Nat) (k : Nat) (hk : k = n * z.size) : (Array.range k).map (fun i => z[i % z.size]!) = (copies n z.toList).toArray := by
  subst hk
  apply Array.ext
  · simp [copies_length]
  · intro i h1 h2
    simp only [Array.size_map, Array.size_range] at h1
    simp only [Array.getElem_map, Array.getElem_range, List.getElem_toArray]
    have hg := copies_get z.toList n i (by simpa using h1)
    have hz : 0 < z.size := by
      rcases Nat.eq_zero_or_pos z.size with h0 | h0
      · rw [h0] at h1; omega
      · exact h0
    have hm : i % z.size < z.size := Nat.mod_lt _ hz
    simp only [Array.length_toList] at hg
    rw [List.getElem?_eq_getElem (by simpa using h2)] at hg
    have h3 : z.toList[i % z.size]? = some z[i % z.size] := by simp [hm]
    rw [h3] at hg
    injection hg with hg
    rw [hg]
    exact getElem!_pos z _ hm
/-- A block that is nothing but its cells. -/
def PlainB (h : Heap) (b : Nat) : Prop := ∃ c t, h[b]? = some (.cells c t (0, 0))
theorem PlainB.lt {h : Heap} {b : Nat} (H : PlainB h b) : b < h.size := by
  obtain ⟨c, t, e⟩ := H
  rcases Nat.lt_or_ge b h.size with g | g
  · exact g
  · rw [Array.getElem?_eq_none g] at e; cases e
/-- What two pointers, held against each other, give. -/
def SameP (h : Heap) (p q : Option Addr) (r : Bool) : Prop := (p = none ∧ r = q.isNone) ∨ (q = none ∧ r = p.isNone) ∨ ∃ a b, p = some a ∧ q = some b ∧ ((a = b ∧ r = true) ∨ (a ≠ b ∧ r = false ∧ PlainB h a.block ∧ PlainB h b.block))
theorem sameAddr_run {w : World} {a b : Addr} {r : Bool} (h : (a = b ∧ r = true) ∨ (a ≠ b ∧ r = false ∧ PlainB w.heap a.block ∧ PlainB w.heap b.block)) : (sameAddr a b).run P w = .ok r w := by
  rcases h with ⟨rfl, rfl⟩ | ⟨hne, rfl, ⟨ca, ta, ha⟩, ⟨cb, tb, hb⟩⟩
  · simp [sameAddr]
  · by_cases hbl : a.block = b.block
    · simp [sameAddr, hbl, hne]
    · simp [sameAddr, hbl, World.frozen?, ha, hb, noView, viewAt, World.shape?, mayBeOne, stringish]
theorem eqp_run {w : World} {t e : TypeId} {i : TypeInfo} (ht : P.underlying t = some (.pointer e)) (hi : P.info? e = some i) (hs : i.size ≠ 0) {p q : Option Addr} {r : Bool} (h : SameP w.heap p q r) :
    (Op.equal t (.pointer p) (.pointer q)).run P w = .ok r w := by
  have e0 : ∀ x y : Value, Op.equal t x y = Op.equalIn (9999 + 1) t x y := fun _ _ => rfl
  rw [e0]
  rcases h with ⟨rfl, rfl⟩ | ⟨rfl, rfl⟩ | ⟨a, b, rfl, rfl, h⟩
  · exact eqIn_ptr ht _
  · exact eqIn_ptr' ht _
  · unfold Op.equalIn
    rw [und ht]
    show ((do if (← sizeOf e) ≠ 0 then sameAddr a b else if a == b then pure true else pure ((← choose .zeroSizeEq) = 1)) : Sem Bool).run P w = _
    simp [sizeOf, typeInfo, hi, hs, sameAddr_run h]
theorem clear_run {w : World} {t ty e : TypeId} {z : List SV} {ρ : Env} (ht : P.underlying t = some (.slice e)) (hz : zeroCells P e = some z) (hone : ∀ u ∈ z.map (SV.den ρ), u.oneCell' = true) {p : Option Addr} {n cap : Nat} (h : wrRow w.heap p 0 (n * z.length)) :
    ∃ w', (Builtin.clear_ #[t] ty #[.slice p n cap]).run P w = .ok (.tuple #[]) w' ∧ outw w' = outw w ∧ w'.heap = setRow w.heap p 0 (copies n (z.map (SV.den ρ))) := by
  obtain ⟨v, hv, hcl⟩ := zeroCells_sound (ρ := ρ) hz
  have hzv : (zeroValue e).run P w = .ok v w := zeroValue_run hv w
  have hc : Builtin.zeroCells v.cells n = (copies n (z.map (SV.den ρ))).toArray := by
    unfold Builtin.zeroCells
    rw [range_copies v.cells n _ rfl, hcl]
  have hlen : (copies n (z.map (SV.den ρ))).length = n * z.length := by rw [copies_length, List.length_map]
  have h1 : ∀ u ∈ copies n (z.map (SV.den ρ)), u.oneCell' = true := fun u hu => by
    unfold copies at hu
    obtain ⟨l, hl, hu⟩ := List.mem_flatten.1 hu
    rw [(List.mem_replicate.1 hl).2] at hu
    exact hone u hu
  cases p with
  | none =>
    refine ⟨w, ?_, rfl, rfl⟩
    simp [Builtin.clear_, run_underlying ht]
  | some a =>
    cases n with
    | zero =>
      refine ⟨w, ?_, rfl, by simp [copies, setRow, setcs]⟩
      simp [Builtin.clear_, run_underlying ht]
    | succ n =>
      rcases h with h0 | ⟨b, k, he, hw⟩
      · have hn : copies (n + 1) (z.map (SV.den ρ)) = [] := List.length_eq_zero_iff.1 (by rw [hlen]; exact h0)
        refine ⟨w, ?_, rfl, by rw [hn]; rfl⟩
        simp [Builtin.clear_, run_underlying ht, hzv, hc, hn, storeCells]
      · injection he with he; subst he
        obtain ⟨w', hr, hw', ho⟩ := storeCells_row (P := P) (copies (n + 1) (z.map (SV.den ρ))) k 0 w (by rw [hlen]; exact hw) h1
        refine ⟨w', ?_, ho, by rw [hw']; rfl⟩
        simp [Builtin.clear_, run_underlying ht, hzv, hc, hr]
theorem make_run {w : World} {t e : TypeId} {i : TypeInfo} {z : List SV} {ρ : Env} (ht : P.underlying t = some (.slice e)) (hi : P.info? e = some i) (hz : zeroCells P e = some z) (hzs : z.length = i.size)
    {kl kc : IntKind} {l c : Int} (h0 : 0 ≤ l) (hlc : l ≤ c) (hbytes : (i.bytes : Int) * c ≤ 281474976710656) (h63 : c ≤ 9223372036854775807) :
    ∃ w', (Instr.makeSlice t (.int kl l) (.int kc c)).run P w = .ok (.slice (some ⟨w.heap.size, 0, none⟩) l.toNat c.toNat) w' ∧ outw w' = outw w ∧ w'.heap = w.heap.push (.cells (copies c.toNat (z.map (SV.den ρ))).toArray e) := by
  obtain ⟨v, hv, hc⟩ := zeroCells_sound (ρ := ρ) hz
  have hv' : i.zero = some v := by rw [hi] at hv; exact hv
  refine ⟨_, run_make w t e i v ht hi hv' kl kc l c h0 hlc hbytes h63, rfl, ?_⟩
  show w.heap.push _ = _
  congr 2
  unfold madeCells
  have hs : v.cells.size = i.size := by rw [hc]; simpa using hzs
  have hl : v.cells.toList = z.map (SV.den ρ) := by rw [hc]
  rw [← hl]
  by_cases hn : c.toNat * i.size = 0
  · have : copies c.toNat v.cells.toList = [] := by apply List.length_eq_zero_iff.1; rw [copies_length]; simp [hs, hn]
    rw [this]; simp [hn]
  · exact range_copies v.cells c.toNat _ (by rw [hs])

def rowSV (P : Program) (t : TypeId) (len : Nat) (parts : List (Nat × SV)) : Option (TypeId × List SV) :=
  match P.underlying t with
  | some (.slice e) => match P.info? e, zeroCells P e with
    | some i, some z => if Nat.beq z.length i.size && Nat.ble (len * i.size) 16777216 then (fillS (fun k => some (k * i.size, i.size)) (List.replicate len z).flatten parts).map (e, ·) else none
    | _, _ => none
  | _ => none
theorem rowSV_sound {w : World} {ρ : Env} {t e : TypeId} {len : Nat} {parts : List (Nat × SV)} {r : List SV} (h : rowSV P t len parts = some (e, r)) :
    ∃ w', (Instr.buildSlice t len (parts.map fun p => (p.1, p.2.den ρ)).toArray).run P w = .ok (.slice (some ⟨w.heap.size, 0, none⟩) len len) w' ∧ outw w' = outw w ∧ w'.heap = w.heap.push (.cells (r.map (SV.den ρ)).toArray e) := by
  unfold rowSV at h
  split at h
  · rename_i e' ht
    split at h
    · rename_i i z hi hz
      split at h
      · rename_i hcond
        simp only [Bool.and_eq_true] at hcond
        have hzs : z.length = i.size := Nat.eq_of_beq_eq_true hcond.1
        have hle : len * i.size ≤ 16777216 := Nat.le_of_ble_eq_true hcond.2
        simp only [Option.map_eq_some_iff] at h
        obtain ⟨r', hf, he⟩ := h
        injection he with he1 he2; subst he1 he2
        obtain ⟨v, hv, hc⟩ := zeroCells_sound (ρ := ρ) hz
        have hs : v.cells.size = i.size := by rw [hc]; simpa using hzs
        have hl : v.cells.toList = z.map (SV.den ρ) := by rw [hc]
        have e2 := fillS_sound (ρ := ρ) (fun k => some (k * i.size, i.size)) parts _ r' hf
        have hflat : ((List.replicate len z).flatten.map (SV.den ρ)) = copies len (z.map (SV.den ρ)) := by
          unfold copies; rw [List.map_flatten, List.map_replicate]
        rw [hflat] at e2
        have hle' : ¬ (16777216 < len * i.size) := by omega
        refine ⟨{ w with heap := w.heap.push (.cells (r'.map (SV.den ρ)).toArray e') }, ?_, rfl, rfl⟩
        by_cases hn : len * i.size = 0
        · have h0 : copies len (z.map (SV.den ρ)) = [] := by apply List.length_eq_zero_iff.1; rw [copies_length]; simp [hzs, hn]
          rw [h0] at e2
          have h1 : (Array.range 0).map (fun _ => (default : Value)) = #[] := by simp
          simp [Instr.buildSlice, run_underlying ht, sizeOf, typeInfo, hi, hn, newRow, Array.range_zero', e2]
          try rfl
        · have h0 : (Array.range (len * i.size)).map (fun i => v.cells[i % v.cells.size]!) = (copies len (z.map (SV.den ρ))).toArray := by rw [← hl]; exact range_copies v.cells len _ (by rw [hs])
          have hv' : i.zero = some v := by rw [hi] at hv; exact hv
          simp [Instr.buildSlice, run_underlying ht, sizeOf, typeInfo, hi, hle', hn, zeroValue, hv', newRow, h0, e2]
      · cases h
    · cases h
  · cases h
theorem toStr_fold (l : List UInt8) : ∀ acc : List UInt8, (l.map fun b => (b.toNat : Int)).foldl (fun (r : ByteArray) n => r.push (UInt8.ofNat n.toNat)) (bs acc) = bs (acc ++ l) := by
  induction l with
  | nil => intro acc; simp
  | cons b l ih =>
    intro acc
    simp only [List.map_cons, List.foldl_cons, Int.toNat_natCast]
    have : (bs acc).push (UInt8.ofNat b.toNat) = bs (acc ++ [b]) := by
      unfold bs ByteArray.push
      simp
    rw [this, ih]; simp
theorem toStr_run {w : World} {p : Option Addr} {n cap : Nat} {s : List UInt8} (hl : s.length = n) (h : row w.heap p (u8s s)) :
    (Conv.bytesToString (.slice p n cap)).run P w = .ok (.string (bs s)) w := by
  cases p with
  | none =>
    rcases h with h | ⟨b, o, h, _⟩
    · have : s = [] := by simpa [u8s] using h
      subst this; rfl
    · cases h
  | some a =>
    have hr := firstCells_row (P := P) (w := w) (p := some a) (vs := u8s s) (size := 1) (n := n) (len := n) (cap := cap) (by simp [u8s, hl]) h
    simp only [Builtin.firstCells, Nat.mul_one] at hr
    have := run_bytesToString (P := P) w a n cap (s.map fun b => (b.toNat : Int)) (by rw [hr]; simp [u8s])
    rw [this]
    have hf := toStr_fold s []
    simp only [List.nil_append] at hf
    rw [show ByteArray.empty = bs [] from rfl, hf]
theorem Array.push_modify_last {α : Type} (xs : Array α) (x : α) (f : α → α) : (xs.push x).modify xs.size f = xs.push (f x) := by
  apply Array.ext
  · simp
  · intro i h1 h2
    simp only [Array.size_modify, Array.size_push] at h1
    rw [Array.getElem_modify]
    by_cases hi : xs.size = i
    · subst hi; simp
    · rw [if_neg hi, Array.getElem_push_lt (by omega), Array.getElem_push_lt (by omega)]
theorem toBytes_run {w : World} {e : TypeId} {s : List UInt8} :
    ∃ c' w', (Conv.stringToBytes e (bs s)).run P w = .ok (.slice (some ⟨w.heap.size, 0, none⟩) s.length c') w' ∧ outw w' = outw w ∧ s.length ≤ c' ∧
      w'.heap = w.heap.push (.cells (u8s s ++ List.replicate (c' - s.length) (Value.int .u8 0)).toArray e (c', c' + 1)) := by
  have hsz : (bs s).size = s.length := by simp [bs, ByteArray.size]
  have hge := grownCap_ge w s.length 0 e
  have hcells : (Array.map (fun b : UInt8 => Value.int .u8 (b.toNat : Int)) (bs s).data ++ Array.replicate (grownCap w s.length 0 e - s.length) (Value.int .u8 0)) = (u8s s ++ List.replicate (grownCap w s.length 0 e - s.length) (Value.int .u8 0)).toArray := by
    apply Array.ext'
    simp [bs, u8s]
  refine ⟨grownCap w s.length 0 e, { w.drew with heap := w.heap.push (.cells (u8s s ++ List.replicate (grownCap w s.length 0 e - s.length) (Value.int .u8 0)).toArray e (grownCap w s.length 0 e, grownCap w s.length 0 e + 1)) }, ?_, rfl, hge, rfl⟩
  unfold Conv.stringToBytes
  simp only [hsz, Sem.run_bind, run_choose, Question.forced, Bool.false_eq_true, if_false, Result.andThen, newRow, markStringish, run_newObj, Sem.run_pure, run_shape]
  rw [show (Question.appendCap s.length 0 e).cut (w.tape w.drawn (.appendCap s.length 0 e)) = grownCap w s.length 0 e from rfl, hcells]
  have hsh : ({ w with heap := w.heap.push (.cells (u8s s ++ List.replicate (grownCap w s.length 0 e - s.length) (Value.int .u8 0)).toArray e), drawn := w.drawn + 1 } : World).shape? w.heap.size = some (e, grownCap w s.length 0 e) := by
    unfold World.shape?
    simp [u8s]
    omega
  rw [hsh]
  simp only [run_freeze]
  congr 1
  unfold World.freeze World.drew
  simp only [Nat.succ_ne_zero, if_false, World.mk.injEq, and_true]
  rw [Array.push_modify_last]
  rfl
end
end Go.Proofs.YtkcjhabbgaaknaaGreat.E

/- The engine: terms held against each other; terms made simpler; what is turned in the heap and what is not. -/
namespace Go.Proofs.YtkcjhabbgaaknaaGreat.E

mutual
def NE.eqb : NE → NE → Bool
  | .v a, y => match y with | .v b => Nat.beq a b | _ => false
  | .c a, y => match y with | .c b => Nat.beq a b | _ => false
  | .add a b, y => match y with | .add c d => a.eqb c && b.eqb d | _ => false
  | .sub a b, y => match y with | .sub c d => a.eqb c && b.eqb d | _ => false
  | .mul a b, y => match y with | .mul c d => a.eqb c && b.eqb d | _ => false
  | .len _, _ => false
  | .ofI a, y => match y with | .ofI b => a.eqb b | _ => false
def IE.eqb : IE → IE → Bool
  | .v a, y => match y with | .v b => Nat.beq a b | _ => false
  | .c a, y => match y with | .c b => Nat.beq a b | _ => false
  | .ofN a, y => match y with | .ofN b => a.eqb b | _ => false
  | .add a b, y => match y with | .add c d => a.eqb c && b.eqb d | _ => false
  | .sub a b, y => match y with | .sub c d => a.eqb c && b.eqb d | _ => false
  | .mul a b, y => match y with | .mul c d => a.eqb c && b.eqb d | _ => false
  | _, _ => false
end
mutual
theorem NE.eqb_eq : (a b : NE) → a.eqb b = true → a = b
  | .v a, y, h => by cases y <;> simp only [NE.eqb] at h <;> first | cases h; done | rw [Nat.eq_of_beq_eq_true h]
  | .c a, y, h => by cases y <;> simp only [NE.eqb] at h <;> first | cases h; done | rw [Nat.eq_of_beq_eq_true h]
  | .add a b, y, h => by cases y <;> simp only [NE.eqb, Bool.and_eq_true] at h <;> first | cases h; done | rw [NE.eqb_eq a _ h.1, NE.eqb_eq b _ h.2]
  | .sub a b, y, h => by cases y <;> simp only [NE.eqb, Bool.and_eq_true] at h <;> first | cases h; done | rw [NE.eqb_eq a _ h.1, NE.eqb_eq b _ h.2]
  | .mul a b, y, h => by cases y <;> simp only [NE.eqb, Bool.and_eq_true] at h <;> first | cases h; done | rw [NE.eqb_eq a _ h.1, NE.eqb_eq b _ h.2]
  | .len _, y, h => by simp only [NE.eqb] at h; cases h
  | .ofI a, y, h => by cases y <;> simp only [NE.eqb] at h <;> first | cases h; done | rw [IE.eqb_eq a _ h]
theorem IE.eqb_eq : (a b : IE) → a.eqb b = true → a = b
  | .v a, y, h => by cases y <;> simp only [IE.eqb] at h <;> first | cases h; done | rw [Nat.eq_of_beq_eq_true h]
  | .c a, y, h => by cases y <;> simp only [IE.eqb] at h <;> first | cases h; done | rw [Nat.eq_of_beq_eq_true h]
  | .ofN a, y, h => by cases y <;> simp only [IE.eqb] at h <;> first | cases h; done | rw [NE.eqb_eq a _ h]
  | .add a b, y, h => by cases y <;> simp only [IE.eqb, Bool.and_eq_true] at h <;> first | cases h; done | rw [IE.eqb_eq a _ h.1, IE.eqb_eq b _ h.2]
  | .sub a b, y, h => by cases y <;> simp only [IE.eqb, Bool.and_eq_true] at h <;> first | cases h; done | rw [IE.eqb_eq a _ h.1, IE.eqb_eq b _ h.2]
  | .mul a b, y, h => by cases y <;> simp only [IE.eqb, Bool.and_eq_true] at h <;> first | cases h; done | rw [IE.eqb_eq a _ h.1, IE.eqb_eq b _ h.2]
  | .cneg _, _, h | .neg _, _, h | .quo _ _, _, h | .rem _ _, _, h | .wrap _ _, _, h | .bits _ _ _ _, _, h | .shl _ _, _, h | .shr _ _, _, h | .byte _ _, _, h | .ite _ _ _, _, h | .min _ _, _, h | .max _ _, _, h => by
    simp only [IE.eqb] at h; cases h
end
/-- Two places that are surely not one. -/
def NE.apart (a b : NE) : Bool :=
  match a, b with
  | .c n, .c m => !(Nat.beq n m)
  | .add a (.c n), .add b (.c m) => a.eqb b && !(Nat.beq n m)
  | .add a (.c n), b => a.eqb b && !(Nat.beq n 0)
  | a, .add b (.c m) => a.eqb b && !(Nat.beq m 0)
  | _, _ => false
theorem nbeq {a b : Nat} (h : (!(Nat.beq a b)) = true) : a ≠ b := by
  intro e; subst e; rw [Nat.beq_refl] at h; cases h
theorem NE.apart_ne (ρ : Env) {a b : NE} (h : a.apart b = true) : a.den ρ ≠ b.den ρ := by
  unfold NE.apart at h
  split at h
  · simpa only [NE.den] using nbeq h
  · simp only [Bool.and_eq_true] at h
    rw [NE.eqb_eq _ _ h.1]
    have := nbeq h.2
    simp only [NE.den]; omega
  · simp only [Bool.and_eq_true] at h
    rw [← NE.eqb_eq _ _ h.1]
    have := nbeq h.2
    simp only [NE.den]; omega
  · simp only [Bool.and_eq_true] at h
    rw [NE.eqb_eq _ _ h.1]
    have := nbeq h.2
    simp only [NE.den]; omega
  · cases h

/-! ### Made simpler -/
mutual
def NE.sim : NE → NE
  | .v k => .v k
  | .c n => .c n
  | .add a b => match a.sim, b.sim with
    | .c x, .c y => .c (x + y)
    | .c 0, y => y
    | x, .c y => x.plus y
    | x, y => .add x y
  | .sub a b => match a.sim, b.sim with
    | .c x, .c y => .c (x - y)
    | x, .c 0 => x
    | x, y => .sub x y
  | .mul a b => match a.sim, b.sim with
    | .c x, .c y => .c (x * y)
    | x, .c 1 => x
    | x, y => .mul x y
  | .len s => match s with
    | .lit l => .c l.length
    | s => .len s
  | .ofI e => match e.sim with
    | .c n => .c n
    | .ofN n => n
    | e => .ofI e
def IE.sim : IE → IE
  | .ofN n => match n.sim with
    | .c k => .c k
    | n => .ofN n
  | .add a b => match a.sim, b.sim with
    | .c x, .c y => .c (x + y)
    | .add p (.c x), .c y => .add p (.c (x + y))
    | x, .c 0 => x
    | .c 0, y => y
    | x, y => .add x y
  | .sub a b => match a.sim, b.sim with
    | .c x, .c y => if Nat.ble y x then .c (x - y) else .sub (.c x) (.c y)
    | x, .c 0 => x
    | x, y => .sub x y
  | .mul a b => match a.sim, b.sim with
    | .c x, .c y => .c (x * y)
    | x, y => .mul x y
  | e => e
end
theorem NE.sim_v (k : Nat) : (NE.v k).sim = .v k := rfl
mutual
theorem NE.sim_den (ρ : Env) : (e : NE) → e.sim.den ρ = e.den ρ
  | .v k => rfl
  | .c n => rfl
  | .add a b => by
    have h1 := NE.sim_den ρ a; have h2 := NE.sim_den ρ b
    simp only [NE.sim]
    generalize a.sim = a' at h1 ⊢; generalize b.sim = b' at h2 ⊢
    split <;> simp only [NE.den, NE.plus_den] at * <;> omega
  | .sub a b => by
    have h1 := NE.sim_den ρ a; have h2 := NE.sim_den ρ b
    simp only [NE.sim]
    generalize a.sim = a' at h1 ⊢; generalize b.sim = b' at h2 ⊢
    split <;> simp only [NE.den] at * <;> omega
  | .mul a b => by
    have h1 := NE.sim_den ρ a; have h2 := NE.sim_den ρ b
    simp only [NE.sim]
    generalize a.sim = a' at h1 ⊢; generalize b.sim = b' at h2 ⊢
    split <;> simp only [NE.den] at * <;> rw [← h1, ← h2] <;> simp
  | .len s => by
    simp only [NE.sim]
    split
    · simp only [NE.den, SE.den, bytesOf, List.length_map]
    · rfl
  | .ofI e => by
    have h1 := IE.sim_den ρ e
    simp only [NE.sim]
    generalize e.sim = e' at h1 ⊢
    split <;> simp only [NE.den, IE.den] at * <;> omega
theorem IE.sim_den (ρ : Env) : (e : IE) → e.sim.den ρ = e.den ρ
  | .ofN n => by
    have h1 := NE.sim_den ρ n
    simp only [IE.sim]
    generalize n.sim = n' at h1 ⊢
    split <;> simp only [NE.den, IE.den] at * <;> omega
  | .add a b => by
    have h1 := IE.sim_den ρ a; have h2 := IE.sim_den ρ b
    simp only [IE.sim]
    generalize a.sim = a' at h1 ⊢; generalize b.sim = b' at h2 ⊢
    split <;> simp only [IE.den] at * <;> omega
  | .sub a b => by
    have h1 := IE.sim_den ρ a; have h2 := IE.sim_den ρ b
    simp only [IE.sim]
    generalize a.sim = a' at h1 ⊢; generalize b.sim = b' at h2 ⊢
    split <;> (try split) <;> (try rename_i e3; have e3 := Nat.le_of_ble_eq_true e3) <;> simp only [IE.den] at * <;> omega
  | .mul a b => by
    have h1 := IE.sim_den ρ a; have h2 := IE.sim_den ρ b
    simp only [IE.sim]
    generalize a.sim = a' at h1 ⊢; generalize b.sim = b' at h2 ⊢
    split <;> simp only [IE.den] at * <;> rw [← h1, ← h2] <;> simp
  | .v _ | .c _ | .cneg _ | .neg _ | .quo _ _ | .rem _ _ | .wrap _ _ | .bits _ _ _ _ | .shl _ _ | .shr _ _ | .byte _ _ | .ite _ _ _ | .min _ _ | .max _ _ => rfl
end
theorem beqn (a b : Nat) : Nat.beq a b = true ↔ a = b := ⟨Nat.eq_of_beq_eq_true, fun e => by subst e; exact Nat.beq_refl _⟩
def litEq : List Nat → List Nat → Bool
  | [], [] => true
  | x :: a, y :: b => Nat.beq (x % 256) (y % 256) && litEq a b
  | _, _ => false
theorem litEq_iff : ∀ (a b : List Nat), litEq a b = decide (bytesOf a = bytesOf b)
  | [], [] => by simp [litEq]
  | [], y :: b => by simp [litEq, bytesOf]
  | x :: a, [] => by simp [litEq, bytesOf]
  | x :: a, y :: b => by
    simp only [litEq, litEq_iff a b, bytesOf, List.map_cons, List.cons.injEq, Bool.decide_and]
    congr 1
    rw [Bool.eq_iff_iff, beqn, decide_eq_true_eq, ← UInt8.toNat_inj, UInt8.toNat_ofNat', UInt8.toNat_ofNat']
def BE.sim : BE → BE
  | .eq a b => match a.sim, b.sim with
    | .c x, .c y => .c (Nat.beq x y)
    | x, y => .eq x y
  | .lt a b => match a.sim, b.sim with
    | .c x, .c y => .c (Nat.blt x y)
    | x, y => .lt x y
  | .le a b => match a.sim, b.sim with
    | .c x, .c y => .c (Nat.ble x y)
    | .c 0, y => if y.nn then .c true else .le (.c 0) y
    | x, y => .le x y
  | .not x => match x.sim with
    | .c b => .c (!b)
    | x => .not x
  | .and x y => match x.sim, y.sim with
    | .c true, y => y
    | .c false, _ => .c false
    | x, .c true => x
    | x, y => .and x y
  | .or x y => match x.sim, y.sim with
    | .c true, _ => .c true
    | .c false, y => y
    | x, .c false => x
    | x, y => .or x y
  | .beq x y => match x.sim, y.sim with
    | .c true, y => y
    | x, .c true => x
    | .c false, y => .not y
    | x, .c false => .not x
    | x, y => .beq x y
  | .seq s t => match s, t with
    | .lit a, .lit b => .c (litEq a b)
    | s, t => .seq s t
  | .pnil p => match p with
    | .nil => .c true
    | .at _ _ => .c false
    | p => .pnil p
  | .rng k e => match e.sim with
    | .c n => if decide ((n : Int) ≤ k.max) && decide (k.min ≤ 0) then .c true else .rng k (.c n)
    | e => .rng k e
  | e => e
theorem BE.sim_den (ρ : Env) : (e : BE) → e.sim.den ρ = e.den ρ
  | .eq a b => by
    have h1 := IE.sim_den ρ a; have h2 := IE.sim_den ρ b
    simp only [BE.sim]
    generalize a.sim = a' at h1 ⊢; generalize b.sim = b' at h2 ⊢
    split <;> simp only [BE.den, IE.den] at * <;> rw [← h1, ← h2]
    rw [Bool.eq_iff_iff, beqn, decide_eq_true_eq]; omega
  | .lt a b => by
    have h1 := IE.sim_den ρ a; have h2 := IE.sim_den ρ b
    simp only [BE.sim]
    generalize a.sim = a' at h1 ⊢; generalize b.sim = b' at h2 ⊢
    split <;> simp only [BE.den, IE.den] at * <;> rw [← h1, ← h2]
    rw [Bool.eq_iff_iff, Nat.blt_eq, decide_eq_true_eq]; omega
  | .le a b => by
    have h1 := IE.sim_den ρ a; have h2 := IE.sim_den ρ b
    simp only [BE.sim]
    generalize a.sim = a' at h1 ⊢; generalize b.sim = b' at h2 ⊢
    split
    · simp only [BE.den, IE.den] at *
      rw [← h1, ← h2, Bool.eq_iff_iff, Nat.ble_eq, decide_eq_true_eq]; omega
    · split
      · rename_i hn
        have := IE.nn_sound ρ _ hn
        simp only [BE.den, IE.den] at *
        rw [← h1, ← h2]; simp; omega
      · simp only [BE.den, IE.den] at *; rw [← h1, ← h2]; rfl
    · simp only [BE.den]; rw [← h1, ← h2]
  | .not x => by
    have h1 := BE.sim_den ρ x
    simp only [BE.sim]
    generalize x.sim = x' at h1 ⊢
    split <;> simp only [BE.den] at * <;> rw [← h1]
  | .and x y => by
    have h1 := BE.sim_den ρ x; have h2 := BE.sim_den ρ y
    simp only [BE.sim]
    generalize x.sim = x' at h1 ⊢; generalize y.sim = y' at h2 ⊢
    split <;> simp only [BE.den] at * <;> rw [← h1, ← h2] <;> simp
  | .or x y => by
    have h1 := BE.sim_den ρ x; have h2 := BE.sim_den ρ y
    simp only [BE.sim]
    generalize x.sim = x' at h1 ⊢; generalize y.sim = y' at h2 ⊢
    split <;> simp only [BE.den] at * <;> rw [← h1, ← h2] <;> simp
  | .beq x y => by
    have h1 := BE.sim_den ρ x; have h2 := BE.sim_den ρ y
    simp only [BE.sim]
    generalize x.sim = x' at h1 ⊢; generalize y.sim = y' at h2 ⊢
    split <;> simp only [BE.den] at * <;> rw [← h1, ← h2] <;> simp
  | .seq s t => by
    simp only [BE.sim]
    split
    · simp only [BE.den, SE.den]; exact litEq_iff _ _
    · rfl
  | .pnil p => by
    simp only [BE.sim]
    split <;> simp [BE.den, PE.den]
  | .rng k e => by
    have h1 := IE.sim_den ρ e
    simp only [BE.sim]
    generalize e.sim = e' at h1 ⊢
    split
    · simp only [IE.den] at h1
      split
      · rename_i hc
        simp only [Bool.and_eq_true, decide_eq_true_eq] at hc
        have hin : inK k (e.den ρ) := by rw [← h1]; unfold inK; omega
        simp only [BE.den]
        exact (decide_eq_true hin).symm
      · simp only [BE.den, IE.den]; congr 1; rw [h1]
    · simp only [BE.den]; congr 1; rw [← h1]
  | .v _ | .c _ | .ite _ _ _ | .slt _ _ | .inil _ | .fnil _ | .mnil _ => rfl
def SV.sim : SV → SV
  | .int k e => .int k e.sim
  | .bool b => .bool b.sim
  | x => x
theorem SV.sim_den (ρ : Env) (x : SV) : x.sim.den ρ = x.den ρ := by
  cases x <;> simp only [SV.sim, SV.den, IE.sim_den, BE.sim_den]
/-- What is left to be shown, and is not plain. -/
def hard : List BE → List BE
  | [] => []
  | p :: l => match p.sim with
    | .c true => hard l
    | q => q :: hard l
theorem hard_sound {ρ : Env} : ∀ {l : List BE}, (∀ p ∈ hard l, p.prop ρ) → ∀ p ∈ l, p.prop ρ
  | [], _ => by simp
  | p :: l, h => by
    have h0 := BE.sim_den ρ p
    have hp : p.prop ρ ∧ ∀ q ∈ hard l, q.prop ρ := by
      simp only [hard] at h
      split at h
      · rename_i e
        rw [e] at h0
        exact ⟨(BE.prop_iff ρ p).2 (by rw [← h0]; rfl), h⟩
      · rename_i q e
        refine ⟨?_, fun q hq => h q (List.mem_cons_of_mem _ hq)⟩
        have := (BE.prop_iff ρ _).1 (h _ List.mem_cons_self)
        rw [h0] at this
        exact (BE.prop_iff ρ p).2 this
    intro q hq
    rcases List.mem_cons.1 hq with rfl | hq
    · exact hp.1
    · exact hard_sound hp.2 q hq

/-! ### What is turned -/
/-- Blocks of F may be turned, and there may be new ones. -/
structure Frame (F : Nat → Prop) (h h' : Heap) : Prop where
  le : h.size ≤ h'.size
  old : ∀ b, b < h.size → ¬ F b → h'[b]? = h[b]?
/-- What was there is as it was. -/
structure Ext (h h' : Heap) : Prop where
  le : h.size ≤ h'.size
  old : ∀ b, b < h.size → h'[b]? = h[b]?
theorem Frame.refl (F : Nat → Prop) (h : Heap) : Frame F h h := ⟨Nat.le_refl _, fun _ _ _ => rfl⟩
theorem Frame.trans {F G H : Nat → Prop} {h h' h'' : Heap} (a : Frame F h h') (b : Frame G h' h'') (hF : ∀ n, F n → H n) (hG : ∀ n, n < h.size → G n → H n) : Frame H h h'' :=
  ⟨Nat.le_trans a.le b.le, fun k hk hn => by rw [b.old k (Nat.lt_of_lt_of_le hk a.le) (fun h => hn (hG k hk h)), a.old k hk (fun h => hn (hF k h))]⟩
theorem Frame.mono {F G : Nat → Prop} {h h' : Heap} (a : Frame F h h') (hF : ∀ n, n < h.size → F n → G n) : Frame G h h' :=
  ⟨a.le, fun k hk hn => a.old k hk (fun h => hn (hF k hk h))⟩
theorem Ext.frame {h h' : Heap} (a : Ext h h') (F : Nat → Prop) : Frame F h h' := ⟨a.le, fun b hb _ => a.old b hb⟩
theorem Frame.ext {F : Nat → Prop} {h h' : Heap} (a : Frame F h h') (hF : ∀ n, n < h.size → ¬ F n) : Ext h h' := ⟨a.le, fun b hb => a.old b hb (hF b hb)⟩
theorem Frame.push {F : Nat → Prop} {h h' : Heap} (a : Frame F h h') (x : Obj) : Frame F h (h'.push x) := ⟨by rw [Array.size_push]; exact Nat.le_succ_of_le a.le, fun k hk hn => by
  have := Nat.lt_of_lt_of_le hk a.le
  rw [← a.old k hk hn, Array.getElem?_push, if_neg (by omega)]⟩
theorem Frame.set {F : Nat → Prop} {h h' : Heap} (a : Frame F h h') {b : Nat} (hb : b < h.size → F b) (o : Nat) (v : Value) : Frame F h (setc h' b o v) := ⟨by rw [size_setc]; exact a.le, fun k hk hn => by
  rw [← a.old k hk hn]
  have : b ≠ k := fun e => hn (by subst e; exact hb hk)
  unfold setc; rw [Array.getElem?_modify, if_neg this]⟩
theorem Frame.setcs {F : Nat → Prop} {h : Heap} {b : Nat} (hb : b < h.size → F b) : ∀ (vs : List Value) (o : Nat) {h' : Heap}, Frame F h h' → Frame F h (setcs h' b o vs)
  | [], _, _, a => a
  | v :: vs, o, _, a => Frame.setcs hb vs (o + 1) (a.set hb o v)
theorem get_block {h h' : Heap} {b : Nat} (e : h'[b]? = h[b]?) (o : Nat) : get h' b o = get h b o := by unfold get; rw [e]
theorem frz_block {h h' : Heap} {b : Nat} (e : h'[b]? = h[b]?) (o : Nat) : frz h' b o = frz h b o := by unfold frz; rw [e]
end Go.Proofs.YtkcjhabbgaaknaaGreat.E

/- The engine: two structs of numbers, texts and truths held against each other. -/
namespace Go.Proofs.YtkcjhabbgaaknaaGreat.E
inductive EqK where | int | str | bool
def kindIs (P : Program) (t : TypeId) : EqK → Bool
  | .int => match P.underlying t with | some (.int _) => true | _ => false
  | .str => match P.underlying t with | some .string => true | _ => false
  | .bool => match P.underlying t with | some .bool => true | _ => false
def fieldsOk (P : Program) : List Field → List (Nat × EqK) → Bool
  | [], [] => true
  | f :: fs, (o, k) :: l => f.name != "_" && Nat.beq f.offset o && (P.info? f.type).isSome && kindIs P f.type k && fieldsOk P fs l
  | _, _ => false
def eqsOkB (P : Program) (eqs : List (TypeId × List (Nat × EqK))) : Bool := eqs.all fun x =>
  match P.underlying x.1 with
  | some (.struct fs) => !P.stoodInHeld x.1 && !P.eqGuardType P.depth x.1 && fieldsOk P fs.toList x.2
  | _ => false
def eqCell : EqK → SV → SV → Option BE
  | .int, .int k a, .int k' b => if k = k' then some (.eq a b) else none
  | .str, .str a, .str b => some (.seq a b)
  | .bool, .bool a, .bool b => some (.beq a b)
  | _, _, _ => none
def eqCells : List (Nat × EqK) → List SV → List SV → Option BE
  | [], _, _ => some (.c true)
  | (o, k) :: l, xs, ys => match xs[o]?, ys[o]?, eqCells l xs ys with
    | some x, some y, some r => match eqCell k x y with
      | some q => some (.and q r)
      | none => none
    | _, _, _ => none
def findEqs : List (TypeId × List (Nat × EqK)) → TypeId → Option (List (Nat × EqK))
  | [], _ => none
  | (u, l) :: r, t => if Nat.beq u t then some l else findEqs r t
theorem findEqs_mem : ∀ {eqs : List (TypeId × List (Nat × EqK))} {t : TypeId} {l : List (Nat × EqK)}, findEqs eqs t = some l → (t, l) ∈ eqs
  | [], _, _, h => by cases h
  | (u, l') :: r, t, l, h => by
    simp only [findEqs] at h
    split at h
    · rename_i e
      injection h with h; subst h
      rw [Nat.eq_of_beq_eq_true e]; exact List.mem_cons_self
    · exact List.mem_cons_of_mem _ (findEqs_mem h)
section
variable {P : Program} {ρ : Env}
theorem bs_beq (a b : List UInt8) : (bs a == bs b) = decide (a = b) := by
  show (a.toArray == b.toArray) = decide (a = b)
  rw [Bool.eq_iff_iff]; simp
theorem eqCell_sound {k : EqK} {x y : SV} {q : BE} {t : TypeId} (h : eqCell k x y = some q) (hk : kindIs P t k = true) (n : Nat) (w : World) :
    (Op.equalIn (n + 1) t (x.den ρ) (y.den ρ)).run P w = .ok (q.den ρ) w ∧ isAggB P t = false ∧ ∃ d, P.underlying t = some d := by
  unfold kindIs at hk
  unfold eqCell at h
  split at h
  · split at h
    · rename_i hkk; subst hkk
      injection h with h; subst h
      simp only at hk
      split at hk
      · rename_i kk hu
        refine ⟨?_, by unfold isAggB; rw [hu], ⟨_, hu⟩⟩
        unfold Op.equalIn
        rw [und hu]
        simp only [SV.den, BE.den, if_true]
        rfl
      · cases hk
    · cases h
  · injection h with h; subst h
    simp only at hk
    split at hk
    · rename_i hu
      refine ⟨?_, by unfold isAggB; rw [hu], ⟨_, hu⟩⟩
      unfold Op.equalIn
      rw [und hu]
      simp only [SV.den, BE.den]
      rw [← bs_beq]
      rfl
    · cases hk
  · injection h with h; subst h
    simp only at hk
    split at hk
    · rename_i hu
      refine ⟨?_, by unfold isAggB; rw [hu], ⟨_, hu⟩⟩
      simp only [SV.den, BE.den]
      exact eqIn_bool hu _ _
    · cases hk
  · cases h
theorem part_cell {t : TypeId} {d : TypeDesc} (hu : P.underlying t = some d) (ha : isAggB P t = false) (hi : (P.info? t).isSome = true) {cs : List SV} {off : Nat} {x : SV} (hx : cs[off]? = some x) (w : World) :
    (part t (cs.map (SV.den ρ)).toArray off).run P w = .ok (x.den ρ) w := by
  obtain ⟨i, hi'⟩ := Option.isSome_iff_exists.1 hi
  refine part_sound ?_ w
  unfold partSV
  rw [hu, hi', ha]
  simpa using hx
theorem fields_loop {xs ys : List SV} {n : Nat} {w : World} : ∀ (fs : List Field) (l : List (Nat × EqK)) (q : BE), fieldsOk P fs l = true → eqCells l xs ys = some q →
    ∃ r : Option Bool × Unit, (forIn (m := Sem) fs ((none : Option Bool), ()) (fun f (_ : Option Bool × Unit) =>
        if f.name ≠ "_" then do
          let x ← part f.type (xs.map (SV.den ρ)).toArray f.offset
          let y ← part f.type (ys.map (SV.den ρ)).toArray f.offset
          let b ← Op.equalIn (n + 1) f.type x y
          if (!b) = true then pure (ForInStep.done (some false, ())) else pure (ForInStep.yield (none, ()))
        else pure (ForInStep.yield (none, ())))).run P w = .ok r w ∧ (r.1.getD true = q.den ρ)
  | [], [], q, _, hq => by
    simp only [eqCells] at hq; injection hq with hq; subst hq
    exact ⟨(none, ()), rfl, rfl⟩
  | [], _ :: _, _, h, _ => by simp [fieldsOk] at h
  | _ :: _, [], _, h, _ => by simp [fieldsOk] at h
  | f :: fs, (o, k) :: l, q, h, hq => by
    simp only [fieldsOk, Bool.and_eq_true, bne_iff_ne] at h
    obtain ⟨⟨⟨⟨h1, h2⟩, h3⟩, h4⟩, h5⟩ := h
    simp only [eqCells] at hq
    split at hq
    · rename_i x y r hx hy hr
      split at hq
      · rename_i q1 hc
        injection hq with hq; subst hq
        obtain ⟨g1, g2, d, g3⟩ := eqCell_sound (ρ := ρ) (P := P) hc h4 n w
        have h2' := Nat.eq_of_beq_eq_true h2
        subst h2'
        obtain ⟨r', i1, i2⟩ := fields_loop fs l r h5 hr
        rw [List.forIn_cons]
        simp only [h1, ne_eq, not_false_iff, if_true, Sem.run_bind, part_cell g3 g2 h3 hx w, part_cell g3 g2 h3 hy w, g1, Result.andThen]
        cases hq1 : q1.den ρ with
        | true =>
          refine ⟨r', ?_, by rw [i2]; simp only [BE.den, hq1, Bool.true_and]⟩
          simpa using i1
        | false => exact ⟨(some false, ()), by simp, by simp only [BE.den, hq1, Bool.false_and]; rfl⟩
      · cases hq
    · cases hq
theorem eqAgg_sound {eqs : List (TypeId × List (Nat × EqK))} (ho : eqsOkB P eqs = true) {t : TypeId} {l : List (Nat × EqK)} {xs ys : List SV} {q : BE} (hf : findEqs eqs t = some l) (hq : eqCells l xs ys = some q)
    (op : BinOp) (ox oy : Operand) (w : World) :
    (eqGuard op t ox oy ((SV.agg xs).den ρ) ((SV.agg ys).den ρ)).run P w = .ok () w ∧ (Op.equal t ((SV.agg xs).den ρ) ((SV.agg ys).den ρ)).run P w = .ok (q.den ρ) w := by
  unfold eqsOkB at ho
  rw [List.all_eq_true] at ho
  have h0 := ho _ (findEqs_mem hf)
  simp only at h0
  split at h0
  · rename_i fs hu
    simp only [Bool.and_eq_true, Bool.not_eq_true'] at h0
    obtain ⟨⟨h1, h2⟩, h3⟩ := h0
    refine ⟨?_, ?_⟩
    · unfold eqGuard
      simp only [SV.den]
      cases op <;> (first | rfl | skip) <;> simp [h2]
    · show (Op.equalIn (9998 + 1 + 1) t _ _).run P w = _
      obtain ⟨r, hr, hr2⟩ := fields_loop (P := P) (ρ := ρ) (xs := xs) (ys := ys) (n := 9998) (w := w) fs.toList l q h3 hq
      unfold Op.equalIn
      rw [und hu]
      simp only [SV.den]
      rw [Sem.run_bind, run_program]
      simp only [Result.andThen, h1, Bool.false_eq_true, if_false]
      rw [← Array.forIn_toList, Sem.run_bind, hr]
      simp only [Result.andThen]
      obtain ⟨r1, r2⟩ := r
      cases r1 with
      | none => simp only [Option.getD_none] at hr2; rw [← hr2]; rfl
      | some b => simp only [Option.getD_some] at hr2; rw [← hr2]; rfl
  · cases h0
end
end Go.Proofs.YtkcjhabbgaaknaaGreat.E
