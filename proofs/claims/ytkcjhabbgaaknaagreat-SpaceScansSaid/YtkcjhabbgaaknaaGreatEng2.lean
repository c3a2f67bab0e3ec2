import Derived.Test.YtkcjhabbgaaknaaGreatEng1
/- The engine: what is left to show, and the executor. -/
namespace Go.Proofs.YtkcjhabbgaaknaaGreat.E

inductive CK where
  | int (k : IntKind) | bool | str | ptr | slice | iface | map | fn | val
def ckOf : Value → Option CK
  | .int k _ => some (.int k) | .bool _ => some .bool | .string _ => some .str | .pointer _ => some .ptr | .slice _ _ _ => some .slice
  | .nilIface => some .iface | .map _ => some .map | .nilFunc => some .fn | _ => none
def cksOf : List Value → Option (List CK)
  | [] => some []
  | v :: l => match ckOf v, cksOf l with
    | some x, some r => some (x :: r)
    | _, _ => none
/-- The kinds of a type's cells. -/
def kindsOf (P : Program) (t : TypeId) : Option (List CK) := match (P.info? t).bind (·.zero) with | some z => cksOf z.cells.toList | none => none

/-- The kinds of what a load of a type reads. -/
def loadKinds (P : Program) (t : TypeId) : Option (List CK) :=
  match kindsOf P t, P.info? t, P.underlying t with
  | some ks, some i, some _ => if ks.length = i.size then some ks else none
  | _, _, _ => none
def SV.one : SV → Bool
  | .agg _ | .tup _ => false
  | _ => true
/-- What stands behind a piece of code. -/
inductive KI where
  | seq (p : List Nat) | blk (id : Nat) | nxt (nt : Nat) (keep : List Nat) (N : List Value → Heap → Os × Array (Nat × ByteArray) → Prop)
/-- The pieces of a piece of code. -/
def child : Nat → Code → Code
  | 0, .seq a _ => a | 1, .seq _ b => b
  | 0, .cond _ t _ => t | 1, .cond _ _ e => e
  | 0, .block _ b => b
  | 0, .loop b => b
  | _, _ => .skip
/-- The piece of code at a place: the innermost step stands first. -/
def codeAt (body : Code) : List Nat → Code
  | [] => body
  | i :: p => child i (codeAt body p)

/-- Cells that are there, and may be written. -/
def CellsAt (h : Heap) (b o : Nat) (vs : List Value) : Prop := b < h.size ∧ ∀ j v, vs[j]? = some v → get h b (o + j) = some v ∧ frz h b (o + j) = false
/-- What may have been turned: a block, a pointer's block, a set of blocks that a call told. -/
inductive WI where
  | blk (b : NE) | ptr (p : PE) | set (k : Nat)
def WI.den (ρ : Env) : WI → Nat → Prop
  | .blk b, n => n = b.den ρ
  | .ptr p, n => ∃ a, p.den ρ = some a ∧ n = a.block
  | .set k, n => ρ.w k n
def WS.den (ρ : Env) : List WI → Nat → Prop
  | [], _ => False
  | x :: l, n => x.den ρ n ∨ WS.den ρ l n
/-- None of these blocks is in the set. -/
def noneIn (ρ : Env) (F : Nat → Prop) : List NE → Prop
  | [] => True
  | b :: l => ¬ F (b.den ρ) ∧ noneIn ρ F l
inductive VC where
  | fail (why : String)
  | need (p : BE) (k : VC)
  | needIf (g p : BE) (k : VC)
  | br (c : BE) (t e : VC)
  | both (a b : VC)
  | tt
  | exI (id : Nat) (k : VC) | exN (id : Nat) (k : VC) | exB (id : Nat) (k : VC) | exS (id : Nat) (k : VC) | exP (id : Nat) (k : VC)
  | exF (id : Nat) (k : VC) | exM (id : Nat) (k : VC) | exC (id : Nat) (k : VC) | exV (id : Nat) (k : VC)
  | know (h : HE) (b o : NE) (x : SV) (k : VC)
  | cells (h : HE) (b o : NE) (xs : List SV) (k : VC)
  | frame (h : HE) (ws : List WI) (k : VC)
  | nep (p : PE) (b : NE) (k : VC)
  | is (h : HE) (b o : NE) (x : SV) (k : VC)
  | isP (p : PE) (b o : NE) (k : VC)
  | wr (h : HE) (b o : NE) (k : VC)
  | new (h : HE) (id : Nat) (k : VC)
  | call (f : Nat) (args : List SV) (h : HE) (id : Nat) (k : VC)
  | callc (c : Nat) (args : List SV) (h : HE) (id : Nat) (k : VC)
  | callf (f : Nat) (args : List SV) (h : HE) (kept : List NE) (id : Nat) (k : VC)
  | callcf (c : Nat) (args : List SV) (h : HE) (kept : List NE) (id : Nat) (k : VC)
  | append (e size bytes : Nat) (h : HE) (p : PE) (n cap : NE) (x : SV) (id : Nat) (k : VC)
  | appk (e size bytes : Nat) (h : HE) (p : PE) (n cap m : NE) (news : List SV) (id : Nat) (k : VC)
  | copy (size : Nat) (h : HE) (p : PE) (n : NE) (x : SV) (id : Nat) (k : VC)
  | clr (h : HE) (p : PE) (n : NE) (z : List SV) (id : Nat) (k : VC)
  | eqp (h : HE) (p q : PE) (id : Nat) (k : VC)
  | make (e : Nat) (z : List SV) (h : HE) (c : IE) (id : Nat) (k : VC)
  | toStr (h : HE) (p : PE) (n : NE) (id : Nat) (k : VC)
  | toBytes (e : Nat) (h : HE) (s : SE) (id : Nat) (k : VC)
  | isE (v : SV) (k : VC)
  | ret (v : SV) (h : HE)
  | loop (p : List Nat) (k : List KI) (vals : List SV) (h : HE)
  | cut (p : List Nat) (k : List KI) (vals : List SV) (h : HE)
  | next (N : List Value → Heap → Os × Array (Nat × ByteArray) → Prop) (vals : List SV) (h : HE)

/-- How a region that draws its order is gone through: operations that may be taken first, one by one; else all that may come next. -/
inductive Plan where
  | done
  | hoist (i : Nat) (D : List Nat) (next : Plan)
  | alt (i : Nat) (next rest : Plan)
  | nil
/-- A plan fits a region: 'rs': what may come next, where alternatives are gone through. -/
def planOk (all : Array Oper) : Plan → Array Bool → Option (List Nat) → Bool
  | .done, listed, none => (Region.ready .any all listed).isEmpty
  | .hoist i D next, listed, none => (Region.ready .any all listed).contains i && Region.free .any all listed i && depD .any all i D && noneListed listed D && planOk all next (listed.setIfInBounds i true) none
  | .alt i next rest, listed, none => match Region.ready .any all listed with
    | [] => false
    | j :: rs => Nat.beq i j && planOk all next (listed.setIfInBounds i true) none && planOk all rest listed (some rs)
  | .alt i next rest, listed, some (j :: rs) => Nat.beq i j && planOk all next (listed.setIfInBounds i true) none && planOk all rest listed (some rs)
  | .nil, _, some [] => true
  | _, _, _ => false
def findPlan : List (Nat × Plan) → Nat → Option Plan
  | [], _ => none
  | (j, p) :: l, i => if Nat.beq i j then some p else findPlan l i
/-- The plans fit the code. -/
def plansOk (pl : List (Nat × Plan)) : Code → Bool
  | .region id ops true => match findPlan pl id with
    | some p => Region.noSelect ops && planOk ops p (Array.replicate ops.size false) none
    | none => true
  | .seq a b => plansOk pl a && plansOk pl b
  | .cond _ a b => plansOk pl a && plansOk pl b
  | .block _ b => plansOk pl b
  | .loop b => plansOk pl b
  | _ => true
/-- P0: the program without its functions; fns: of each function that a call may enter, its results' types. -/
structure Cfg where
  body : Code
  P0 : Program
  fns : List (Option (List TypeId))
  res : List ResultVar
  nt : Nat
  keep : List (List Nat × List Nat)
  wraps : List Nat := []
  plans : List (Nat × Plan) := []
  /-- types of which some cells are taken as they are -/
  kinds : List (TypeId × List CK) := []
  /-- functions that leave alone all that was there -/
  pure : List Nat := []
  pclo : Bool := true
  tell : Bool := false
  /-- places where ways that have parted meet again: the walk stops there -/
  cuts : List (List Nat) := []
  eqs : List (TypeId × List (Nat × EqK)) := []

/-- The slots that live at a loop's head. -/
def findKeep : List (List Nat × List Nat) → List Nat → List Nat
  | [], _ => []
  | (q, l) :: r, p => if q = p then l else findKeep r p
def Cfg.keepAt (c : Cfg) (p : List Nat) : List Nat := findKeep c.keep p

def denQ (P : Program) (body : Code) (Qb : Exit → Act → World → Prop) : List KI → Exit → Act → World → Prop
  | [] => Qb
  | .seq p :: k => Exit.then ((codeAt body p).wp P (denQ P body Qb k)) (denQ P body Qb k)
  | .blk id :: k => Exit.inBlock id (denQ P body Qb k)
  | .nxt nt keep N :: k => Exit.then (fun a w => (a.defers = [] ∧ a.tmps.size = nt) ∧ N (keep.map (a.tmps.getD · undef)) w.heap (outw w)) (denQ P body Qb k)
/-- A frame of which some slots are known. -/
def AgV (nt : Nat) (keep : List Nat) (vals : List Value) (a : Act) : Prop := a.defers = [] ∧ a.tmps.size = nt ∧ keep.map (a.tmps.getD · undef) = vals

/-- A function that a call enters. -/
def enters (P : Program) (f : Nat) : Bool := match P.funcs[f]? with
  | some fn => !(fn.name == "runtime.NumGoroutine") && fn.body.isSome
  | none => false
/-- The table of functions says the truth. -/
def Fns (P : Program) (fns : List (Option (List TypeId))) : Prop := ∀ f ts, fns[f]? = some (some ts) → enters P f = true ∧ ∃ fn, P.funcs[f]? = some fn ∧ fn.resultTypes.toList = ts

def Env.setI (ρ : Env) (k : Nat) (x : Int) : Env := { ρ with i := fun j => if j = k then x else ρ.i j }
def Env.setN (ρ : Env) (k : Nat) (x : Nat) : Env := { ρ with n := fun j => if j = k then x else ρ.n j }
def Env.setB (ρ : Env) (k : Nat) (x : Bool) : Env := { ρ with b := fun j => if j = k then x else ρ.b j }
def Env.setS (ρ : Env) (k : Nat) (x : List UInt8) : Env := { ρ with s := fun j => if j = k then x else ρ.s j }
def Env.setP (ρ : Env) (k : Nat) (x : Option Addr) : Env := { ρ with p := fun j => if j = k then x else ρ.p j }
def Env.setF (ρ : Env) (k : Nat) (x : Option (Nat × Value)) : Env := { ρ with f := fun j => if j = k then x else ρ.f j }
def Env.setM (ρ : Env) (k : Nat) (x : Option Nat) : Env := { ρ with m := fun j => if j = k then x else ρ.m j }
def Env.setC (ρ : Env) (k : Nat) (x : Option (Nat × List Value)) : Env := { ρ with c := fun j => if j = k then x else ρ.c j }
def Env.setH (ρ : Env) (k : Nat) (x : Heap) : Env := { ρ with h := fun j => if j = k then x else ρ.h j }
def Env.setX (ρ : Env) (k : Nat) (x : OneV) : Env := { ρ with x := fun j => if j = k then x else ρ.x j }
def Env.setW (ρ : Env) (k : Nat) (x : Nat → Prop) : Env := { ρ with w := fun j => if j = k then x else ρ.w j }
def Env.setE (ρ : Env) (x : Ending) : Env := { ρ with e := x }

/-- What an append asks where the new cells are known. -/
structure AppK (h : Heap) (size bytes : Nat) (p : Option Addr) (n cap m : Nat) (olds : List Value) : Prop where
  oldL : olds.length = n * size
  old : row h p olds
  room : n + m ≤ cap → wrRow h p (n * size) (m * size)
  fit : (n + m) * bytes ≤ 140737488355328
  len : n + m ≤ 9223372036854775807
def VC.den (P : Program) (body : Code) (nt : Nat) (keep : List Nat → List Nat) (Qb : Exit → Act → World → Prop) (R : Ending → World → Prop) : VC → Env → Prop
  | .fail _, _ => False
  | .need p k, ρ => p.prop ρ ∧ k.den P body nt keep Qb R ρ
  | .needIf g p k, ρ => (g.prop ρ → p.prop ρ) ∧ k.den P body nt keep Qb R ρ
  | .br q t e, ρ => (q.prop ρ → t.den P body nt keep Qb R ρ) ∧ (¬ q.prop ρ → e.den P body nt keep Qb R ρ)
  | .both a b, ρ => a.den P body nt keep Qb R ρ ∧ b.den P body nt keep Qb R ρ
  | .tt, _ => True
  | .exI id k, ρ => ∃ x, k.den P body nt keep Qb R (ρ.setI id x)
  | .exN id k, ρ => ∃ x, k.den P body nt keep Qb R (ρ.setN id x)
  | .exB id k, ρ => ∃ x, k.den P body nt keep Qb R (ρ.setB id x)
  | .exS id k, ρ => ∃ x, k.den P body nt keep Qb R (ρ.setS id x)
  | .exP id k, ρ => ∃ x, k.den P body nt keep Qb R (ρ.setP id x)
  | .exF id k, ρ => ∃ x, k.den P body nt keep Qb R (ρ.setF id x)
  | .exM id k, ρ => ∃ x, k.den P body nt keep Qb R (ρ.setM id x)
  | .exC id k, ρ => ∃ x, k.den P body nt keep Qb R (ρ.setC id x)
  | .exV id k, ρ => ∃ x, k.den P body nt keep Qb R (ρ.setX id x)
  | .know h b o x k, ρ => get (h.den ρ) (b.den ρ) (o.den ρ) = some (x.den ρ) → k.den P body nt keep Qb R ρ
  | .cells h b o xs k, ρ => CellsAt (h.den ρ) (b.den ρ) (o.den ρ) (xs.map (SV.den ρ)) → k.den P body nt keep Qb R ρ
  | .frame h ws k, ρ => Frame (WS.den ρ ws) (ρ.h 0) (h.den ρ) → k.den P body nt keep Qb R ρ
  | .nep p b k, ρ => (∀ a, p.den ρ = some a → a.block ≠ b.den ρ) ∧ k.den P body nt keep Qb R ρ
  | .is h b o x k, ρ => get (h.den ρ) (b.den ρ) (o.den ρ) = some (x.den ρ) ∧ k.den P body nt keep Qb R ρ
  | .isP p b o k, ρ => p.den ρ = some ⟨b.den ρ, o.den ρ, none⟩ ∧ k.den P body nt keep Qb R ρ
  | .wr h b o k, ρ => (get (h.den ρ) (b.den ρ) (o.den ρ)).isSome = true ∧ frz (h.den ρ) (b.den ρ) (o.den ρ) = false ∧ k.den P body nt keep Qb R ρ
  | .new h id k, ρ => k.den P body nt keep Qb R (ρ.setN id (h.den ρ).size)
  | .call f args h id k, ρ => ∀ w : World, w.heap = h.den ρ → outw w = ρ.o → Calls P f (args.map (SV.den ρ)).toArray w fun e w' => outw w' = ρ.o ∧ Ext (h.den ρ) w'.heap ∧ k.den P body nt keep Qb R ((ρ.setH id w'.heap).setE e)
  | .callf f args h kept id k, ρ => ∀ w : World, w.heap = h.den ρ → outw w = ρ.o → Calls P f (args.map (SV.den ρ)).toArray w fun e w' => outw w' = ρ.o ∧ ∃ F : Nat → Prop, Frame F (h.den ρ) w'.heap ∧ noneIn ρ F kept ∧ k.den P body nt keep Qb R (((ρ.setH id w'.heap).setW id F).setE e)
  | .callcf q args h kept id k, ρ => ∃ f cs, ρ.c q = some (f, cs) ∧ enters P f = true ∧
      ∀ w : World, w.heap = h.den ρ → outw w = ρ.o → Calls P f (args.map (SV.den ρ) ++ cs).toArray w fun e w' => outw w' = ρ.o ∧ ∃ F : Nat → Prop, Frame F (h.den ρ) w'.heap ∧ noneIn ρ F kept ∧ k.den P body nt keep Qb R (((ρ.setH id w'.heap).setW id F).setE e)
  | .callc q args h id k, ρ => ∃ f cs, ρ.c q = some (f, cs) ∧ enters P f = true ∧
      ∀ w : World, w.heap = h.den ρ → outw w = ρ.o → Calls P f (args.map (SV.den ρ) ++ cs).toArray w fun e w' => outw w' = ρ.o ∧ Ext (h.den ρ) w'.heap ∧ k.den P body nt keep Qb R ((ρ.setH id w'.heap).setE e)
  | .append e size bytes h p n cap x id k, ρ => ∃ olds news, AppPre (h.den ρ) size bytes (p.den ρ) (n.den ρ) (cap.den ρ) (x.den ρ) olds news ∧
      ∀ h' p' c', Appended e size (h.den ρ) (p.den ρ) (n.den ρ) (cap.den ρ) (lenV (x.den ρ)) olds news h' p' c' → k.den P body nt keep Qb R (((ρ.setH id h').setP id p').setN id c')
  | .appk e size bytes h p n cap m news id k, ρ => ∃ olds, AppK (h.den ρ) size bytes (p.den ρ) (n.den ρ) (cap.den ρ) (m.den ρ) olds ∧
      ∀ h' p' c', Appended e size (h.den ρ) (p.den ρ) (n.den ρ) (cap.den ρ) (m.den ρ) olds (news.map (SV.den ρ)) h' p' c' → k.den P body nt keep Qb R (((ρ.setH id h').setP id p').setN id c')
  | .copy size h p n x id k, ρ => ∃ news, CopyPre (h.den ρ) size (p.den ρ) (n.den ρ) (x.den ρ) news ∧
      k.den P body nt keep Qb R ((ρ.setH id (setRow (h.den ρ) (p.den ρ) 0 news)).setN id (Nat.min (lenV (x.den ρ)) (n.den ρ)))
  | .clr h p n z id k, ρ => wrRow (h.den ρ) (p.den ρ) 0 (n.den ρ * z.length) ∧ k.den P body nt keep Qb R (ρ.setH id (setRow (h.den ρ) (p.den ρ) 0 (copies (n.den ρ) (z.map (SV.den ρ)))))
  | .eqp h p q id k, ρ => ∃ r, SameP (h.den ρ) (p.den ρ) (q.den ρ) r ∧ k.den P body nt keep Qb R (ρ.setB id r)
  | .make e z h c id k, ρ => k.den P body nt keep Qb R ((ρ.setH id ((h.den ρ).push (.cells (copies (c.den ρ).toNat (z.map (SV.den ρ))).toArray e))).setN id (h.den ρ).size)
  | .toStr h p n id k, ρ => ∃ s : List UInt8, s.length = n.den ρ ∧ row (h.den ρ) (p.den ρ) (u8s s) ∧ k.den P body nt keep Qb R (ρ.setS id s)
  | .toBytes e h s id k, ρ => ∀ c', (s.den ρ).length ≤ c' →
      k.den P body nt keep Qb R (((ρ.setH id ((h.den ρ).push (.cells (u8s (s.den ρ) ++ List.replicate (c' - (s.den ρ).length) (Value.int .u8 0)).toArray e (c', c' + 1)))).setN id (h.den ρ).size).setN (id + 1) c')
  | .isE v k, ρ => ρ.e = .returned (v.den ρ) ∧ k.den P body nt keep Qb R ρ
  | .ret v h, ρ => ∀ w : World, w.heap = h.den ρ → outw w = ρ.o → R (.returned (v.den ρ)) w
  | .loop p k vals h, ρ => ∀ (a : Act) (w : World), AgV nt (keep p) (vals.map (SV.den ρ)) a → w.heap = h.den ρ → outw w = ρ.o → (Code.loop (codeAt body p)).wp P (denQ P body Qb k) a w
  | .cut p k vals h, ρ => ∀ (a : Act) (w : World), AgV nt (keep p) (vals.map (SV.den ρ)) a → w.heap = h.den ρ → outw w = ρ.o → (codeAt body p).wp P (denQ P body Qb k) a w
  | .next N vals h, ρ => N (vals.map (SV.den ρ)) (h.den ρ) ρ.o

/-- A block of which some cells are known, and that differs from the others; new: it was not there when the piece of code was entered. -/
structure KB where
  b : NE
  new : Bool
  cs : List (NE × SV)
  o : NE := .c 0
  n : Nat := 0
def findKB : List KB → NE → Option KB
  | [], _ => none
  | B :: l, b => if B.b.eqb b then some B else findKB l b
def cellOf : List (NE × SV) → NE → Option SV
  | [], _ => none
  | c :: l, o => if c.1.eqb o then some c.2 else cellOf l o
def cellsOf (cs : List (NE × SV)) (o : NE) : Nat → Nat → Option (List SV)
  | _, 0 => some []
  | i, n + 1 => match cellOf cs (o.plus i), cellsOf cs o (i + 1) n with
    | some x, some r => some (x :: r)
    | _, _ => none
def putCell (cs : List (NE × SV)) (o : NE) (x : SV) : List (NE × SV) := (o, x) :: cs.filter fun c => c.1.apart o
def setKB : List KB → NE → (List (NE × SV) → List (NE × SV)) → List KB
  | [], _, _ => []
  | B :: l, b, f => if B.b.eqb b then { B with cs := f B.cs } :: l else B :: setKB l b f
def cellsAt : Nat → List SV → List (NE × SV)
  | _, [] => []
  | i, x :: l => (.c i, x) :: cellsAt (i + 1) l
/-- The state: the frame, the heap, how many atoms there are, what is known of the heap, what may have been turned. -/
structure St where
  σ : Sig
  h : HE
  m : Nat
  kn : List KB := []
  wr : List WI := []
def loadKn (kn : List KB) (b o : NE) (n : Nat) : Option (List SV) := match findKB kn b with
  | some B => cellsOf B.cs o 0 n
  | none => none
def knowCells (h : HE) (b : NE) (k : VC) : List (NE × SV) → VC
  | [] => k
  | c :: l => .know h b c.1 c.2 (knowCells h b k l)
def knowAll (h : HE) (k : VC) : List KB → VC
  | [] => k
  | B :: l => match B.n, cellsOf B.cs B.o 0 B.n with
    | 0, _ => knowAll h k l
    | _ + 1, some xs => .cells h B.b B.o xs (knowAll h k l)
    | _ + 1, none => knowCells h B.b (knowAll h k l) B.cs
/-- A block is none of the known ones. -/
def neAll (b : NE) (k : VC) : List KB → VC
  | [] => k
  | B :: l => .need (.not (.eq (.ofN b) (.ofN B.b))) (neAll b k l)
def nepAll (p : PE) (k : VC) : List KB → VC
  | [] => k
  | B :: l => match B.cs with
    | [] => nepAll p k l
    | _ :: _ => .nep p B.b (nepAll p k l)
/-- What is known when a pointer's block is written, and what that asks. -/
def wrKn (kn : List KB) : PE → List KB
  | .at b _ => setKB kn b fun _ => []
  | _ => kn
def wrAsk (kn : List KB) (k : VC) : PE → VC
  | .nil => k
  | .at b _ => match findKB kn b with
    | some _ => k
    | none => neAll b k kn
  | p => nepAll p k kn
def wrOf (kn : List KB) (wr : List WI) : PE → List WI
  | .nil => wr
  | .at b _ => match findKB kn b with
    | some B => if B.new then wr else .blk b :: wr
    | none => .blk b :: wr
  | p => .ptr p :: wr
def SV.block1 : SV → List NE
  | .ptr (.at b _) => [b]
  | .slice (.at b _) _ _ => [b]
  | _ => []
def SV.blocks : SV → List NE
  | .ptr (.at b _) => [b]
  | .slice (.at b _) _ _ => [b]
  | .agg cs => cs.flatMap SV.block1
  | .fn _ a c => (a ++ c).flatMap SV.block1
  | _ => []
def SV.blocksL (l : List SV) : List NE := l.flatMap SV.blocks
def passed (bs : List NE) (B : KB) : Bool := bs.any fun b => B.b.eqb b
/-- What is worth being told: of blocks that were there, and of new ones that values lead to (or all). -/
def tellKn (tell : Bool) (vs : List SV) (kn : List KB) : List KB :=
  kn.filter fun B => !B.new || tell || (match SV.blocksL vs with
    | [] => false
    | bs => passed bs B)
def keptKn (bs : List NE) (kn : List KB) : List KB := kn.filter fun B => !passed bs B
def passKn (bs : List NE) (kn : List KB) : List KB := kn.filter fun B => passed bs B

def exCK : CK → St → (SV → St → VC) → VC
  | .int k, st, f => .exI st.m (f (.int k (.v st.m)) { st with m := st.m + 1 })
  | .bool, st, f => .exB st.m (f (.bool (.v st.m)) { st with m := st.m + 1 })
  | .str, st, f => .exS st.m (f (.str (.v st.m)) { st with m := st.m + 1 })
  | .ptr, st, f => .exP st.m (f (.ptr (.v st.m)) { st with m := st.m + 1 })
  | .slice, st, f => .exP st.m (.exN (st.m + 1) (.exN (st.m + 2) (f (.slice (.v st.m) (.v (st.m + 1)) (.v (st.m + 2))) { st with m := st.m + 3 })))
  | .iface, st, f => .exF st.m (f (.ifc st.m) { st with m := st.m + 1 })
  | .map, st, f => .exM st.m (f (.map st.m) { st with m := st.m + 1 })
  | .fn, st, f => .exC st.m (f (.clo st.m) { st with m := st.m + 1 })
  | .val, st, f => .exV st.m (f (.val st.m) { st with m := st.m + 1 })
def exCKs : List CK → St → (List SV → St → VC) → VC
  | [], st, f => f [] st
  | c :: l, st, f => exCK c st fun x st => exCKs l st fun r st => f (x :: r) st
def isAll (h : HE) (b o : NE) (k : VC) : Nat → List SV → VC
  | _, [] => k
  | i, x :: l => .is h b (o.plus i) x (isAll h b o k (i + 1) l)
/-- Cells are read: those that are known, or whatever they hold. -/
def withCells (st : St) (b o : NE) (ks : List CK) (f : List SV → St → VC) : VC :=
  match loadKn st.kn b o ks.length with
  | some xs => f xs st
  | none => exCKs ks st fun xs st' => isAll st.h b o (f xs st') 0 xs
def theOne (agg : Bool) (xs : List SV) : Option SV := if agg then some (.agg xs) else match xs with | [x] => some x | _ => none
def needAll (k : VC) : List BE → VC
  | [] => k
  | p :: l => .need p (needAll k l)
def needIfAll (g : BE) (k : VC) : List BE → VC
  | [] => k
  | p :: l => .needIf g p (needIfAll g k l)

def putS (c : Cfg) (st : St) (dst : Option Nat) (x : SV) (K : St → VC) : VC :=
  match dst with
  | none => K st
  | some d => if Nat.blt d c.nt && x.lt st.m then K { st with σ := putσ st.σ d x none } else .fail "slot"
/-- Stores, cell by cell. -/
def storeAll (b o : NE) (K : HE → List KB → VC) : Nat → List SV → HE → List KB → VC
  | _, [], h, kn => K h kn
  | i, x :: l, h, kn => match loadKn kn b (o.plus i) 1 with
    | some _ => storeAll b o K (i + 1) l (.set h b (o.plus i) x) (setKB kn b fun cs => putCell cs (o.plus i) x)
    | none => .wr h b (o.plus i) (storeAll b o K (i + 1) l (.set h b (o.plus i) x) (setKB kn b fun cs => putCell cs (o.plus i) x))
def findKinds : List (TypeId × List CK) → TypeId → Option (List CK)
  | [], _ => none
  | (u, l) :: r, t => if Nat.beq u t then some l else findKinds r t
def kindsC (c : Cfg) (t : TypeId) : Option (List CK) := match findKinds c.kinds t with
  | some ks => some ks
  | none => kindsOf c.P0 t
def loadKindsC (c : Cfg) (t : TypeId) : Option (List CK) :=
  match kindsC c t, c.P0.info? t, c.P0.underlying t with
  | some ks, some i, some _ => if Nat.beq ks.length i.size then some ks else none
  | _, _, _ => none
def typeShape (c : Cfg) (t : TypeId) (st : St) (f : SV → St → VC) : VC :=
  match kindsC c t with
  | some ks => if isAggB c.P0 t then exCKs ks st fun xs st => f (.agg xs) st else match ks with | [k] => exCK k st f | _ => .fail "kinds"
  | none => .fail "no kinds"
def typeShapes (c : Cfg) : List TypeId → St → (List SV → St → VC) → VC
  | [], st, f => f [] st
  | t :: l, st, f => typeShape c t st fun x st => typeShapes c l st fun r st => f (x :: r) st
/-- The value that a function hands back. -/
def resultVC (c : Cfg) (ts : List TypeId) (st : St) (K : SV → St → VC) : VC :=
  match ts with
  | [t] => typeShape c t st fun x st => .isE x (K x st)
  | ts => typeShapes c ts st fun xs st => .isE (.tup xs) (K (.tup xs) st)
def resTypes (P : Program) (t : TypeId) : List TypeId := match P.underlying t with | some (.tuple ts) => ts.toList | _ => [t]
def pickSV (q : BE) (x y : SV) : Option SV :=
  match x, y with
  | .bool u, .bool (.c false) => some (.bool (.and q u))
  | .bool (.c true), .bool v => some (.bool (.or q v))
  | .bool u, .bool v => some (.bool (.ite q u v))
  | .int k a, .int k' b => if k = k' then some (.int k (.ite q a b)) else none
  | _, _ => none
/-- A pick, if its value can be told. -/
def pickOp (σ : Sig) (gs : List (Nat × Bool)) : Op → Option SV
  | .pick (.tmp s) a b => match look σ gs (.tmp s) with
    | some (.bool (.c true)) => look σ gs a
    | some (.bool (.c false)) => look σ gs b
    | some (.bool q) => match look σ ((s, true) :: gs) a, look σ ((s, false) :: gs) b with
      | some x, some y => pickSV q x y
      | _, _ => none
    | _ => none
  | _ => none
def keeps (c : Cfg) (dst : Option Nat) : Bool := match dst with | some d => c.wraps.contains d | none => false
/-- What leaves the world alone: picks and the rest. -/
def aggOp (c : Cfg) (σ : Sig) (gs : List (Nat × Bool)) : Op → Option SV
  | .binOp .eql t x y _ => match look σ gs x, look σ gs y, findEqs c.eqs t with
    | some (.agg xs), some (.agg ys), some l => (eqCells l xs ys).map fun q => .bool q
    | _, _, _ => none
  | .binOp .neq t x y _ => match look σ gs x, look σ gs y, findEqs c.eqs t with
    | some (.agg xs), some (.agg ys), some l => (eqCells l xs ys).map fun q => .bool (.not q)
    | _, _, _ => none
  | _ => none
def quiet0 (c : Cfg) (σ : Sig) (gs : List (Nat × Bool)) (o : Oper) : PR :=
  match pickOp σ gs o.op with
  | some x => some ([], x)
  | none => match aggOp c σ gs o.op with
    | some x => some ([], x)
    | none => pureOp c.P0 (look σ gs) (keeps c o.dst) o.op
def quietOp (c : Cfg) (σ : Sig) (gs : List (Nat × Bool)) (o : Oper) : PR := match quiet0 c σ gs o with
  | some (ns, x) => some (hard ns, x.sim)
  | none => none
def srcLenSV : SV → Option NE
  | .slice _ m _ => some m
  | .str s => some (.len s)
  | _ => none
def okSrc (P : Program) (t : TypeId) : Bool := match P.underlying t with
  | some (.slice _) => true
  | some .string => true
  | _ => false
def isInt (P : Program) (t : TypeId) (k : IntKind) : Bool := match P.underlying t with
  | some (.int k') => decide (k = k')
  | _ => false
/-- The cells that are handed to an append, if they are known. -/
def srcKn (kn : List KB) (y : SV) (size : Nat) : Option (List SV) := match y with
  | .slice (.at b o) (.c n) _ => match loadKn kn b o (n * size) with
    | some xs => if xs.all SV.one then some xs else none
    | none => none
  | .slice .nil (.c 0) _ => some []
  | _ => none
/-- A pointer that is told to be at a place. -/
def SV.subP (k : Nat) (b o : NE) : SV → SV
  | .ptr (.v j) => if Nat.beq j k then .ptr (.at b o) else .ptr (.v j)
  | .slice (.v j) n c => if Nat.beq j k then .slice (.at b o) n c else .slice (.v j) n c
  | x => x
def subSig (k : Nat) (b o : NE) (σ : Sig) : Sig := σ.map fun e => { e with x := e.x.subP k b o }
def subCells (k : Nat) (b o : NE) (cs : List (NE × SV)) : List (NE × SV) := cs.map fun c => (c.1, c.2.subP k b o)
def subKn (k : Nat) (b o : NE) (kn : List KB) : List KB := kn.map fun B => { B with cs := subCells k b o B.cs }
/-- A pointer is told to be at the place of the two newest numbers. -/
def subSt (p : PE) (st : St) : St := match p with
  | .v k => { st with m := st.m + 2, σ := subSig k (.v st.m) (.v (st.m + 1)) st.σ, kn := subKn k (.v st.m) (.v (st.m + 1)) st.kn }
  | _ => { st with m := st.m + 2 }
/-- What makes, copies or lengthens rows of cells. -/
def memOp (c : Cfg) (st : St) (gs : List (Nat × Bool)) (o : Oper) (K : St → VC) : VC :=
  match o.op with
  | .call { callee := .builtin .append, args, argTypes } => match args.toList, argTypes.toList with
    | [s, x], [t, tx] => match look st.σ gs s, look st.σ gs x, c.P0.underlying t with
      | some (.slice p n q), some y, some (.slice e) => match c.P0.info? e, zeroCells c.P0 e, srcLenSV y with
        | some i, some z, some m => if Nat.beq z.length i.size && okSrc c.P0 tx then
            wrAsk st.kn (match srcKn st.kn y i.size with
              | some news => .appk e i.size i.bytes st.h p n q m news st.m (putS c { st with h := .v st.m, m := st.m + 1, kn := wrKn st.kn p, wr := wrOf st.kn st.wr p } o.dst (.slice (.v st.m) (NE.sim (.add n m)) (.v st.m)) K)
              | none => .append e i.size i.bytes st.h p n q y st.m (putS c { st with h := .v st.m, m := st.m + 1, kn := wrKn st.kn p, wr := wrOf st.kn st.wr p } o.dst (.slice (.v st.m) (NE.sim (.add n m)) (.v st.m)) K)) p else .fail "append"
        | _, _, _ => .fail "append"
      | _, _, _ => .fail "append"
    | _, _ => .fail "append"
  | .call { callee := .builtin .copy, args, argTypes } => match args.toList, argTypes.toList with
    | [s, x], [t, _] => match look st.σ gs s, look st.σ gs x, c.P0.underlying t with
      | some (.slice p n _), some y, some (.slice e) => match c.P0.info? e with
        | some i => wrAsk st.kn (.copy i.size st.h p n y st.m (putS c { st with h := .v st.m, m := st.m + 1, kn := wrKn st.kn p, wr := wrOf st.kn st.wr p } o.dst (.int .i64 (.ofN (.v st.m))) K)) p
        | _ => .fail "copy"
      | _, _, _ => .fail "copy"
    | _, _ => .fail "copy"
  | .call { callee := .builtin .clear, args, argTypes } => match args.toList, argTypes.toList with
    | [s], [t] => match look st.σ gs s, c.P0.underlying t with
      | some (.slice p n _), some (.slice e) => match zeroCells c.P0 e with
        | some z => if z.all SV.one then wrAsk st.kn (.clr st.h p n z st.m (putS c { st with h := .v st.m, m := st.m + 1, kn := wrKn st.kn p, wr := wrOf st.kn st.wr p } o.dst (.tup []) K)) p else .fail "clear"
        | _ => .fail "clear"
      | _, _ => .fail "clear"
    | _, _ => .fail "clear"
  | .binOp .eql t x y _ => match look st.σ gs x, look st.σ gs y, c.P0.underlying t with
    | some (.ptr p), some (.ptr q), some (.pointer e) => match c.P0.info? e with
      | some i => if Nat.beq i.size 0 then .fail "eql" else .eqp st.h p q st.m (putS c { st with m := st.m + 1 } o.dst (.bool (.v st.m)) K)
      | _ => .fail "eql"
    | _, _, _ => .fail "eql"
  | .makeSlice t l q => match look st.σ gs l, look st.σ gs q, c.P0.underlying t with
    | some (.int _ l), some (.int _ q), some (.slice e) => match c.P0.info? e, zeroCells c.P0 e with
      | some i, some z => if Nat.beq z.length i.size then
          .need (.le (.c 0) l) (.need (.le l q) (.need (.le (.mul (.c i.bytes) q) (.c 281474976710656)) (.need (.le q (.c 9223372036854775807))
            (.make e z st.h q st.m (putS c { st with h := .v st.m, m := st.m + 1, kn := { b := .v st.m, new := true, cs := [] } :: st.kn } o.dst (.slice (.at (.v st.m) (.c 0)) (.ofI l) (.ofI q)) K))))) else .fail "makeSlice"
      | _, _ => .fail "makeSlice"
    | _, _, _ => .fail "makeSlice"
  | .buildSlice t len parts => match lookL (look st.σ gs) (parts.toList.map (·.2)) with
    | some vs => match rowSV c.P0 t len ((parts.toList.map (·.1)).zip vs) with
      | some (e, z) => if SV.lts st.m z then .new st.h st.m (putS c { st with h := .push st.h e z, m := st.m + 1, kn := { b := .v st.m, new := true, cs := if Nat.ble z.length 24 then cellsAt 0 z else [], n := if Nat.ble z.length 24 then z.length else 0 } :: st.kn } o.dst (.slice (.at (.v st.m) (.c 0)) (.c len) (.c len)) K) else .fail "buildSlice"
      | none => .fail "buildSlice"
    | none => .fail "buildSlice"
  | .convert s d x => match look st.σ gs x, c.P0.underlying s, c.P0.underlying d with
    | some (.slice p n _), some (.slice e), some .string => if isInt c.P0 e .u8 then .toStr st.h p n st.m (putS c { st with m := st.m + 1 } o.dst (.str (.v st.m)) K) else .fail "convert"
    | some (.str y), some .string, some (.slice e) => if isInt c.P0 e .u8 then
        .toBytes e st.h y st.m (putS c { st with h := .v st.m, m := st.m + 2, kn := { b := .v st.m, new := true, cs := [] } :: st.kn } o.dst (.slice (.at (.v st.m) (.c 0)) (.len y) (.v (st.m + 1))) K) else .fail "convert"
    | _, _, _ => .fail "convert"
  | _ => .fail "operation"
/-- An operation that is met: it is run. -/
def stepOp (c : Cfg) (st : St) (gs : List (Nat × Bool)) (o : Oper) (K : St → VC) : VC :=
  match quietOp c st.σ gs o with
  | some (ns, x) => needAll (putS c st o.dst x K) ns
  | none => match o.op with
    | .nilCheck x => match look st.σ gs x with
      | some (.ptr p) => .exN st.m (.exN (st.m + 1) (.isP p (.v st.m) (.v (st.m + 1)) (putS c (subSt p st) o.dst (.ptr (.at (.v st.m) (.v (st.m + 1)))) K)))
      | _ => .fail "nilCheck"
    | .indexAddr t x i => match look st.σ gs x, look st.σ gs i with
      | some (.slice p n q), some j => .exN st.m (.exN (st.m + 1) (.isP p (.v st.m) (.v (st.m + 1)) (match indexAddrSV c.P0 t (.slice (.at (.v st.m) (.v (st.m + 1))) n q) j with
        | some (ns, y) => needAll (putS c (subSt p st) o.dst y K) (hard ns)
        | none => .fail "indexAddr")))
      | _, _ => .fail "indexAddr"
    | .load t x => match look st.σ gs x, loadKindsC c t with
      | some (.ptr (.at b q)), some ks => withCells st b q ks fun xs st' => match theOne (isAggB c.P0 t) xs with
        | some y => putS c st' o.dst y K
        | none => .fail "load"
      | _, _ => .fail "load"
    | .store t x v => match look st.σ gs x, look st.σ gs v, c.P0.info? t with
      | some (.ptr (.at b q)), some y, some i => if Nat.beq y.cells.length i.size && y.cells.all SV.one && b.lt st.m && q.lt st.m && SV.lts st.m y.cells then
          wrAsk st.kn (storeAll b q (fun h kn => match o.dst with
            | none => K { st with h := h, kn := kn, wr := wrOf st.kn st.wr (.at b q) }
            | some d => if Nat.blt d c.nt then K { st with σ := dropσ st.σ d, h := h, kn := kn, wr := wrOf st.kn st.wr (.at b q) } else .fail "slot") 0 y.cells st.h st.kn) (.at b q)
        else .fail "store"
      | _, _, _ => .fail "store"
    | .alloc t => match zeroCells c.P0 t with
      | some z => if SV.lts st.m z then .new st.h st.m (putS c { st with h := .push st.h t z, m := st.m + 1, kn := { b := .v st.m, new := true, cs := cellsAt 0 z, n := z.length } :: st.kn } o.dst (.ptr (.at (.v st.m) (.c 0))) K) else .fail "alloc"
      | none => .fail "alloc"
    | .box t x => match look st.σ gs x with
      | some y => if SV.lts st.m y.cells then .new st.h st.m (putS c { st with h := .push st.h t y.cells, m := st.m + 1, kn := { b := .v st.m, new := true, cs := cellsAt 0 y.cells, n := y.cells.length } :: st.kn } o.dst (.ptr (.at (.v st.m) (.c 0))) K) else .fail "box"
      | none => .fail "box"
    | .call { callee := .value f, args, .. } => match look st.σ gs f, lookL (look st.σ gs) args.toList with
      | some (.fn (.func g) first cap), some as => match c.fns[g]? with
        | some (some ts) => knowAll st.h (if c.pure.any (Nat.beq g) then .call g (first ++ as ++ cap) st.h st.m (resultVC c ts { st with h := .v st.m, m := st.m + 1 } fun x st => putS c st o.dst x K)
            else .callf g (first ++ as ++ cap) st.h ((keptKn (SV.blocksL (first ++ as ++ cap)) st.kn).map (·.b)) st.m
              (resultVC c ts { st with h := .v st.m, m := st.m + 1, kn := keptKn (SV.blocksL (first ++ as ++ cap)) st.kn, wr := .set st.m :: st.wr } fun x st => putS c st o.dst x K)) (passKn (SV.blocksL (first ++ as ++ cap)) st.kn)
        | _ => .fail "call"
      | some (.clo q), some as => if c.pclo then .callc q as st.h st.m (resultVC c (resTypes c.P0 o.type) { st with h := .v st.m, m := st.m + 1 } fun x st => putS c st o.dst x K)
          else .callcf q as st.h ((keptKn (SV.blocksL as) st.kn).map (·.b)) st.m
            (resultVC c (resTypes c.P0 o.type) { st with h := .v st.m, m := st.m + 1, kn := keptKn (SV.blocksL as) st.kn, wr := .set st.m :: st.wr } fun x st => putS c st o.dst x K)
      | _, _ => .fail "call"
    | _ => memOp c st gs o K

/-- A task of the executor. -/
inductive Task where
  | code (cd : Code) (p : List Nat) (k : List KI)
  | ops (all : Array Oper) (l : List Oper) (k : List KI)
  | any (all : Array Oper) (n : Nat) (listed : Array Bool) (pl : Plan) (L : List (List Nat × List (NE × NE × SV))) (k : List KI)
  | alts (all : Array Oper) (m : Nat) (listed : Array Bool) (pl : Plan) (L : List (List Nat × List (NE × NE × SV))) (k : List KI)
  | fin (k : List KI)
  | exit (id : Nat) (k : List KI)
  | ret

def looks (σ : Sig) : List Nat → Option (List SV)
  | [] => some []
  | t :: l => match look σ [] (.tmp t), looks σ l with
    | some x, some r => some (x :: r)
    | _, _ => none
/-- The results, read. -/
def resVC (c : Cfg) : List ResultVar → St → (List SV → St → VC) → VC
  | [], st, f => f [] st
  | .tmp t :: l, st, f => match look st.σ [] (.tmp t) with
    | some x => resVC c l st fun r => f (x :: r)
    | none => .fail "result"
  | .cell t ty :: l, st, f => match look st.σ [] (.tmp t), loadKindsC c ty with
    | some (.ptr (.at b q)), some ks => withCells st b q ks fun xs st => match theOne (isAggB c.P0 ty) xs with
        | some y => resVC c l st fun r => f (y :: r)
        | none => .fail "result"
    | _, _ => .fail "result"
def retVC (c : Cfg) (st : St) : VC :=
  resVC c c.res st fun xs st => knowAll st.h (.frame st.h st.wr (match xs with
    | [x] => .ret x st.h
    | xs => .ret (.tup xs) st.h)) (tellKn c.tell xs st.kn)
/-- The slot of an operation's guard, and what it must be. -/
def guardOf (all : Array Oper) (o : Oper) : Option (Option (Nat × Bool)) :=
  match o.guard with
  | none => some none
  | some (j, want) => match (all[j]?).bind (·.dst) with
    | some s => some (some (s, want))
    | none => none
def setConst (σ : Sig) (s : Nat) (b : Bool) : Sig := ⟨s, .bool (.c b), none⟩ :: σ
def SV.eqv : SV → SV → Bool
  | .int k a, y => match y with | .int k' b => decide (k = k') && a.eqb b | _ => false
  | .bool (.v a), y => match y with | .bool (.v b) => Nat.beq a b | _ => false
  | .bool (.c a), y => match y with | .bool (.c b) => a == b | _ => false
  | .str (.v a), y => match y with | .str (.v b) => Nat.beq a b | _ => false
  | .ptr (.v a), y => match y with | .ptr (.v b) => Nat.beq a b | _ => false
  | .ptr (.at a o), y => match y with | .ptr (.at b q) => a.eqb b && o.eqb q | _ => false
  | .ptr .nil, y => match y with | .ptr .nil => true | _ => false
  | .slice (.v a) n c, y => match y with | .slice (.v b) n' c' => Nat.beq a b && n.eqb n' && c.eqb c' | _ => false
  | .slice (.at a o) n c, y => match y with | .slice (.at b q) n' c' => a.eqb b && o.eqb q && n.eqb n' && c.eqb c' | _ => false
  | .slice .nil n c, y => match y with | .slice .nil n' c' => n.eqb n' && c.eqb c' | _ => false
  | .ifc a, y => match y with | .ifc b => Nat.beq a b | _ => false
  | .clo a, y => match y with | .clo b => Nat.beq a b | _ => false
  | .map a, y => match y with | .map b => Nat.beq a b | _ => false
  | .val a, y => match y with | .val b => Nat.beq a b | _ => false
  | _, _ => false
/-- Is a cell known to hold this. -/
def isKn (kn : List KB) (b o : NE) (x : SV) : Bool := match loadKn kn b o 1 with
  | some [y] => y.eqv x
  | _ => false
def heldVC (st : St) (k : VC) : List (NE × NE × SV) → VC
  | [] => k
  | (b, o, x) :: l => if isKn st.kn b o x then heldVC st k l else .is st.h b o x (heldVC st k l)
def heldsVC (i : Nat) (st : St) (k : VC) : List (List Nat × List (NE × NE × SV)) → VC
  | [] => k
  | (D, l) :: L => if D.contains i then heldsVC i st k L else heldVC st (heldsVC i st k L) l
def bothAll : List VC → VC
  | [] => .tt
  | v :: l => match l with | [] => v | l => .both v (bothAll l)
def skipS (nt : Nat) (σ : Sig) (dst : Option Nat) : Sig := match dst with | some d => if Nat.blt d nt then putσ σ d (.tup []) none else dropσ σ d | none => σ
/-- Is a slot the guard of an operation. -/
def isGuard (all : Array Oper) (dst : Option Nat) : Bool := match dst with
  | some d => all.toList.any fun o => match o.guard with
    | some (j, _) => match (all[j]?).bind (·.dst) with
      | some s => Nat.beq s d
      | none => false
    | none => false
  | none => false
/-- May an operation be taken first, and as what. -/
inductive First where
  | quiet (ns : List BE) (x : SV)
  | load (t : TypeId) (b o : NE) (ks : List CK) (agg : Bool)
  | addr (p : PE)
  | addrIx (p : PE) (t : TypeId) (n q : NE) (j : SV)
  | skip
def firstOp (c : Cfg) (σ : Sig) (gs : List (Nat × Bool)) (o : Oper) : Option First :=
  match quietOp c σ gs o with
  | some (ns, x) => some (.quiet ns x)
  | none => match o.op with
    | .load t x => match look σ gs x, loadKindsC c t with
      | some (.ptr (.at b q)), some ks => some (.load t b q ks (isAggB c.P0 t))
      | _, _ => none
    | .nilCheck x => match look σ gs x with
      | some (.ptr p) => some (.addr p)
      | _ => none
    | .indexAddr t x i => match look σ gs x, look σ gs i with
      | some (.slice p n q), some j => some (.addrIx p t n q j)
      | _, _ => none
    | _ => none
/-- How a guard stands: no guard or one that is met; one that is not; one that is not decided. -/
inductive GS where
  | met (gs : List (Nat × Bool)) | unmet | open_ (s : Nat) (want : Bool) (q : BE) | bad
def guardSt (σ : Sig) (all : Array Oper) (o : Oper) : GS :=
  match guardOf all o with
  | none => .bad
  | some none => .met []
  | some (some (s, want)) => match find σ s with
    | some ⟨_, .bool (.c v), none⟩ => if v = want then .met [(s, want)] else .unmet
    | some ⟨_, .bool q, none⟩ => .open_ s want q
    | some ⟨_, .tup [], none⟩ => .unmet
    | _ => .bad
/-- The first of the alternatives whose guard is not decided. -/
def openOf (σ : Sig) (all : Array Oper) : Plan → Option (Nat × BE)
  | .alt i _ rest => match all[i]? with
    | none => openOf σ all rest
    | some o => match guardSt σ all o with
      | .open_ s _ q => some (s, q)
      | _ => openOf σ all rest
  | _ => none

def pathEq : List Nat → List Nat → Bool
  | [], [] => true
  | a :: l, b :: r => Nat.beq a b && pathEq l r
  | _, _ => false
/-- Operations that leave alone all that was there. -/
def isExtOp (c : Cfg) (σ : Sig) (gs : List (Nat × Bool)) (o : Oper) : Bool := match o.op with
  | .store _ _ _ => false
  | .call { callee := .builtin .append, .. } => false
  | .call { callee := .builtin .copy, .. } => false
  | .call { callee := .builtin .clear, .. } => false
  | .call { callee := .value f, .. } => match look σ gs f with
    | some (.fn (.func g) _ _) => c.pure.any (Nat.beq g)
    | some (.clo _) => c.pclo
    | _ => false
  | _ => true
def heldsIf (ext : Bool) (i : Nat) (st : St) (k : VC) (L : List (List Nat × List (NE × NE × SV))) : VC := if ext then k else heldsVC i st k L
def heldOf (b q : NE) : Nat → List SV → List (NE × NE × SV)
  | _, [] => []
  | i, x :: l => (b, q.plus i, x) :: heldOf b q (i + 1) l
def exec (c : Cfg) : Nat → Task → St → VC
  | 0, _, _ => .fail "fuel"
  | n + 1, .code cd p k, st => match cd with
    | .skip => exec c n (.fin k) st
    | .label _ => exec c n (.fin k) st
    | .seq a _ => exec c n (.code a (0 :: p) (.seq (1 :: p) :: k)) st
    | .cond x t e => match look st.σ [] x with
      | some (.bool (.c true)) => exec c n (.code t (0 :: p) k) st
      | some (.bool (.c false)) => exec c n (.code e (1 :: p) k) st
      | some (.bool q) => .br q (exec c n (.code t (0 :: p) k) st) (exec c n (.code e (1 :: p) k) st)
      | _ => .fail "cond"
    | .block id b => exec c n (.code b (0 :: p) (.blk id :: k)) st
    | .loop _ => match looks st.σ (c.keepAt (0 :: p)) with
      | some vs => knowAll st.h (.frame st.h st.wr (.loop (0 :: p) k vs st.h)) (tellKn c.tell vs st.kn)
      | none => .fail "loop"
    | .exit id => exec c n (.exit id k) st
    | .ret => exec c n .ret st
    | .region _ ops false => exec c n (.ops ops ops.toList k) st
    | .region id ops true => match findPlan c.plans id with
      | some pl => exec c n (.any ops ops.size (Array.replicate ops.size false) pl [] k) st
      | none => .fail "orders"
    | _ => .fail "code"
  | n + 1, .fin k, st => match k with
    | [] => retVC c st
    | .seq p :: k => if c.cuts.any (pathEq p) then (match looks st.σ (c.keepAt p) with
        | some vs => knowAll st.h (.frame st.h st.wr (.cut p k vs st.h)) (tellKn c.tell vs st.kn)
        | none => .fail "cut") else exec c n (.code (codeAt c.body p) p k) st
    | .blk _ :: k => exec c n (.fin k) st
    | .nxt nt keep N :: _ => match looks st.σ keep with
      | some vs => if Nat.beq nt c.nt then knowAll st.h (.frame st.h st.wr (.next N vs st.h)) (tellKn c.tell vs st.kn) else .fail "next"
      | none => .fail "next"
  | n + 1, .exit id k, st => match k with
    | [] => .fail "exit"
    | .blk j :: k => if Nat.beq id j then exec c n (.fin k) st else exec c n (.exit id k) st
    | .seq _ :: k => exec c n (.exit id k) st
    | .nxt _ _ _ :: k => exec c n (.exit id k) st
  | _ + 1, .ret, st => retVC c st
  | n + 1, .ops all l k, st => match l with
    | [] => exec c n (.fin k) st
    | o :: l => match guardSt st.σ all o with
      | .met gs => stepOp c st gs o fun st => exec c n (.ops all l k) st
      | .unmet => exec c n (.ops all l k) { st with σ := skipS c.nt st.σ o.dst }
      | .open_ s want q => match (if isGuard all o.dst then none else quietOp c st.σ [(s, want)] o), o.dst with
        | some (ns, x), some d => if Nat.blt d c.nt && !(Nat.beq d s) && x.lt st.m then needIfAll (if want then q else .not q) (exec c n (.ops all l k) { st with σ := putσ st.σ d x (some (s, want)) }) ns else .fail "guard slot"
        | _, _ => .br q (exec c n (.ops all (o :: l) k) { st with σ := setConst st.σ s true }) (exec c n (.ops all (o :: l) k) { st with σ := setConst st.σ s false })
      | .bad => .fail "guard"
  | n + 1, .any all m listed pl L k, st => match pl with
    | .done => exec c n (.fin k) st
    | .nil => .fail "plan"
    | .hoist i D next => match m, all[i]? with
      | m + 1, some o => match guardSt st.σ all o with
        | .bad => .fail "guard"
        | .open_ s _ q => .br q (exec c n (.any all (m + 1) listed pl L k) { st with σ := setConst st.σ s true }) (exec c n (.any all (m + 1) listed pl L k) { st with σ := setConst st.σ s false })
        | .unmet => exec c n (.any all m (listed.setIfInBounds i true) next L k) { st with σ := skipS c.nt st.σ o.dst }
        | .met gs => match firstOp c st.σ gs o with
          | none => .fail "hoist"
          | some (.quiet ns x) => needAll (putS c st o.dst x fun st => exec c n (.any all m (listed.setIfInBounds i true) next L k) st) ns
          | some .skip => .fail "skip"
          | some (.load _ b q ks agg) => if b.lt st.m && q.lt st.m then
              withCells st b q ks fun xs st' => match theOne agg xs with
                | some y => putS c st' o.dst y fun st => exec c n (.any all m (listed.setIfInBounds i true) next ((D, heldOf b q 0 xs) :: L) k) st
                | none => .fail "load"
            else .fail "deps"
          | some (.addr p) => .exN st.m (.exN (st.m + 1) (.isP p (.v st.m) (.v (st.m + 1)) (putS c (subSt p st) o.dst (.ptr (.at (.v st.m) (.v (st.m + 1)))) fun st => exec c n (.any all m (listed.setIfInBounds i true) next L k) st)))
          | some (.addrIx p t ln cp j) => .exN st.m (.exN (st.m + 1) (.isP p (.v st.m) (.v (st.m + 1)) (match indexAddrSV c.P0 t (.slice (.at (.v st.m) (.v (st.m + 1))) ln cp) j with
            | some (ns, y) => needAll (putS c (subSt p st) o.dst y fun st => exec c n (.any all m (listed.setIfInBounds i true) next L k) st) (hard ns)
            | none => .fail "indexAddr")))
      | _, _ => .fail "hoist"
    | .alt _ _ _ => match openOf st.σ all pl with
      | some (s, q) => .br q (exec c n (.any all m listed pl L k) { st with σ := setConst st.σ s true }) (exec c n (.any all m listed pl L k) { st with σ := setConst st.σ s false })
      | none => match m with
        | m + 1 => exec c n (.alts all m listed pl L k) st
        | 0 => .fail "alt"
  | n + 1, .alts all m listed pl L k, st => match pl with
    | .nil => .tt
    | .alt i next rest => match all[i]? with
      | some o => match guardSt st.σ all o, rest with
        | .met gs, .nil => stepOp c st gs o fun st' => heldsIf (isExtOp c st.σ gs o) i st' (exec c n (.any all m (listed.setIfInBounds i true) next L k) st') L
        | .met gs, rest => .both (stepOp c st gs o fun st' => heldsIf (isExtOp c st.σ gs o) i st' (exec c n (.any all m (listed.setIfInBounds i true) next L k) st') L) (exec c n (.alts all m listed rest L k) st)
        | .unmet, rest => .both (exec c n (.any all m (listed.setIfInBounds i true) next L k) { st with σ := skipS c.nt st.σ o.dst }) (exec c n (.alts all m listed rest L k) st)
        | _, _ => .fail "guard"
      | none => .fail "alt"
    | _ => .fail "alts"
end Go.Proofs.YtkcjhabbgaaknaaGreat.E

/- The engine: the soundness of its steps. -/
namespace Go.Proofs.YtkcjhabbgaaknaaGreat.E
section
variable {P : Program}
/-- The program without its functions. -/
abbrev bare (P : Program) : Program := { P with funcs := #[] }
theorem pureOp_bare (lk : Operand → Option SV) (keep : Bool) (op : Op) : pureOp (bare P) lk keep op = pureOp P lk keep op := rfl
theorem kindsOf_bare (t : TypeId) : kindsOf (bare P) t = kindsOf P t := rfl
theorem isAggB_bare (t : TypeId) : isAggB (bare P) t = isAggB P t := rfl
theorem zeroCells_bare (t : TypeId) : zeroCells (bare P) t = zeroCells P t := rfl
theorem indexAddrSV_bare (t : TypeId) (x y : SV) : indexAddrSV (bare P) t x y = indexAddrSV P t x y := rfl

theorem Agree.refl (m : Nat) (ρ : Env) : Agree m ρ ρ := ⟨fun _ _ => ⟨rfl, rfl, rfl, rfl, rfl, rfl, rfl, rfl, rfl, rfl, rfl⟩, rfl⟩
theorem Agree.trans {m m' : Nat} {ρ ρ1 ρ2 : Env} (h1 : Agree m ρ ρ1) (h2 : Agree m' ρ1 ρ2) (h : m ≤ m') : Agree m ρ ρ2 := ⟨fun k hk => by
  obtain ⟨a1, a2, a3, a4, a5, a6, a7, a8, a9, a10, a11⟩ := h1 k hk
  obtain ⟨b1, b2, b3, b4, b5, b6, b7, b8, b9, b10, b11⟩ := h2 k (Nat.lt_of_lt_of_le hk h)
  exact ⟨b1.trans a1, b2.trans a2, b3.trans a3, b4.trans a4, b5.trans a5, b6.trans a6, b7.trans a7, b8.trans a8, b9.trans a9, b10.trans a10, b11.trans a11⟩, h2.o.trans h1.o⟩
theorem Agree.le {m m' : Nat} {ρ ρ1 : Env} (h1 : Agree m' ρ ρ1) (h : m ≤ m') : Agree m ρ ρ1 := ⟨fun k hk => h1 k (Nat.lt_of_lt_of_le hk h), h1.o⟩
section
variable {m k : Nat} {ρ : Env}
theorem Agree.setI (hk : m ≤ k) (x : Int) : Agree m ρ (ρ.setI k x) := ⟨fun j hj => by
  have : j ≠ k := by omega
  exact ⟨rfl, if_neg this, rfl, rfl, rfl, rfl, rfl, rfl, rfl, rfl, rfl⟩, rfl⟩
theorem Agree.setN (hk : m ≤ k) (x : Nat) : Agree m ρ (ρ.setN k x) := ⟨fun j hj => by
  have : j ≠ k := by omega
  exact ⟨if_neg this, rfl, rfl, rfl, rfl, rfl, rfl, rfl, rfl, rfl, rfl⟩, rfl⟩
theorem Agree.setB (hk : m ≤ k) (x : Bool) : Agree m ρ (ρ.setB k x) := ⟨fun j hj => by
  have : j ≠ k := by omega
  exact ⟨rfl, rfl, if_neg this, rfl, rfl, rfl, rfl, rfl, rfl, rfl, rfl⟩, rfl⟩
theorem Agree.setS (hk : m ≤ k) (x : List UInt8) : Agree m ρ (ρ.setS k x) := ⟨fun j hj => by
  have : j ≠ k := by omega
  exact ⟨rfl, rfl, rfl, if_neg this, rfl, rfl, rfl, rfl, rfl, rfl, rfl⟩, rfl⟩
theorem Agree.setP (hk : m ≤ k) (x : Option Addr) : Agree m ρ (ρ.setP k x) := ⟨fun j hj => by
  have : j ≠ k := by omega
  exact ⟨rfl, rfl, rfl, rfl, if_neg this, rfl, rfl, rfl, rfl, rfl, rfl⟩, rfl⟩
theorem Agree.setF (hk : m ≤ k) (x : Option (Nat × Value)) : Agree m ρ (ρ.setF k x) := ⟨fun j hj => by
  have : j ≠ k := by omega
  exact ⟨rfl, rfl, rfl, rfl, rfl, if_neg this, rfl, rfl, rfl, rfl, rfl⟩, rfl⟩
theorem Agree.setM (hk : m ≤ k) (x : Option Nat) : Agree m ρ (ρ.setM k x) := ⟨fun j hj => by
  have : j ≠ k := by omega
  exact ⟨rfl, rfl, rfl, rfl, rfl, rfl, if_neg this, rfl, rfl, rfl, rfl⟩, rfl⟩
theorem Agree.setC (hk : m ≤ k) (x : Option (Nat × List Value)) : Agree m ρ (ρ.setC k x) := ⟨fun j hj => by
  have : j ≠ k := by omega
  exact ⟨rfl, rfl, rfl, rfl, rfl, rfl, rfl, if_neg this, rfl, rfl, rfl⟩, rfl⟩
theorem Agree.setH (hk : m ≤ k) (x : Heap) : Agree m ρ (ρ.setH k x) := ⟨fun j hj => by
  have : j ≠ k := by omega
  exact ⟨rfl, rfl, rfl, rfl, rfl, rfl, rfl, rfl, if_neg this, rfl, rfl⟩, rfl⟩
theorem Agree.setX (hk : m ≤ k) (x : OneV) : Agree m ρ (ρ.setX k x) := ⟨fun j hj => by
  have : j ≠ k := by omega
  exact ⟨rfl, rfl, rfl, rfl, rfl, rfl, rfl, rfl, rfl, if_neg this, rfl⟩, rfl⟩
theorem Agree.setW (hk : m ≤ k) (x : Nat → Prop) : Agree m ρ (ρ.setW k x) := ⟨fun j hj => by
  have : j ≠ k := by omega
  exact ⟨rfl, rfl, rfl, rfl, rfl, rfl, rfl, rfl, rfl, rfl, if_neg this⟩, rfl⟩
theorem Agree.setE (x : Ending) : Agree m ρ (ρ.setE x) := ⟨fun _ _ => ⟨rfl, rfl, rfl, rfl, rfl, rfl, rfl, rfl, rfl, rfl, rfl⟩, rfl⟩
end

/-- A term's value stays, whatever later atoms come to be. -/
def Fix {α β : Type} (den : Env → α → β) (m : Nat) (ρ : Env) (x : α) : Prop := ∀ ρ', Agree m ρ ρ' → den ρ' x = den ρ x
theorem Fix.sv {m : Nat} {ρ : Env} {x : SV} (h : x.lt m = true) : Fix SV.den m ρ x := fun _ ha => SV.stable ha x h
theorem Fix.ne {m : Nat} {ρ : Env} {x : NE} (h : x.lt m = true) : Fix NE.den m ρ x := fun _ ha => NE.stable ha x h
theorem Fix.later {α β : Type} {den : Env → α → β} {m m' : Nat} {ρ ρ1 : Env} {x : α} (h : Fix den m ρ x) (ha : Agree m ρ ρ1) (hm : m ≤ m') : Fix den m' ρ1 x := fun ρ' h' => by
  rw [h ρ' (ha.trans h' hm), h ρ1 ha]

theorem Agree.h0 {m : Nat} {ρ ρ1 : Env} (ha : Agree m ρ ρ1) (hm : 0 < m) : ρ1.h 0 = ρ.h 0 := (ha 0 hm).2.2.2.2.2.2.2.2.1
def KB.ok (ρ : Env) (h : Heap) (B : KB) : Prop :=
  B.b.den ρ < h.size ∧ (B.new = true → (ρ.h 0).size ≤ B.b.den ρ) ∧ ∀ c ∈ B.cs, get h (B.b.den ρ) (c.1.den ρ) = some (c.2.den ρ) ∧ frz h (B.b.den ρ) (c.1.den ρ) = false
structure KnOk (ρ : Env) (kn : List KB) (h : Heap) : Prop where
  all : ∀ B ∈ kn, B.ok ρ h
  ne : kn.Pairwise fun B C => B.b.den ρ ≠ C.b.den ρ
def KnFix (m : Nat) (ρ : Env) (kn : List KB) : Prop := ∀ B ∈ kn, Fix NE.den m ρ B.b ∧ ∀ c ∈ B.cs, Fix NE.den m ρ c.1 ∧ Fix SV.den m ρ c.2
theorem KnFix.later {m m' : Nat} {ρ ρ1 : Env} {kn : List KB} (H : KnFix m ρ kn) (ha : Agree m ρ ρ1) (hm : m ≤ m') : KnFix m' ρ1 kn := fun B hB =>
  ⟨(H B hB).1.later ha hm, fun c hc => ⟨((H B hB).2 c hc).1.later ha hm, ((H B hB).2 c hc).2.later ha hm⟩⟩
theorem KnOk.agree {m : Nat} {ρ ρ1 : Env} {kn : List KB} {h : Heap} (H : KnOk ρ kn h) (hf : KnFix m ρ kn) (ha : Agree m ρ ρ1) (hm : 0 < m) : KnOk ρ1 kn h where
  all := fun B hB => by
    obtain ⟨h1, h2, h3⟩ := H.all B hB
    obtain ⟨f1, f2⟩ := hf B hB
    refine ⟨by rw [f1 ρ1 ha]; exact h1, fun hn => by rw [f1 ρ1 ha, ha.h0 hm]; exact h2 hn, fun c hc => ?_⟩
    rw [f1 ρ1 ha, (f2 c hc).1 ρ1 ha, (f2 c hc).2 ρ1 ha]
    exact h3 c hc
  ne := by
    have := H.ne
    rw [List.pairwise_iff_getElem] at this ⊢
    intro i j hi hj hij
    rw [(hf _ (List.getElem_mem hi)).1 ρ1 ha, (hf _ (List.getElem_mem hj)).1 ρ1 ha]
    exact this i j hi hj hij
section
variable {ρ : Env} {kn : List KB} {h h' : Heap}
theorem KnOk.wr (H : KnOk ρ kn h) (hs : h.size ≤ h'.size) (hb : ∀ B ∈ kn, B.cs ≠ [] → h'[B.b.den ρ]? = h[B.b.den ρ]?) : KnOk ρ kn h' where
  all := fun B hB => by
    obtain ⟨h1, h2, h3⟩ := H.all B hB
    refine ⟨Nat.lt_of_lt_of_le h1 hs, h2, fun c hc => ?_⟩
    have := hb B hB (fun e => by rw [e] at hc; cases hc)
    rw [get_block this, frz_block this]
    exact h3 c hc
  ne := H.ne
theorem KnOk.frame {F : Nat → Prop} (H : KnOk ρ kn h) (hf : Frame F h h') (hb : ∀ B ∈ kn, ¬ F (B.b.den ρ)) : KnOk ρ kn h' :=
  H.wr hf.le fun B hB _ => hf.old _ (H.all B hB).1 (hb B hB)
theorem KnOk.ext (H : KnOk ρ kn h) (hx : Ext h h') : KnOk ρ kn h' := H.wr hx.le fun B hB _ => hx.old _ (H.all B hB).1
theorem ext_push (h : Heap) (x : Obj) : Ext h (h.push x) := ⟨by simp, fun b hb => by rw [Array.getElem?_push, if_neg (by omega)]⟩
theorem KnOk.sub (H : KnOk ρ kn h) (q : KB → Bool) : KnOk ρ (kn.filter q) h := ⟨fun B hB => H.all B (List.mem_filter.1 hB).1, H.ne.filter q⟩
theorem KnFix.sub {m : Nat} (H : KnFix m ρ kn) (q : KB → Bool) : KnFix m ρ (kn.filter q) := fun B hB => H B (List.mem_filter.1 hB).1
theorem KnOk.cons (H : KnOk ρ kn h) {B : KB} (hB : B.ok ρ h) (hne : ∀ C ∈ kn, B.b.den ρ ≠ C.b.den ρ) : KnOk ρ (B :: kn) h :=
  ⟨by intro C hC; rcases List.mem_cons.1 hC with rfl | hC; · exact hB
      · exact H.all C hC, List.pairwise_cons.2 ⟨hne, H.ne⟩⟩
theorem cellsAt_mem : ∀ {z : List SV} {i : Nat} {c : NE × SV}, c ∈ cellsAt i z → ∃ j, z[j]? = some c.2 ∧ c.1 = .c (i + j)
  | [], _, _, h => by cases h
  | x :: z, i, c, h => by
    rcases List.mem_cons.1 h with rfl | h
    · exact ⟨0, by simp, rfl⟩
    · obtain ⟨j, h1, h2⟩ := cellsAt_mem h
      exact ⟨j + 1, by simpa using h1, by rw [h2]; congr 1; omega⟩
/-- A new block. -/
theorem KnOk.alloc (H : KnOk ρ kn h) {B : KB} (hb : B.b.den ρ = h.size) (h0 : (ρ.h 0).size ≤ h.size) {z : List SV} {t : TypeId} (hcs : B.cs = cellsAt 0 z ∨ B.cs = []) :
    KnOk ρ (B :: kn) (h.push (.cells (z.map (SV.den ρ)).toArray t)) := by
  obtain ⟨b, new, cs, o, n⟩ := B
  simp only at hb hcs
  refine (H.ext (ext_push h _)).cons ⟨by simp [hb], fun _ => by rw [hb]; exact h0, fun c hc => ?_⟩ fun C hC => ?_
  · rcases hcs with rfl | rfl
    · obtain ⟨j, h1, h2⟩ := cellsAt_mem hc
      rw [hb, h2]
      unfold get frz
      simp [NE.den, h1]
    · cases hc
  · have := (H.all C hC).1
    rw [hb]; omega
theorem KnOk.new' (H : KnOk ρ kn h) {b o : NE} {n : Nat} (hb : b.den ρ = h.size) (h0 : (ρ.h 0).size ≤ h.size) (x : Obj) : KnOk ρ ({ b := b, new := true, cs := [], o := o, n := n } :: kn) (h.push x) := by
  refine (H.ext (ext_push h _)).cons ⟨by simp [hb], fun _ => by rw [hb]; exact h0, fun c hc => by cases hc⟩ fun C hC => ?_
  have := (H.all C hC).1
  rw [hb]; omega
theorem findKB_some : ∀ {kn : List KB} {b : NE} {B : KB}, findKB kn b = some B → B ∈ kn ∧ B.b = b
  | [], _, _, h => by cases h
  | C :: l, b, B, h => by
    simp only [findKB] at h
    split at h
    · rename_i e
      injection h with h; subst h
      exact ⟨List.mem_cons_self, NE.eqb_eq _ _ e⟩
    · obtain ⟨h1, h2⟩ := findKB_some h
      exact ⟨List.mem_cons_of_mem _ h1, h2⟩
theorem cellOf_some : ∀ {cs : List (NE × SV)} {o : NE} {x : SV}, cellOf cs o = some x → (o, x) ∈ cs
  | [], _, _, h => by cases h
  | c :: l, o, x, h => by
    simp only [cellOf] at h
    split at h
    · rename_i e
      injection h with h; subst h
      rw [← NE.eqb_eq _ _ e]; exact List.mem_cons_self
    · exact List.mem_cons_of_mem _ (cellOf_some h)
theorem cellsOf_some {cs : List (NE × SV)} {o : NE} : ∀ {n i : Nat} {xs : List SV}, cellsOf cs o i n = some xs → xs.length = n ∧ ∀ j x, xs[j]? = some x → (o.plus (i + j), x) ∈ cs
  | 0, i, xs, h => by simp only [cellsOf] at h; injection h with h; subst h; simp
  | n + 1, i, xs, h => by
    simp only [cellsOf] at h
    split at h
    · rename_i x r h1 h2
      injection h with h; subst h
      obtain ⟨g1, g2⟩ := cellsOf_some h2
      refine ⟨by simp [g1], fun j y hj => ?_⟩
      cases j with
      | zero => simp at hj; subst hj; exact cellOf_some h1
      | succ j => rw [show i + (j + 1) = i + 1 + j by omega]; exact g2 j y (by simpa using hj)
    · cases h
theorem loadKn_some {b o : NE} {n : Nat} {xs : List SV} (hl : loadKn kn b o n = some xs) : ∃ B ∈ kn, B.b = b ∧ xs.length = n ∧ ∀ j x, xs[j]? = some x → (o.plus j, x) ∈ B.cs := by
  unfold loadKn at hl
  split at hl
  · rename_i B hB
    obtain ⟨h1, h2⟩ := findKB_some hB
    obtain ⟨h3, h4⟩ := cellsOf_some hl
    exact ⟨B, h1, h2, h3, fun j x hj => by simpa using h4 j x hj⟩
  · cases hl
theorem loadKn_sound (H : KnOk ρ kn h) {b o : NE} {n : Nat} {xs : List SV} (hl : loadKn kn b o n = some xs) :
    xs.length = n ∧ ∀ j x, xs[j]? = some x → get h (b.den ρ) (o.den ρ + j) = some (x.den ρ) ∧ frz h (b.den ρ) (o.den ρ + j) = false := by
  obtain ⟨B, h1, h2, h3, h4⟩ := loadKn_some hl
  refine ⟨h3, fun j x hj => ?_⟩
  have := (H.all B h1).2.2 _ (h4 j x hj)
  rw [h2] at this
  simpa only [NE.plus_den] using this
theorem loadKn_fix {m : Nat} (H : KnFix m ρ kn) {b o : NE} {n : Nat} {xs : List SV} (hl : loadKn kn b o n = some xs) : ∀ x ∈ xs, Fix SV.den m ρ x := by
  obtain ⟨B, h1, h2, h3, h4⟩ := loadKn_some hl
  intro x hx
  obtain ⟨j, hj, rfl⟩ := List.getElem_of_mem hx
  exact ((H B h1).2 _ (h4 j _ (by simp [hj]))).2
theorem setKB_mem : ∀ {kn : List KB} {b : NE} {f : List (NE × SV) → List (NE × SV)} {B : KB}, B ∈ setKB kn b f → (∃ C ∈ kn, C.b = b ∧ findKB kn b = some C ∧ B = { C with cs := f C.cs }) ∨ (B ∈ kn ∧ (∀ C, findKB kn b = some C → C.b.den ρ ≠ B.b.den ρ ∨ ¬ kn.Pairwise fun B C => B.b.den ρ ≠ C.b.den ρ))
  | [], _, _, _, h => by cases h
  | C :: l, b, f, B, h => by
    simp only [setKB] at h
    split at h
    · rename_i e
      rcases List.mem_cons.1 h with rfl | h
      · exact .inl ⟨C, List.mem_cons_self, NE.eqb_eq _ _ e, by simp [findKB, e], rfl⟩
      · refine .inr ⟨List.mem_cons_of_mem _ h, fun D hD => ?_⟩
        simp only [findKB, e, if_true] at hD
        injection hD with hD; subst hD
        by_cases hp : (C :: l).Pairwise fun B C => B.b.den ρ ≠ C.b.den ρ
        · exact .inl ((List.pairwise_cons.1 hp).1 B h)
        · exact .inr hp
    · rename_i e
      rcases List.mem_cons.1 h with rfl | h
      · refine .inr ⟨List.mem_cons_self, fun D hD => ?_⟩
        simp only [findKB, e] at hD
        obtain ⟨h1, _⟩ := findKB_some (by simpa using hD)
        by_cases hp : (B :: l).Pairwise fun B C => B.b.den ρ ≠ C.b.den ρ
        · exact .inl (fun he => (List.pairwise_cons.1 hp).1 D h1 he.symm)
        · exact .inr hp
      · rcases setKB_mem h with ⟨D, h1, h2, h3, h4⟩ | ⟨h1, h2⟩
        · exact .inl ⟨D, List.mem_cons_of_mem _ h1, h2, by simp [findKB, e, h3], h4⟩
        · refine .inr ⟨List.mem_cons_of_mem _ h1, fun D hD => ?_⟩
          simp only [findKB, e] at hD
          rcases h2 D (by simpa using hD) with h3 | h3
          · exact .inl h3
          · exact .inr fun hp => h3 (List.pairwise_cons.1 hp).2
theorem setKB_bs : ∀ (kn : List KB) (b : NE) (f : List (NE × SV) → List (NE × SV)), (setKB kn b f).map (·.b) = kn.map (·.b)
  | [], _, _ => rfl
  | C :: l, b, f => by
    simp only [setKB]
    split
    · rfl
    · simp only [List.map_cons, setKB_bs l b f]
theorem setKB_ne (H : kn.Pairwise fun B C => B.b.den ρ ≠ C.b.den ρ) (b : NE) (f : List (NE × SV) → List (NE × SV)) : (setKB kn b f).Pairwise fun B C => B.b.den ρ ≠ C.b.den ρ := by
  have h1 : (kn.map (·.b)).Pairwise fun x y => x.den ρ ≠ y.den ρ := List.pairwise_map.2 H
  rw [← setKB_bs kn b f] at h1
  exact (List.pairwise_map (f := fun B : KB => B.b) (R := fun x y : NE => x.den ρ ≠ y.den ρ)).1 h1
theorem setKB_find : ∀ {kn : List KB} {b : NE} {f : List (NE × SV) → List (NE × SV)} {B : KB}, findKB kn b = some B → findKB (setKB kn b f) b = some { B with cs := f B.cs }
  | [], _, _, _, h => by cases h
  | C :: l, b, f, B, h => by
    simp only [findKB] at h
    simp only [setKB]
    split at h
    · rename_i e
      injection h with h; subst h
      simp [e, findKB]
    · rename_i e
      simp only [e, Bool.false_eq_true, if_false, findKB]
      exact setKB_find h
/-- The block that is written is a known one, or differs from all of them. -/
def Meets (ρ : Env) (kn : List KB) (b : NE) : Prop := (∃ B, findKB kn b = some B) ∨ ∀ B ∈ kn, b.den ρ ≠ B.b.den ρ
theorem Meets.set {b : NE} (H : Meets ρ kn b) (f : List (NE × SV) → List (NE × SV)) : Meets ρ (setKB kn b f) b := by
  rcases H with ⟨B, hB⟩ | H
  · exact .inl ⟨_, setKB_find hB⟩
  · refine .inr fun B hB => ?_
    have : B.b ∈ (setKB kn b f).map (·.b) := List.mem_map.2 ⟨B, hB, rfl⟩
    rw [setKB_bs] at this
    obtain ⟨C, hC, e⟩ := List.mem_map.1 this
    rw [← e]; exact H C hC
theorem KnOk.setCell (H : KnOk ρ kn h) {b o : NE} {x : SV} (hm : Meets ρ kn b) (hg : (get h (b.den ρ) (o.den ρ)).isSome = true) (hf : frz h (b.den ρ) (o.den ρ) = false) :
    KnOk ρ (setKB kn b fun cs => putCell cs o x) (setc h (b.den ρ) (o.den ρ) (x.den ρ)) where
  all := fun B hB => by
    rcases setKB_mem (ρ := ρ) hB with ⟨C, h1, h2, h3, rfl⟩ | ⟨h1, h2⟩
    · obtain ⟨g1, g2, g3⟩ := H.all C h1
      refine ⟨by rw [size_setc]; exact g1, g2, fun c hc => ?_⟩
      rw [get_setc, frz_setc]
      simp only [h2]
      rcases List.mem_cons.1 hc with rfl | hc
      · exact ⟨by rw [if_pos (by simp [hg])], hf⟩
      · obtain ⟨hc1, hc2⟩ := List.mem_filter.1 hc
        have := NE.apart_ne ρ hc2
        obtain ⟨k1, k2⟩ := g3 c hc1
        rw [h2] at k1 k2
        exact ⟨by rw [if_neg (fun e => this e.2.1.symm)]; exact k1, k2⟩
    · obtain ⟨g1, g2, g3⟩ := H.all B h1
      have hne : b.den ρ ≠ B.b.den ρ := by
        rcases hm with ⟨D, hD⟩ | hm
        · rcases h2 D hD with h | h
          · rw [(findKB_some hD).2] at h; exact h
          · exact absurd H.ne h
        · exact hm B h1
      refine ⟨by rw [size_setc]; exact g1, g2, fun c hc => ?_⟩
      rw [get_setc, frz_setc, if_neg (fun e => hne e.1)]
      exact g3 c hc
  ne := setKB_ne H.ne _ _
theorem KnFix.set {m : Nat} (H : KnFix m ρ kn) {b : NE} {f : List (NE × SV) → List (NE × SV)} (hf : ∀ cs, (∀ c ∈ cs, Fix NE.den m ρ c.1 ∧ Fix SV.den m ρ c.2) → ∀ c ∈ f cs, Fix NE.den m ρ c.1 ∧ Fix SV.den m ρ c.2) : KnFix m ρ (setKB kn b f) := by
  intro B hB
  rcases setKB_mem (ρ := ρ) hB with ⟨C, h1, h2, h3, rfl⟩ | ⟨h1, h2⟩
  · exact ⟨(H C h1).1, hf _ (H C h1).2⟩
  · exact H B h1
theorem KnFix.put {m : Nat} (H : KnFix m ρ kn) {b o : NE} {x : SV} (ho : Fix NE.den m ρ o) (hx : Fix SV.den m ρ x) : KnFix m ρ (setKB kn b fun cs => putCell cs o x) :=
  H.set fun cs hcs c hc => by
    rcases List.mem_cons.1 hc with rfl | hc
    · exact ⟨ho, hx⟩
    · exact hcs c (List.mem_filter.1 hc).1
theorem wrKn_fix {m : Nat} (H : KnFix m ρ kn) (p : PE) : KnFix m ρ (wrKn kn p) := by
  unfold wrKn
  split
  · exact H.set fun _ _ c hc => by cases hc
  · exact H
theorem wrKn_ok (H : KnOk ρ kn h) (p : PE) : KnOk ρ (wrKn kn p) h := by
  unfold wrKn
  split
  · refine ⟨fun B hB => ?_, setKB_ne H.ne _ _⟩
    rcases setKB_mem (ρ := ρ) hB with ⟨C, h1, h2, h3, rfl⟩ | ⟨h1, h2⟩
    · exact ⟨(H.all C h1).1, (H.all C h1).2.1, fun c hc => by cases hc⟩
    · exact H.all B h1
  · exact H
section
variable {P : Program} {body : Code} {nt : Nat} {keep : List Nat → List Nat} {Qb : Exit → Act → World → Prop} {R : Ending → World → Prop}
theorem knowCells_sound {hE : HE} {b : NE} {k : VC} : ∀ {cs : List (NE × SV)}, (knowCells hE b k cs).den P body nt keep Qb R ρ → (∀ c ∈ cs, get (hE.den ρ) (b.den ρ) (c.1.den ρ) = some (c.2.den ρ)) → k.den P body nt keep Qb R ρ
  | [], hd, _ => hd
  | c :: l, hd, hc => by
    simp only [knowCells, VC.den] at hd
    exact knowCells_sound (hd (hc c List.mem_cons_self)) fun c hc' => hc c (List.mem_cons_of_mem _ hc')
theorem knowAll_sound {hE : HE} {k : VC} : ∀ {kn : List KB}, (knowAll hE k kn).den P body nt keep Qb R ρ → (∀ B ∈ kn, B.ok ρ (hE.den ρ)) → k.den P body nt keep Qb R ρ
  | [], hd, _ => hd
  | B :: l, hd, hc => by
    simp only [knowAll] at hd
    have hrest : ∀ C ∈ l, C.ok ρ (hE.den ρ) := fun C hC => hc C (List.mem_cons_of_mem _ hC)
    split at hd
    · exact knowAll_sound hd hrest
    · rename_i xs _ hx
      simp only [VC.den] at hd
      refine knowAll_sound (hd ⟨(hc B List.mem_cons_self).1, fun j v hj => ?_⟩) hrest
      simp only [List.getElem?_map, Option.map_eq_some_iff] at hj
      obtain ⟨x, hx1, rfl⟩ := hj
      obtain ⟨_, h4⟩ := cellsOf_some hx
      have := (hc B List.mem_cons_self).2.2 _ (h4 j x hx1)
      simpa only [NE.plus_den, Nat.zero_add] using this
    · exact knowAll_sound (knowCells_sound hd fun c hc' => ((hc B List.mem_cons_self).2.2 c hc').1) hrest
theorem neAll_sound {b : NE} {k : VC} : ∀ {kn : List KB}, (neAll b k kn).den P body nt keep Qb R ρ → (∀ B ∈ kn, b.den ρ ≠ B.b.den ρ) ∧ k.den P body nt keep Qb R ρ
  | [], hd => ⟨by simp, hd⟩
  | B :: l, hd => by
    simp only [neAll, VC.den, BE.prop, IE.den] at hd
    obtain ⟨h1, h2⟩ := neAll_sound hd.2
    refine ⟨fun C hC => ?_, h2⟩
    rcases List.mem_cons.1 hC with rfl | hC
    · have := hd.1; omega
    · exact h1 C hC
theorem nepAll_sound {p : PE} {k : VC} : ∀ {kn : List KB}, (nepAll p k kn).den P body nt keep Qb R ρ → (∀ B ∈ kn, B.cs ≠ [] → ∀ a, p.den ρ = some a → a.block ≠ B.b.den ρ) ∧ k.den P body nt keep Qb R ρ
  | [], hd => ⟨by simp, hd⟩
  | B :: l, hd => by
    simp only [nepAll] at hd
    split at hd
    · rename_i hcs
      obtain ⟨h1, h2⟩ := nepAll_sound hd
      refine ⟨fun C hC hne => ?_, h2⟩
      rcases List.mem_cons.1 hC with rfl | hC
      · exact absurd hcs hne
      · exact h1 C hC hne
    · simp only [VC.den] at hd
      obtain ⟨h1, h2⟩ := nepAll_sound hd.2
      refine ⟨fun C hC hne => ?_, h2⟩
      rcases List.mem_cons.1 hC with rfl | hC
      · exact hd.1
      · exact h1 C hC hne
theorem wrAsk_sound {p : PE} {k : VC} (hd : (wrAsk kn k p).den P body nt keep Qb R ρ) (H : KnOk ρ kn h) :
    k.den P body nt keep Qb R ρ ∧ ∀ B ∈ wrKn kn p, B.cs ≠ [] → ∀ a, p.den ρ = some a → a.block ≠ B.b.den ρ := by
  unfold wrAsk at hd
  split at hd
  · exact ⟨hd, fun B hB _ a ha => by simp only [PE.den] at ha; cases ha⟩
  · rename_i b o
    split at hd
    · rename_i D hD
      refine ⟨hd, fun B hB hcs a ha => ?_⟩
      simp only [PE.den] at ha
      injection ha with ha; subst ha
      rcases setKB_mem (ρ := ρ) hB with ⟨C, h1, h2, h3, rfl⟩ | ⟨h1, h2⟩
      · exact absurd rfl hcs
      · rcases h2 D hD with h | h
        · rw [(findKB_some hD).2] at h; exact h
        · exact absurd H.ne h
    · rename_i hn
      obtain ⟨h1, h2⟩ := neAll_sound hd
      refine ⟨h2, fun B hB hcs a ha => ?_⟩
      simp only [PE.den] at ha
      injection ha with ha; subst ha
      rcases setKB_mem (ρ := ρ) hB with ⟨C, g1, g2, g3, rfl⟩ | ⟨g1, g2⟩
      · exact absurd rfl hcs
      · exact h1 B g1
  · rename_i hn1 hn2
    obtain ⟨h1, h2⟩ := nepAll_sound hd
    refine ⟨h2, fun B hB hcs a ha => h1 B ?_ hcs a ha⟩
    unfold wrKn at hB
    split at hB
    · exact absurd rfl (hn2 _ _)
    · exact hB
theorem wrAsk_meets {b o : NE} {k : VC} (hd : (wrAsk kn k (.at b o)).den P body nt keep Qb R ρ) : k.den P body nt keep Qb R ρ ∧ Meets ρ kn b := by
  unfold wrAsk at hd
  simp only at hd
  split at hd
  · rename_i D hD; exact ⟨hd, .inl ⟨D, hD⟩⟩
  · obtain ⟨h1, h2⟩ := neAll_sound hd
    exact ⟨h2, .inr h1⟩
end
theorem wrOf_mono {wr : List WI} {p : PE} {n : Nat} (hn : WS.den ρ wr n) : WS.den ρ (wrOf kn wr p) n := by
  unfold wrOf
  split
  · exact hn
  · split
    · split
      · exact hn
      · exact .inr hn
    · exact .inr hn
  · exact .inr hn
theorem wrOf_at {wr : List WI} {p : PE} {a : Addr} (H : KnOk ρ kn h) (ha : p.den ρ = some a) (hlt : a.block < (ρ.h 0).size) : WS.den ρ (wrOf kn wr p) a.block := by
  unfold wrOf
  split
  · simp only [PE.den] at ha; cases ha
  · simp only [PE.den] at ha
    injection ha with ha; subst ha
    split
    · rename_i B hB
      obtain ⟨h1, h2⟩ := findKB_some hB
      split
      · rename_i hnew
        have := (H.all B h1).2.1 hnew
        rw [h2] at this
        simp only at hlt; omega
      · exact .inl rfl
    · exact .inl rfl
  · exact .inl ⟨a, ha, rfl⟩
theorem WS_fix_cons {m : Nat} {x : WI} {wr : List WI} (hx : ∀ ρ', Agree m ρ ρ' → WI.den ρ' x = WI.den ρ x) (hw : Fix WS.den m ρ wr) : Fix WS.den m ρ (x :: wr) := by
  intro ρ' ha
  funext n
  simp only [WS.den, hx ρ' ha, hw ρ' ha]
theorem wrOf_fix {m : Nat} {wr : List WI} {p : PE} (hp : Fix PE.den m ρ p) (hw : Fix WS.den m ρ wr) : Fix WS.den m ρ (wrOf kn wr p) := by
  have key : ∀ b o, p = .at b o → ∀ ρ', Agree m ρ ρ' → WI.den ρ' (.blk b) = WI.den ρ (.blk b) := by
    intro b o e ρ' ha
    have := hp ρ' ha
    rw [e] at this
    simp only [PE.den] at this
    injection this with this
    injection this with this _
    funext n; simp only [WI.den, this]
  unfold wrOf
  split
  · exact hw
  · rename_i b o
    split
    · split
      · exact hw
      · exact WS_fix_cons (key b o rfl) hw
    · exact WS_fix_cons (key b o rfl) hw
  · refine WS_fix_cons (fun ρ' ha => ?_) hw
    funext n; simp only [WI.den, hp ρ' ha]
end
structure Inv (nt : Nat) (ρ : Env) (st : St) (a : Act) (w : World) : Prop where
  ag : Ag ρ nt st.σ a
  fix : ∀ e ∈ st.σ, Fix SV.den st.m ρ e.x
  hfix : Fix HE.den st.m ρ st.h
  heap : w.heap = st.h.den ρ
  rest : outw w = ρ.o
  m0 : 0 < st.m
  kn : KnOk ρ st.kn (st.h.den ρ)
  knfix : KnFix st.m ρ st.kn
  fr : Frame (WS.den ρ st.wr) (ρ.h 0) (st.h.den ρ)
  wrfix : Fix WS.den st.m ρ st.wr
theorem Inv.later {nt : Nat} {ρ ρ1 : Env} {st : St} {a : Act} {w : World} (h : Inv nt ρ st a w) {m' : Nat} (ha : Agree st.m ρ ρ1) (hm : st.m ≤ m') : Inv nt ρ1 { st with m := m' } a w where
  ag := ⟨h.ag.1, h.ag.2.1, fun e he hg => by rw [h.ag.2.2 e he hg, h.fix e he ρ1 ha]⟩
  fix := fun e he => (h.fix e he).later ha hm
  hfix := h.hfix.later ha hm
  heap := by rw [h.heap, h.hfix ρ1 ha]
  rest := by rw [h.rest, ha.o]
  m0 := Nat.lt_of_lt_of_le h.m0 hm
  kn := by rw [h.hfix ρ1 ha]; exact h.kn.agree h.knfix ha h.m0
  knfix := h.knfix.later ha hm
  fr := by rw [h.hfix ρ1 ha, h.wrfix ρ1 ha, ha.h0 h.m0]; exact h.fr
  wrfix := h.wrfix.later ha hm
/-- The heap is another one now. -/
theorem Inv.turn {nt : Nat} {ρ : Env} {st : St} {a : Act} {w w' : World} (h : Inv nt ρ st a w) {h' : HE} {kn' : List KB} {wr' : List WI} (hf : Fix HE.den st.m ρ h') (hw : w'.heap = h'.den ρ) (ho : outw w' = outw w)
    (hk : KnOk ρ kn' (h'.den ρ)) (hkf : KnFix st.m ρ kn') (hfr : Frame (WS.den ρ wr') (ρ.h 0) (h'.den ρ)) (hwf : Fix WS.den st.m ρ wr') : Inv nt ρ { st with h := h', kn := kn', wr := wr' } a w' :=
  ⟨h.ag, h.fix, hf, hw, ho.trans h.rest, h.m0, hk, hkf, hfr, hwf⟩

section
variable {P : Program} {body : Code} {nt : Nat} {keep : List Nat → List Nat} {Qb : Exit → Act → World → Prop} {R : Ending → World → Prop}
theorem needAll_sound {k : VC} {ρ : Env} : ∀ {l : List BE}, (needAll k l).den P body nt keep Qb R ρ → (∀ p ∈ l, p.prop ρ) ∧ k.den P body nt keep Qb R ρ
  | [], h => ⟨by simp, h⟩
  | p :: l, h => by
    simp only [needAll, VC.den] at h
    obtain ⟨h1, h2⟩ := needAll_sound h.2
    exact ⟨by intro q hq; rcases List.mem_cons.1 hq with rfl | hq; · exact h.1
              · exact h1 q hq, h2⟩
theorem needIfAll_sound {g : BE} {k : VC} {ρ : Env} : ∀ {l : List BE}, (needIfAll g k l).den P body nt keep Qb R ρ → (g.prop ρ → ∀ p ∈ l, p.prop ρ) ∧ k.den P body nt keep Qb R ρ
  | [], h => ⟨by simp, h⟩
  | p :: l, h => by
    simp only [needIfAll, VC.den] at h
    obtain ⟨h1, h2⟩ := needIfAll_sound h.2
    exact ⟨by intro hg q hq; rcases List.mem_cons.1 hq with rfl | hq; · exact h.1 hg
              · exact h1 hg q hq, h2⟩
theorem putσ_fix {m : Nat} {ρ : Env} {σ : Sig} {d : Nat} {x : SV} {g : Option (Nat × Bool)} (h : ∀ e ∈ σ, Fix SV.den m ρ e.x) (hx : Fix SV.den m ρ x) : ∀ e ∈ putσ σ d x g, Fix SV.den m ρ e.x := by
  intro e he
  rcases List.mem_cons.1 he with rfl | he
  · exact hx
  · exact h e (List.mem_filter.1 he).1
theorem dropσ_fix {m : Nat} {ρ : Env} {σ : Sig} {d : Nat} (h : ∀ e ∈ σ, Fix SV.den m ρ e.x) : ∀ e ∈ dropσ σ d, Fix SV.den m ρ e.x :=
  fun e he => h e (List.mem_filter.1 he).1
theorem putS_sound {c : Cfg} {st : St} {dst : Option Nat} {x : SV} {K : St → VC} {ρ : Env} {a : Act} {w : World} (h : (putS c st dst x K).den P body nt keep Qb R ρ) (hnt : c.nt = nt)
    (hi : Inv nt ρ st a w) : ∃ st', (K st').den P body nt keep Qb R ρ ∧ Inv nt ρ st' (a.put dst (x.den ρ)) w ∧ st'.m = st.m ∧ st'.h = st.h := by
  unfold putS at h
  cases dst with
  | none => exact ⟨st, h, hi, rfl, rfl⟩
  | some d =>
    simp only at h
    split at h
    · rename_i hc
      simp only [Bool.and_eq_true] at hc
      refine ⟨_, h, ⟨Ag_put hi.ag (by rw [← hnt]; exact blt_lt hc.1) (fun _ => rfl), putσ_fix hi.fix (Fix.sv hc.2), hi.hfix, hi.heap, hi.rest, hi.m0, hi.kn, hi.knfix, hi.fr, hi.wrfix⟩, rfl, rfl⟩
    · exact h.elim
theorem exCK_sound {ck : CK} {st : St} {f : SV → St → VC} {ρ : Env} (h : (exCK ck st f).den P body nt keep Qb R ρ) :
    ∃ ρ' x m', (f x { st with m := m' }).den P body nt keep Qb R ρ' ∧ Agree st.m ρ ρ' ∧ st.m ≤ m' ∧ x.lt m' = true ∧ ρ'.e = ρ.e := by
  have b1 : ∀ k, Nat.blt k (k + 1) = true := fun k => by simp [Nat.blt_eq]
  have b3 : ∀ k, Nat.blt k (k + 3) = true := fun k => by simp [Nat.blt_eq]
  have b3' : ∀ k, Nat.blt (k + 1) (k + 3) = true := fun k => by simp [Nat.blt_eq]
  have b3'' : ∀ k, Nat.blt (k + 2) (k + 3) = true := fun k => by simp [Nat.blt_eq]
  cases ck <;> simp only [exCK, VC.den] at h
  case int k => obtain ⟨x, h⟩ := h; exact ⟨_, _, _, h, Agree.setI (Nat.le_refl _) x, Nat.le_succ _, by simp only [SV.lt, IE.lt, b1], rfl⟩
  case bool => obtain ⟨x, h⟩ := h; exact ⟨_, _, _, h, Agree.setB (Nat.le_refl _) x, Nat.le_succ _, by simp only [SV.lt, BE.lt', b1], rfl⟩
  case str => obtain ⟨x, h⟩ := h; exact ⟨_, _, _, h, Agree.setS (Nat.le_refl _) x, Nat.le_succ _, by simp only [SV.lt, SE.lt, b1], rfl⟩
  case ptr => obtain ⟨x, h⟩ := h; exact ⟨_, _, _, h, Agree.setP (Nat.le_refl _) x, Nat.le_succ _, by simp only [SV.lt, PE.lt, b1], rfl⟩
  case slice =>
    obtain ⟨x, y, z, h⟩ := h
    refine ⟨_, _, _, h, ((Agree.setP (Nat.le_refl _) x).trans (Agree.setN (Nat.le_succ _) y) (Nat.le_refl _)).trans (Agree.setN (Nat.le_succ_of_le (Nat.le_succ _)) z) (Nat.le_refl _), by omega, by simp only [SV.lt, PE.lt, NE.lt, b3, b3', b3'', Bool.and_self], rfl⟩
  case iface => obtain ⟨x, h⟩ := h; exact ⟨_, _, _, h, Agree.setF (Nat.le_refl _) x, Nat.le_succ _, by simp only [SV.lt, b1], rfl⟩
  case map => obtain ⟨x, h⟩ := h; exact ⟨_, _, _, h, Agree.setM (Nat.le_refl _) x, Nat.le_succ _, by simp only [SV.lt, b1], rfl⟩
  case fn => obtain ⟨x, h⟩ := h; exact ⟨_, _, _, h, Agree.setC (Nat.le_refl _) x, Nat.le_succ _, by simp only [SV.lt, b1], rfl⟩
  case val => obtain ⟨x, h⟩ := h; exact ⟨_, _, _, h, Agree.setX (Nat.le_refl _) x, Nat.le_succ _, by simp only [SV.lt, b1], rfl⟩
theorem exCKs_sound : ∀ {l : List CK} {st : St} {f : List SV → St → VC} {ρ : Env}, (exCKs l st f).den P body nt keep Qb R ρ →
    ∃ ρ' xs m', (f xs { st with m := m' }).den P body nt keep Qb R ρ' ∧ Agree st.m ρ ρ' ∧ st.m ≤ m' ∧ (∀ x ∈ xs, Fix SV.den m' ρ' x) ∧ xs.length = l.length ∧ ρ'.e = ρ.e
  | [], st, f, ρ, h => ⟨ρ, [], st.m, h, Agree.refl _ _, Nat.le_refl _, by simp, rfl, rfl⟩
  | c :: l, st, f, ρ, h => by
    simp only [exCKs] at h
    obtain ⟨ρ1, x, m1, h1, a1, l1, hx, e1⟩ := exCK_sound h
    obtain ⟨ρ2, xs, m2, h2, a2, l2, hxs, hl, e2⟩ := exCKs_sound h1
    refine ⟨ρ2, x :: xs, m2, h2, a1.trans a2 l1, Nat.le_trans l1 l2, ?_, by simp [hl], e2.trans e1⟩
    intro y hy
    rcases List.mem_cons.1 hy with rfl | hy
    · exact (Fix.sv hx).later a2 l2
    · exact hxs y hy
theorem isAll_sound {h : HE} {b o : NE} {k : VC} {ρ : Env} : ∀ {xs : List SV} {i : Nat}, (isAll h b o k i xs).den P body nt keep Qb R ρ →
    (∀ j x, xs[j]? = some x → get (h.den ρ) (b.den ρ) (o.den ρ + (i + j)) = some (x.den ρ)) ∧ k.den P body nt keep Qb R ρ
  | [], i, hh => ⟨by simp, hh⟩
  | x :: xs, i, hh => by
    simp only [isAll, VC.den, NE.plus_den] at hh
    obtain ⟨h1, h2⟩ := isAll_sound hh.2
    refine ⟨fun j y hj => ?_, h2⟩
    cases j with
    | zero => simp at hj; subst hj; exact hh.1
    | succ j => simp at hj; rw [show o.den ρ + (i + (j + 1)) = o.den ρ + (i + 1 + j) from by omega]; exact h1 j y hj
end
end
end Go.Proofs.YtkcjhabbgaaknaaGreat.E

/- The engine: the soundness of an operation that is run. -/
namespace Go.Proofs.YtkcjhabbgaaknaaGreat.E
section
variable {P : Program} {body : Code} {nt : Nat} {keep : List Nat → List Nat} {Qb : Exit → Act → World → Prop} {R : Ending → World → Prop}

theorem get_cell (w : World) (b o : Nat) : w.cell? ⟨b, o, none⟩ = get w.heap b o := by
  unfold World.cell? get; cases w.heap[b]? with
  | none => rfl
  | some x => cases x <;> rfl
theorem frz_frozen (w : World) (b o : Nat) : w.frozen? ⟨b, o, none⟩ = frz w.heap b o := by
  unfold World.frozen? frz; cases w.heap[b]? with
  | none => rfl
  | some x => cases x <;> rfl
theorem setc_setCell (w : World) (b o : Nat) (v : Value) : (w.setCell ⟨b, o, none⟩ v).heap = setc w.heap b o v := by
  unfold World.setCell setc
  simp only [Option.isSome_none, Bool.false_eq_true, if_false]
  rfl
theorem SV.one_den (ρ : Env) (x : SV) (h : x.one = true) : (x.den ρ).oneCell' = true := by
  have h1 : ∀ o, (ifcVal o).oneCell' = true := by intro o; cases o <;> rfl
  have h2 : ∀ o, (cloVal o).oneCell' = true := by intro o; cases o <;> rfl
  cases x <;> simp only [SV.one] at h <;> (first | cases h | skip) <;> simp only [SV.den] <;> (first | rfl | exact h1 _ | exact h2 _ | exact (ρ.x _).2)
theorem run_load_cell {w : World} {b o : Nat} {v : Value} (h : get w.heap b o = some v) : (load ⟨b, o, none⟩).run P w = .ok v w := by
  rw [run_load, get_cell, h]
theorem run_store_cell {w : World} {b o : Nat} {v : Value} (hv : v.oneCell' = true) (h : (get w.heap b o).isSome = true) (hf : frz w.heap b o = false) :
    (store ⟨b, o, none⟩ v).run P w = .ok () (w.setCell ⟨b, o, none⟩ v) := by
  rw [run_store P w _ v _ hv, get_cell, frz_frozen, hf]
  cases hg : get w.heap b o with
  | none => rw [hg] at h; cases h
  | some u => rfl
theorem loadCellsFrom_run {w : World} {b o : Nat} : ∀ (vs : List Value) (i : Nat) (acc : Array Value), (∀ j v, vs[j]? = some v → get w.heap b (o + (i + j)) = some v) →
    (loadCellsFrom ⟨b, o, none⟩ i vs.length acc).run P w = .ok (acc ++ vs.toArray) w
  | [], i, acc, _ => by simp [loadCellsFrom]
  | v :: vs, i, acc, h => by
    have h0 := h 0 v (by simp)
    simp only [List.length_cons, loadCellsFrom]
    rw [Sem.run_bind, addr_add, run_load_cell (by simpa using h0)]
    simp only [Result.andThen]
    rw [loadCellsFrom_run vs (i + 1) _ (fun j u hj => by have := h (j + 1) u (by simpa using hj); rw [show o + (i + 1 + j) = o + (i + (j + 1)) from by omega]; exact this)]
    simp
theorem loadVar_run {w : World} {t : TypeId} {b o : Nat} {xs : List SV} {ρ : Env} {i : TypeInfo} (hi : P.info? t = some i) (hl : xs.length = i.size) {d : TypeDesc} (hu : P.underlying t = some d)
    (h : ∀ j x, xs[j]? = some x → get w.heap b (o + (0 + j)) = some (x.den ρ)) {y : SV} (hy : theOne (isAggB P t) xs = some y) :
    (loadVar t ⟨b, o, none⟩).run P w = .ok (y.den ρ) w := by
  unfold theOne at hy
  unfold loadVar
  rw [Sem.run_bind, isAgg_run hu]
  simp only [Result.andThen]
  split at hy
  · rename_i hb
    injection hy with hy; subst hy
    simp only [hb, if_true]
    rw [Sem.run_bind, sizeOf_run hi]
    simp only [Result.andThen]
    unfold loadCells
    have hh : ∀ j v, (xs.map (SV.den ρ))[j]? = some v → get w.heap b (o + (0 + j)) = some v := by
      intro j v hv
      simp only [List.getElem?_map, Option.map_eq_some_iff] at hv
      obtain ⟨x, hx, rfl⟩ := hv
      exact h j x hx
    have := loadCellsFrom_run (P := P) (w := w) (b := b) (o := o) (xs.map (SV.den ρ)) 0 #[] hh
    rw [List.length_map, hl] at this
    rw [Sem.run_bind, this]
    simp [SV.den]
  · rename_i hb
    simp only [hb]
    split at hy
    · rename_i x
      injection hy with hy; subst hy
      have := h 0 x (by simp)
      exact run_load_cell (by simpa using this)
    · cases hy
theorem loadKindsC_spec {c : Cfg} (hc : c.P0 = bare P) {t : TypeId} {ks : List CK} (h : loadKindsC c t = some ks) : ∃ i d, P.info? t = some i ∧ P.underlying t = some d ∧ ks.length = i.size := by
  unfold loadKindsC at h
  split at h
  · rename_i ks' i d h1 h2 h3
    split at h
    · rename_i hl
      injection h with h; subst h
      rw [hc] at h2 h3
      exact ⟨i, d, h2, h3, Nat.eq_of_beq_eq_true hl⟩
    · cases h
  · cases h
theorem withCells_sound {st : St} {b q : NE} {ks : List CK} {f : List SV → St → VC} {ρ : Env} (h : (withCells st b q ks f).den P body nt keep Qb R ρ) (H : KnOk ρ st.kn (st.h.den ρ)) (hf : KnFix st.m ρ st.kn) :
    ∃ ρ' xs m', (f xs { st with m := m' }).den P body nt keep Qb R ρ' ∧ Agree st.m ρ ρ' ∧ st.m ≤ m' ∧ (∀ x ∈ xs, Fix SV.den m' ρ' x) ∧ xs.length = ks.length ∧
      ∀ j x, xs[j]? = some x → get (st.h.den ρ') (b.den ρ') (q.den ρ' + (0 + j)) = some (x.den ρ') := by
  unfold withCells at h
  split at h
  · rename_i xs hl
    obtain ⟨h1, h2⟩ := loadKn_sound H hl
    exact ⟨ρ, xs, st.m, h, Agree.refl _ _, Nat.le_refl _, loadKn_fix hf hl, h1, fun j x hj => by rw [Nat.zero_add]; exact (h2 j x hj).1⟩
  · obtain ⟨ρ', xs, m', h1, ha, hm, hfx, hxl, _⟩ := exCKs_sound h
    obtain ⟨h2, h3⟩ := isAll_sound h1
    exact ⟨ρ', xs, m', h3, ha, hm, hfx, hxl, h2⟩
theorem storeCells_run {b o : Nat} {K : HE → List KB → VC} {ρ : Env} {bE oE : NE} (hb : bE.den ρ = b) (ho : oE.den ρ = o) : ∀ (xs : List SV) (i : Nat) (h : HE) (kn : List KB) (w : World), w.heap = h.den ρ → (∀ x ∈ xs, x.one = true) →
    KnOk ρ kn (h.den ρ) → Meets ρ kn bE → (storeAll bE oE K i xs h kn).den P body nt keep Qb R ρ →
    ∃ h' kn' w', (storeCells ⟨b, o, none⟩ (xs.map (SV.den ρ)) i).run P w = .ok () w' ∧ outw w' = outw w ∧ w'.heap = h'.den ρ ∧ (K h' kn').den P body nt keep Qb R ρ ∧ KnOk ρ kn' (h'.den ρ) ∧
      (∀ F, Frame F (ρ.h 0) (h.den ρ) → (b < (ρ.h 0).size → F b) → Frame F (ρ.h 0) (h'.den ρ)) ∧
      (∀ m, Fix HE.den m ρ h → Fix NE.den m ρ bE → Fix NE.den m ρ oE → (∀ x ∈ xs, Fix SV.den m ρ x) → KnFix m ρ kn → Fix HE.den m ρ h' ∧ KnFix m ρ kn')
  | [], i, h, kn, w, hw, _, hk, _, hd => ⟨h, kn, w, rfl, rfl, hw, hd, hk, fun _ hf _ => hf, fun _ hh _ _ _ hkf => ⟨hh, hkf⟩⟩
  | x :: xs, i, h, kn, w, hw, h1, hk, hme, hd => by
    have hpre : (get (h.den ρ) b (o + i)).isSome = true ∧ frz (h.den ρ) b (o + i) = false ∧
        (storeAll bE oE K (i + 1) xs (.set h bE (oE.plus i) x) (setKB kn bE fun cs => putCell cs (oE.plus i) x)).den P body nt keep Qb R ρ := by
      simp only [storeAll] at hd
      split at hd
      · rename_i ys hl
        obtain ⟨g1, g2⟩ := loadKn_sound hk hl
        obtain ⟨y, rfl⟩ : ∃ y, ys = [y] := by
          match ys, g1 with
          | [y], _ => exact ⟨y, rfl⟩
        obtain ⟨g3, g4⟩ := g2 0 y (by simp)
        simp only [NE.plus_den, hb, ho, Nat.add_zero] at g3 g4
        exact ⟨by rw [g3]; rfl, g4, hd⟩
      · simp only [VC.den, NE.plus_den, hb, ho] at hd
        exact hd
    obtain ⟨g1, g2, hd⟩ := hpre
    have hx := SV.one_den ρ x (h1 x List.mem_cons_self)
    have hw' : (w.setCell ⟨b, o + i, none⟩ (x.den ρ)).heap = (HE.set h bE (oE.plus i) x).den ρ := by
      rw [setc_setCell, hw]; simp only [HE.den, NE.plus_den, hb, ho]
    have hk' : KnOk ρ (setKB kn bE fun cs => putCell cs (oE.plus i) x) ((HE.set h bE (oE.plus i) x).den ρ) := by
      have := hk.setCell (b := bE) (o := oE.plus i) (x := x) hme (by rw [NE.plus_den, hb, ho]; exact g1) (by rw [NE.plus_den, hb, ho]; exact g2)
      simpa only [HE.den] using this
    obtain ⟨h', kn', w', hr, hrest, hh, hk2, hk3, hfr, hf⟩ := storeCells_run hb ho xs (i + 1) _ _ _ hw' (fun y hy => h1 y (List.mem_cons_of_mem _ hy)) hk' (hme.set _) hd
    refine ⟨h', kn', w', ?_, hrest, hh, hk2, hk3, fun F h4 h5 => hfr F ?_ h5, ?_⟩
    · simp only [List.map_cons, storeCells]
      rw [Sem.run_bind, addr_add, run_store_cell hx (by rw [hw]; exact g1) (by rw [hw]; exact g2)]
      exact hr
    · simp only [HE.den, hb]
      exact h4.set h5 _ _
    · intro m fh fb fo fx fk
      have fo' : Fix NE.den m ρ (oE.plus i) := fun ρ' ha => by rw [NE.plus_den, NE.plus_den, fo ρ' ha]
      refine hf m ?_ fb fo (fun y hy => fx y (List.mem_cons_of_mem _ hy)) (fk.put fo' (fx x List.mem_cons_self))
      intro ρ' ha
      simp only [HE.den, fo' ρ' ha, fh ρ' ha, fb ρ' ha, fx x List.mem_cons_self ρ' ha]
theorem callFunc_run {f : Nat} (h : enters P f = true) (args : Array Value) (w : World) : (callFunc f args).run P w = .ok (.enter f args) w := by
  unfold enters at h
  cases hf : P.funcs[f]? with
  | none => simp [hf] at h
  | some fn =>
    simp only [hf, Bool.and_eq_true, Bool.not_eq_true', beq_eq_false_iff_ne] at h
    unfold callFunc
    rw [Sem.run_bind, run_program]
    simp only [Result.andThen, hf]
    have h1 : (fn.name == "runtime.NumGoroutine") = false := by simpa using h.1
    have h2 : fn.body.isNone = false := by cases hb : fn.body <;> simp_all
    simp only [h1, h2, Bool.false_eq_true, if_false]
    rfl
theorem execOp_call {a : Act} {f : Operand} {args : Array Operand} {ats : Array TypeId} {dst : Option Nat} {ty : TypeId} {pos : String} {after : Array Edge} {guard : Option (Nat × Bool)}
    {g : Nat} {first cap as : List Value} (hf : a.eval f = .func (.func g) first.toArray cap.toArray) (ha : args.map a.eval = as.toArray) (he : enters P g = true) (w : World) :
    (execOp a.eval { dst, op := .call { callee := .value f, args, argTypes := ats }, type := ty, pos, after, guard }).run P w = .ok (.enter g (first ++ as ++ cap).toArray) w := by
  unfold execOp
  simp only []
  unfold resolve
  simp only [hf, ha, Deferred.ofValue, pure_bind]
  unfold invoke
  simp only []
  rw [callFunc_run he]
  simp

theorem alloc_run {t : TypeId} {z : List SV} {ρ : Env} (h : zeroCells P t = some z) (w : World) :
    (Instr.alloc t true (.tuple #[])).run P w = .ok (.pointer (some ⟨w.heap.size, 0, none⟩)) { w with heap := w.heap.push (.cells (z.map (SV.den ρ)).toArray t) } := by
  obtain ⟨v, hv, hc⟩ := zeroCells_sound (ρ := ρ) h
  unfold Instr.alloc
  rw [Sem.run_bind, zeroValue_run hv]
  simp only [Result.andThen]
  rw [Sem.run_bind]
  unfold newVar newRow
  rw [hc]
  rfl
theorem box_run {t : TypeId} {y : SV} {ρ : Env} (w : World) :
    (Instr.box t (y.den ρ)).run P w = .ok (.pointer (some ⟨w.heap.size, 0, none⟩)) { w with heap := w.heap.push (.cells (y.cells.map (SV.den ρ)).toArray t) } := by
  unfold Instr.box newVar newRow
  rw [SV.cells_den]
  rfl
theorem typeShape_sound {c : Cfg} {t : TypeId} {st : St} {f : SV → St → VC} {ρ : Env} (h : (typeShape c t st f).den P body nt keep Qb R ρ) :
    ∃ ρ' x m', (f x { st with m := m' }).den P body nt keep Qb R ρ' ∧ Agree st.m ρ ρ' ∧ st.m ≤ m' ∧ Fix SV.den m' ρ' x ∧ ρ'.e = ρ.e := by
  unfold typeShape at h
  split at h
  · rename_i ks hk
    split at h
    · obtain ⟨ρ', xs, m', h1, h2, h3, h4, h5, h6⟩ := exCKs_sound h
      refine ⟨ρ', _, m', h1, h2, h3, ?_, h6⟩
      intro ρ2 ha
      simp only [SV.den]
      rw [List.map_congr_left fun x hx => h4 x hx ρ2 ha]
    · split at h
      · obtain ⟨ρ', x, m', h1, h2, h3, h4, h5⟩ := exCK_sound h
        exact ⟨ρ', x, m', h1, h2, h3, Fix.sv h4, h5⟩
      · exact h.elim
  · exact h.elim
theorem typeShapes_sound {c : Cfg} : ∀ {ts : List TypeId} {st : St} {f : List SV → St → VC} {ρ : Env}, (typeShapes c ts st f).den P body nt keep Qb R ρ →
    ∃ ρ' xs m', (f xs { st with m := m' }).den P body nt keep Qb R ρ' ∧ Agree st.m ρ ρ' ∧ st.m ≤ m' ∧ (∀ x ∈ xs, Fix SV.den m' ρ' x) ∧ ρ'.e = ρ.e
  | [], st, f, ρ, h => ⟨ρ, [], st.m, h, Agree.refl _ _, Nat.le_refl _, by simp, rfl⟩
  | t :: ts, st, f, ρ, h => by
    simp only [typeShapes] at h
    obtain ⟨ρ1, x, m1, h1, a1, l1, hx, e1⟩ := typeShape_sound h
    obtain ⟨ρ2, xs, m2, h2, a2, l2, hxs, e2⟩ := typeShapes_sound h1
    refine ⟨ρ2, x :: xs, m2, h2, a1.trans a2 l1, Nat.le_trans l1 l2, ?_, e2.trans e1⟩
    intro y hy
    rcases List.mem_cons.1 hy with rfl | hy
    · exact hx.later a2 l2
    · exact hxs y hy
theorem resultVC_sound {c : Cfg} {ts : List TypeId} {st : St} {K : SV → St → VC} {ρ : Env} (h : (resultVC c ts st K).den P body nt keep Qb R ρ) :
    ∃ ρ' x m', (K x { st with m := m' }).den P body nt keep Qb R ρ' ∧ Agree st.m ρ ρ' ∧ st.m ≤ m' ∧ ρ.e = .returned (x.den ρ') := by
  unfold resultVC at h
  split at h
  · obtain ⟨ρ', x, m', h1, h2, h3, _, h5⟩ := typeShape_sound h
    simp only [VC.den] at h1
    exact ⟨ρ', x, m', h1.2, h2, h3, by rw [← h5]; exact h1.1⟩
  · obtain ⟨ρ', xs, m', h1, h2, h3, _, h5⟩ := typeShapes_sound h
    simp only [VC.den] at h1
    exact ⟨ρ', _, m', h1.2, h2, h3, by rw [← h5]; exact h1.1⟩
end
end Go.Proofs.YtkcjhabbgaaknaaGreat.E

/- The engine: an operation is run: its soundness. -/
namespace Go.Proofs.YtkcjhabbgaaknaaGreat.E
section
variable {P : Program} {body : Code} {nt : Nat} {keep : List Nat → List Nat} {Qb : Exit → Act → World → Prop} {R : Ending → World → Prop} {ρ : Env}

theorem pickSV_sound {q : BE} {x y z : SV} (h : pickSV q x y = some z) : z.den ρ = if q.den ρ then x.den ρ else y.den ρ := by
  unfold pickSV at h
  split at h
  · injection h with h; subst h; simp only [SV.den, BE.den]; cases q.den ρ <;> simp
  · injection h with h; subst h; simp only [SV.den, BE.den]; cases q.den ρ <;> simp
  · injection h with h; subst h; simp only [SV.den, BE.den]; cases q.den ρ <;> simp
  · split at h
    · rename_i hk; subst hk
      injection h with h; subst h; simp only [SV.den, IE.den]; cases q.den ρ <;> simp
    · cases h
  · cases h
theorem run_pick {a : Act} {c x y : Operand} {b : Bool} (hc : a.eval c = .bool b) {dst : Option Nat} {ty : TypeId} {pos : String} {after : Array Edge} {guard : Option (Nat × Bool)} (w : World) :
    (execOp a.eval { dst, op := .pick c x y, type := ty, pos, after, guard }).run P w = .ok (.value (if b then a.eval x else a.eval y)) w := by
  unfold execOp
  simp only [hc, asBool, pure_bind]
  rfl
theorem find_mem {σ : Sig} {s : Nat} {e : Ent} (h : find σ s = some e) : e ∈ σ ∧ e.t = s := ⟨List.mem_of_find?_eq_some h, by simpa using List.find?_some h⟩
theorem look_fix {σ : Sig} {gs : List (Nat × Bool)} {o : Operand} {x : SV} {m : Nat} (h : look σ gs o = some x) (hf : ∀ e ∈ σ, Fix SV.den m ρ e.x) : Fix SV.den m ρ x := by
  cases o with
  | tmp t =>
    simp only [look] at h
    cases hfd : find σ t with
    | none => simp [hfd] at h
    | some e =>
      obtain ⟨t', y, g⟩ := e
      have hm := (find_mem hfd).1
      cases g with
      | none => simp [hfd] at h; subst h; exact hf _ hm
      | some g =>
        simp only [hfd] at h
        split at h
        · injection h with h; subst h; exact hf _ hm
        · cases h
  | const v => simp only [look] at h; intro ρ' _; rw [ofConst_sound ρ' h, ofConst_sound ρ h]
  | global g => simp only [look] at h; injection h with h; subst h; intro ρ' _; simp only [SV.den, PE.den, NE.den]
  | func f => simp only [look] at h; injection h with h; subst h; intro ρ' _; simp only [SV.den]; rfl
theorem quiet0_sound {c : Cfg} (hc : c.P0 = bare P) (heq : eqsOkB P c.eqs = true) {σ : Sig} {gs : List (Nat × Bool)} {o : Oper} {r : List BE × SV} (h : quiet0 c σ gs o = some r) {a : Act} (hag : Ag ρ nt σ a)
    (hg : ∀ g ∈ gs, Holds a (some g)) (hn : ∀ p ∈ r.1, p.prop ρ) (w : World) : (execOp a.eval o).run P w = .ok (.value (r.2.den ρ)) w := by
  unfold quiet0 at h
  split at h
  · rename_i x hp
    injection h with h; subst h
    obtain ⟨dst, op, ty, pos, after, guard⟩ := o
    simp only at hp
    unfold pickOp at hp
    split at hp
    · rename_i s u v
      split at hp
      · rename_i hs
        have e1 := look_sound hag hg hs
        have e2 := look_sound hag hg hp
        simp only [SV.den, BE.den] at e1
        rw [run_pick e1 w, e2]; rfl
      · rename_i hs
        have e1 := look_sound hag hg hs
        have e2 := look_sound hag hg hp
        simp only [SV.den, BE.den] at e1
        rw [run_pick e1 w, e2]; rfl
      · rename_i q _ _ hs
        have e1 := look_sound hag hg hs
        simp only [SV.den] at e1
        have hs' : a.tmps.getD s undef = .bool (q.den ρ) := e1
        split at hp
        · rename_i x' y' hx hy
          rw [run_pick e1 w, pickSV_sound (ρ := ρ) hp]
          cases hq : q.den ρ with
          | true =>
            have := look_sound hag (gs := (s, true) :: gs) (by
              intro g hgm; rcases List.mem_cons.1 hgm with rfl | hgm
              · show a.tmps.getD s undef = _; rw [hs', hq]
              · exact hg g hgm) hx
            simp [this]
          | false =>
            have := look_sound hag (gs := (s, false) :: gs) (by
              intro g hgm; rcases List.mem_cons.1 hgm with rfl | hgm
              · show a.tmps.getD s undef = _; rw [hs', hq]
              · exact hg g hgm) hy
            simp [this]
        · cases hp
      · cases hp
    · cases hp
  · split at h
    · rename_i x hx
      injection h with h; subst h
      obtain ⟨dst, op, ty, pos, after, guard⟩ := o
      simp only at hx
      unfold aggOp at hx
      split at hx
      · rename_i t ox oy _ _
        split at hx
        · rename_i xs ys l h1 h2 h3
          obtain ⟨q, hq, rfl⟩ := Option.map_eq_some_iff.1 hx
          have e1 := look_sound hag hg h1
          have e2 := look_sound hag hg h2
          obtain ⟨g1, g2⟩ := eqAgg_sound (ρ := ρ) heq h3 hq .eql ox oy w
          unfold execOp
          simp only [e1, e2]
          refine valM ?_
          rw [Sem.run_bind, g1]
          simp only [Result.andThen]
          rw [(binOp_eqs t (by simp only [SV.den]; rfl)).1, Sem.run_bind, g2]
          simp only [Result.andThen, Sem.run_pure, SV.den]
        · cases hx
      · rename_i t ox oy _ _
        split at hx
        · rename_i xs ys l h1 h2 h3
          obtain ⟨q, hq, rfl⟩ := Option.map_eq_some_iff.1 hx
          have e1 := look_sound hag hg h1
          have e2 := look_sound hag hg h2
          obtain ⟨g1, g2⟩ := eqAgg_sound (ρ := ρ) heq h3 hq .neq ox oy w
          unfold execOp
          simp only [e1, e2]
          refine valM ?_
          rw [Sem.run_bind, g1]
          simp only [Result.andThen]
          rw [(binOp_eqs t (by simp only [SV.den]; rfl)).2, Sem.run_bind, g2]
          simp only [Result.andThen, Sem.run_pure, SV.den, BE.den]
        · cases hx
      · cases hx
    · rw [hc, pureOp_bare] at h
      exact pureOp_sound h (fun y v hy => look_sound hag hg hy) hn w
theorem quietOp_sound {c : Cfg} (hc : c.P0 = bare P) (heq : eqsOkB P c.eqs = true) {σ : Sig} {gs : List (Nat × Bool)} {o : Oper} {r : List BE × SV} (h : quietOp c σ gs o = some r) {a : Act} (hag : Ag ρ nt σ a)
    (hg : ∀ g ∈ gs, Holds a (some g)) (hn : ∀ p ∈ r.1, p.prop ρ) (w : World) : (execOp a.eval o).run P w = .ok (.value (r.2.den ρ)) w := by
  unfold quietOp at h
  split at h
  · rename_i ns x hq
    injection h with h; subst h
    simp only at hn ⊢
    rw [SV.sim_den]
    exact quiet0_sound hc heq hq hag hg (hard_sound hn) w
  · cases h
theorem valM2 {m : Sem Value} {v : Value} {w w' : World} (h : m.run P w = .ok v w') : (do pure (.value (← m)) : Sem Next).run P w = .ok (.value v) w' := by
  rw [Sem.run_bind, h]; rfl
theorem upon_of_run {o : Oper} {a : Act} {next : Act → World → Prop} {Q : Exit → Act → World → Prop} {w w' : World} {v : Value} (h : (execOp a.eval o).run P w = .ok (.value v) w') (hn : next (a.put o.dst v) w') :
    o.wp P a w next Q := by
  unfold Oper.wp; rw [h]; exact hn
theorem putS_next {c : Cfg} {st : St} {dst : Option Nat} {x : SV} {K : St → VC} {a : Act} {w : World} {next : Act → World → Prop} {m0 : Nat} {ρ0 : Env}
    (h : (putS c st dst x K).den P body nt keep Qb R ρ) (hnt : c.nt = nt) (hi : Inv nt ρ st a w) (ha : Agree m0 ρ0 ρ) (hm : m0 ≤ st.m)
    (hK : ∀ st' ρ' a', (K st').den P body nt keep Qb R ρ' → Inv nt ρ' st' a' w → Agree m0 ρ0 ρ' → m0 ≤ st'.m → next a' w) : next (a.put dst (x.den ρ)) w := by
  obtain ⟨st', h1, h2, h3, _⟩ := putS_sound h hnt hi
  exact hK st' ρ _ h1 h2 ha (by rw [h3]; exact hm)
theorem and3 {a b c : Bool} (h : (a && b && c) = true) : a = true ∧ b = true ∧ c = true := by simpa [and_assoc] using h

theorem und' {t : TypeId} {d : TypeDesc} (h : (bare P).underlying t = some d) : P.underlying t = some d := h
theorem isInt_spec {t : TypeId} {k : IntKind} (h : isInt (bare P) t k = true) : P.underlying t = some (.int k) := by
  unfold isInt at h
  split at h
  · rename_i k' hk
    have : k = k' := by simpa using h
    subst this; exact hk
  · cases h
theorem okSrc_spec {t : TypeId} (h : okSrc (bare P) t = true) : (∃ e', P.underlying t = some (.slice e')) ∨ P.underlying t = some .string := by
  unfold okSrc at h
  split at h
  · rename_i e he; exact .inl ⟨e, he⟩
  · rename_i he; exact .inr he
  · cases h
theorem srcLenSV_sound {y : SV} {m : NE} (h : srcLenSV y = some m) : lenV (y.den ρ) = m.den ρ := by
  unfold srcLenSV at h
  split at h
  · injection h with h; subst h; simp only [SV.den, lenV]
  · injection h with h; subst h; simp only [SV.den, lenV, NE.den, bs]
  · cases h
theorem arr2 {α : Type} {l : Array α} {x y : α} (h : l.toList = [x, y]) : l = #[x, y] := by
  rw [← Array.toArray_toList (xs := l), h]
theorem Ext.refl' (h : Heap) : Ext h h := ⟨Nat.le_refl _, fun _ _ => rfl⟩
theorem setcs_old {b b' : Nat} (hb : b ≠ b') : ∀ (vs : List Value) (o : Nat) (h : Heap), (setcs h b o vs)[b']? = h[b']?
  | [], _, _ => rfl
  | v :: vs, o, h => by
    simp only [setcs]
    rw [setcs_old hb vs]
    unfold setc; rw [Array.getElem?_modify, if_neg hb]
theorem setcs_sz {b : Nat} : ∀ (vs : List Value) (o : Nat) (h : Heap), (setcs h b o vs).size = h.size
  | [], _, _ => rfl
  | v :: vs, o, h => by simp only [setcs]; rw [setcs_sz vs, size_setc]
theorem KnOk.row {kn : List KB} {h : Heap} {p : PE} (H : KnOk ρ kn h) (hap : ∀ B ∈ wrKn kn p, B.cs ≠ [] → ∀ a, p.den ρ = some a → a.block ≠ B.b.den ρ) (o : Nat) (vs : List Value) : KnOk ρ (wrKn kn p) (setRow h (p.den ρ) o vs) := by
  refine (wrKn_ok H p).wr ?_ ?_
  · unfold setRow; split <;> simp [setcs_sz]
  · intro B hB hcs
    unfold setRow
    split
    · rename_i a ha
      exact setcs_old (hap B hB hcs a ha) _ _ _
    · rfl
theorem Frame.row {kn : List KB} {wr : List WI} {h : Heap} {p : PE} (hf : Frame (WS.den ρ wr) (ρ.h 0) h) (H : KnOk ρ kn h) (o : Nat) (vs : List Value) : Frame (WS.den ρ (wrOf kn wr p)) (ρ.h 0) (setRow h (p.den ρ) o vs) := by
  unfold setRow
  split
  · rename_i a ha
    exact Frame.setcs (fun hlt => wrOf_at H ha hlt) _ _ (hf.mono fun n _ hn => wrOf_mono hn)
  · exact hf.mono fun n _ hn => wrOf_mono hn
theorem Inv.atom {st : St} {a : Act} {w w' : World} {ρ1 : Env} (hi : Inv nt ρ st a w) (ha : Agree st.m ρ ρ1) {m' : Nat} (hm : st.m < m') (hh : ρ1.h st.m = w'.heap) (ho : outw w' = outw w) {kn' : List KB} {wr' : List WI}
    (hk : KnOk ρ1 kn' w'.heap) (hkf : KnFix m' ρ1 kn') (hfr : Frame (WS.den ρ1 wr') (ρ1.h 0) w'.heap) (hwf : Fix WS.den m' ρ1 wr') : Inv nt ρ1 { st with h := .v st.m, m := m', kn := kn', wr := wr' } a w' := by
  have hi1 := hi.later (m' := m') ha (Nat.le_of_lt hm)
  have hd : (HE.v st.m).den ρ1 = w'.heap := by simp only [HE.den]; exact hh
  exact ⟨hi1.ag, hi1.fix, fun ρ2 h2 => HE.stable h2 _ (by simp only [HE.lt, Nat.blt_eq]; exact hm), hd.symm, ho.trans hi1.rest, hi1.m0, by rw [hd]; exact hk, hkf, by rw [hd]; exact hfr, hwf⟩
/-- The same where what is known and what was turned speaks of no new atom. -/
theorem Inv.atom0 {st : St} {a : Act} {w w' : World} {ρ1 : Env} (hi : Inv nt ρ st a w) (ha : Agree st.m ρ ρ1) {m' : Nat} (hm : st.m < m') (hh : ρ1.h st.m = w'.heap) (ho : outw w' = outw w) {kn' : List KB} {wr' : List WI}
    (hk : KnOk ρ kn' w'.heap) (hkf : KnFix st.m ρ kn') (hfr : Frame (WS.den ρ wr') (ρ.h 0) w'.heap) (hwf : Fix WS.den st.m ρ wr') : Inv nt ρ1 { st with h := .v st.m, m := m', kn := kn', wr := wr' } a w' :=
  hi.atom ha hm hh ho (hk.agree hkf ha hi.m0) (hkf.later ha (Nat.le_of_lt hm)) (by rw [hwf ρ1 ha, ha.h0 hi.m0]; exact hfr) (hwf.later ha (Nat.le_of_lt hm))
theorem KnFix.cons {m : Nat} {kn : List KB} (H : KnFix m ρ kn) {b : NE} (hb : Fix NE.den m ρ b) {new : Bool} {cs : List (NE × SV)} {o : NE} {n : Nat} (hcs : ∀ c ∈ cs, Fix NE.den m ρ c.1 ∧ Fix SV.den m ρ c.2) : KnFix m ρ ({ b := b, new := new, cs := cs, o := o, n := n } :: kn) := fun B hB => by
  rcases List.mem_cons.1 hB with rfl | hB
  · exact ⟨hb, hcs⟩
  · exact H B hB
theorem cellsAt_fix {m : Nat} {z : List SV} {i : Nat} (hz : ∀ x ∈ z, Fix SV.den m ρ x) : ∀ c ∈ cellsAt i z, Fix NE.den m ρ c.1 ∧ Fix SV.den m ρ c.2 := fun c hc => by
  obtain ⟨j, h1, h2⟩ := cellsAt_mem hc
  exact ⟨fun ρ' _ => by rw [h2]; rfl, hz _ (List.mem_of_getElem? h1)⟩
theorem lts_fix {m : Nat} {z : List SV} (hz : SV.lts m z = true) : ∀ x ∈ z, Fix SV.den m ρ x := by
  intro x hx ρ' ha
  have := SV.stables ha _ hz
  obtain ⟨k, hk', rfl⟩ := List.getElem_of_mem hx
  have h2 := congrArg (fun l => l[k]?) this
  simp [hk'] at h2
  exact h2
/-- A new block, told cell by cell. -/
theorem Inv.alloc {st : St} {a : Act} {w w' : World} (hi : Inv nt ρ st a w) {t : TypeId} {z : List SV} (hz : SV.lts st.m z = true) (hw : w'.heap = w.heap.push (.cells (z.map (SV.den (ρ.setN st.m (st.h.den ρ).size))).toArray t)) (ho : outw w' = outw w)
    {cs : List (NE × SV)} {n : Nat} (hcs : cs = cellsAt 0 z ∨ cs = []) :
    Inv nt (ρ.setN st.m (st.h.den ρ).size) { st with h := .push st.h t z, m := st.m + 1, kn := { b := .v st.m, new := true, cs := cs, n := n } :: st.kn } a w' := by
  have ha : Agree st.m ρ (ρ.setN st.m (st.h.den ρ).size) := Agree.setN (Nat.le_refl _) _
  have hi' := hi.later (m' := st.m + 1) ha (by omega)
  have hn : (ρ.setN st.m (st.h.den ρ).size).n st.m = (st.h.den ρ).size := by simp [Env.setN]
  have hsz : st.h.den (ρ.setN st.m (st.h.den ρ).size) = st.h.den ρ := hi.hfix _ ha
  have hd : (HE.push st.h t z).den (ρ.setN st.m (st.h.den ρ).size) = w'.heap := by
    simp only [HE.den]; rw [hw, hi'.heap]
  refine ⟨hi'.ag, hi'.fix, ?_, hd.symm, ho.trans hi'.rest, hi'.m0, ?_, ?_, ?_, hi'.wrfix⟩
  · intro ρ' h'
    simp only [HE.den]
    rw [hi'.hfix ρ' h', SV.stables (h'.le (Nat.le_succ _)) z hz]
  · rw [hd, hw, hi'.heap]
    exact hi'.kn.alloc (by simp only [NE.den, hn, hsz]) hi'.fr.le hcs
  · refine hi'.knfix.cons (fun ρ' h' => by simp only [NE.den]; exact (h' st.m (Nat.lt_succ_self _)).1) ?_
    have hzf : ∀ x ∈ z, Fix SV.den (st.m + 1) (ρ.setN st.m (st.h.den ρ).size) x := fun x hx => (lts_fix (ρ := ρ) hz x hx).later ha (Nat.le_succ _)
    rcases hcs with rfl | rfl
    · exact cellsAt_fix hzf
    · intro c hc; cases hc
  · rw [hd, hw, hi'.heap]
    exact hi'.fr.push _
theorem fix_slice {m : Nat} {p : PE} {n q : NE} (h : Fix SV.den m ρ (.slice p n q)) : Fix PE.den m ρ p := fun ρ' ha => by
  have := h ρ' ha
  simp only [SV.den] at this
  injection this
theorem srcKn_sound {kn : List KB} {h : Heap} (H : KnOk ρ kn h) {y : SV} {size : Nat} {news : List SV} (hs : srcKn kn y size = some news) {m : NE} (hm : srcLenSV y = some m) :
    SrcIs h size (y.den ρ) (lenV (y.den ρ)) (news.map (SV.den ρ)) ∧ (∀ u ∈ news.map (SV.den ρ), u.oneCell' = true) ∧ news.length = m.den ρ * size := by
  unfold srcKn at hs
  split at hs
  · rename_i b o n q
    split at hs
    · rename_i xs hl
      split at hs
      · rename_i hone
        injection hs with hs; subst hs
        obtain ⟨h1, h2⟩ := loadKn_sound H hl
        simp only [srcLenSV] at hm
        injection hm with hm; subst hm
        refine ⟨?_, ?_, by simp only [NE.den]; exact h1⟩
        · simp only [SV.den, lenV, SrcIs, PE.den, NE.den]
          refine ⟨Nat.le_refl _, by simpa using h1, ?_⟩
          by_cases he : xs.map (SV.den ρ) = []
          · exact .inl he
          · refine .inr ⟨_, _, rfl, fun j v hj => ?_⟩
            simp only [List.getElem?_map, Option.map_eq_some_iff] at hj
            obtain ⟨x, hx, rfl⟩ := hj
            exact (h2 j x hx).1
        · intro u hu
          obtain ⟨x, hx, rfl⟩ := List.mem_map.1 hu
          exact SV.one_den ρ x (List.all_eq_true.1 hone x hx)
      · cases hs
    · cases hs
  · injection hs with hs; subst hs
    simp only [srcLenSV] at hm
    injection hm with hm; subst hm
    refine ⟨?_, by simp, by simp [NE.den]⟩
    simp only [SV.den, lenV, SrcIs, PE.den, NE.den]
    exact ⟨Nat.le_refl _, by simp, .inl rfl⟩
  · cases hs
theorem appended_kn {kn : List KB} {wr : List WI} {h h' : Heap} {p : PE} {e size n cap m : Nat} {olds news : List Value} {p' : Option Addr} {c' : Nat} (H : KnOk ρ kn h) (hf : Frame (WS.den ρ wr) (ρ.h 0) h)
    (hap : ∀ B ∈ wrKn kn p, B.cs ≠ [] → ∀ a, p.den ρ = some a → a.block ≠ B.b.den ρ) (ha : Appended e size h (p.den ρ) n cap m olds news h' p' c') :
    KnOk ρ (wrKn kn p) h' ∧ Frame (WS.den ρ (wrOf kn wr p)) (ρ.h 0) h' := by
  rcases ha with ⟨_, rfl, _, _⟩ | ⟨_, _, rest, _, rfl, _⟩
  · exact ⟨H.row hap _ _, hf.row H _ _⟩
  · exact ⟨(wrKn_ok H p).ext (ext_push h _), (hf.mono fun n _ hn => wrOf_mono hn).push _⟩
theorem memOp_sound {c : Cfg} (hc : c.P0 = bare P) (hnt : c.nt = nt) {st : St} {gs : List (Nat × Bool)} {o : Oper} {K : St → VC} {a : Act} {w : World}
    (h : (memOp c st gs o K).den P body nt keep Qb R ρ) (hi : Inv nt ρ st a w) (hg : ∀ g ∈ gs, Holds a (some g)) {next : Act → World → Prop} {Q : Exit → Act → World → Prop}
    (hK : ∀ st' ρ' a' w', (K st').den P body nt keep Qb R ρ' → Inv nt ρ' st' a' w' → Agree st.m ρ ρ' → st.m ≤ st'.m → (isExtOp c st.σ gs o = true → Ext w.heap w'.heap) → next a' w') : o.wp P a w next Q := by
  have b1 : ∀ k, Nat.blt k (k + 1) = true := fun k => by simp [Nat.blt_eq]
  have b2 : ∀ k, Nat.blt k (k + 2) = true := fun k => by simp [Nat.blt_eq]
  obtain ⟨dst, op, ty, pos, after, guard⟩ := o
  unfold memOp at h
  simp only at h
  split at h
  · -- append
    rename_i args argTypes _
    split at h
    · rename_i s x t tx ha hat
      have ha' := arr2 ha; have hat' := arr2 hat
      subst ha' hat'
      split at h
      · rename_i p n q y e hs hx hu
        rw [hc] at hu
        split at h
        · rename_i i z m hif hz hm
          rw [hc] at hif hz
          rw [zeroCells_bare] at hz
          split at h
          · rename_i hcond
            simp only [Bool.and_eq_true] at hcond
            obtain ⟨hzl, htx⟩ := hcond
            rw [hc] at htx
            obtain ⟨h, hapart⟩ := wrAsk_sound h hi.kn
            obtain ⟨v, hv, hcl⟩ := zeroCells_sound (ρ := ρ) hz
            have hiv : i.zero = some v := by
              have hif' : P.info? e = some i := hif
              rw [hif'] at hv; exact hv
            have hs' := look_sound hi.ag hg hs
            have hx' := look_sound hi.ag hg hx
            have hpf : Fix PE.den st.m ρ p := fix_slice (look_fix hs hi.fix)
            simp only [SV.den] at hs'
            have hml := srcLenSV_sound (ρ := ρ) hm
            have key : ∃ olds news, AppPre (st.h.den ρ) i.size i.bytes (p.den ρ) (n.den ρ) (q.den ρ) (y.den ρ) olds news ∧
                ∀ h' p' c', Appended e i.size (st.h.den ρ) (p.den ρ) (n.den ρ) (q.den ρ) (m.den ρ) olds news h' p' c' →
                  (putS c { st with h := .v st.m, m := st.m + 1, kn := wrKn st.kn p, wr := wrOf st.kn st.wr p } dst (.slice (.v st.m) (NE.sim (.add n m)) (.v st.m)) K).den P body nt keep Qb R (((ρ.setH st.m h').setP st.m p').setN st.m c') := by
              split at h
              · rename_i news hnews
                simp only [VC.den] at h
                obtain ⟨olds, hk, h⟩ := h
                obtain ⟨s1, s2, s3⟩ := srcKn_sound hi.kn hnews hm
                refine ⟨olds, news.map (SV.den ρ), ⟨s1, hk.oldL, hk.old, s2, ?_, ?_, ?_⟩, h⟩
                · rw [hml]; intro hr; have := hk.room hr; rwa [List.length_map, s3]
                · rw [hml]; exact hk.fit
                · rw [hml]; exact hk.len
              · simp only [VC.den] at h
                obtain ⟨olds, news, hpre, h⟩ := h
                rw [hml] at h
                exact ⟨olds, news, hpre, h⟩
            obtain ⟨olds, news, hpre, h⟩ := key
            rw [← hi.heap] at hpre
            obtain ⟨p', c', w', hrun, hrest, hap⟩ := append_run (ty := ty) (P := P) (w := w) (und' hu) (show P.info? e = some i from hif) hiv (by rw [hcl]; simpa using Nat.eq_of_beq_eq_true hzl) (okSrc_spec htx) hpre
            rw [hi.heap, hml] at hap
            have h := h w'.heap p' c' hap
            have ha : Agree st.m ρ (((ρ.setH st.m w'.heap).setP st.m p').setN st.m c') :=
              ((Agree.setH (Nat.le_refl _) _).trans (Agree.setP (Nat.le_refl _) _) (Nat.le_refl _)).trans (Agree.setN (Nat.le_refl _) _) (Nat.le_refl _)
            have hi1 := hi.later (m' := st.m + 1) ha (by omega)
            obtain ⟨k1, k2⟩ := appended_kn hi.kn hi.fr hapart hap
            have hinv : Inv nt (((ρ.setH st.m w'.heap).setP st.m p').setN st.m c') { st with h := .v st.m, m := st.m + 1, kn := wrKn st.kn p, wr := wrOf st.kn st.wr p } a w' :=
              hi.atom0 ha (Nat.lt_succ_self _) (by simp [Env.setH, Env.setP, Env.setN]) hrest k1 (wrKn_fix hi.knfix p) k2 (wrOf_fix hpf hi.wrfix)
            have hs2 := look_sound hi1.ag hg hs
            have hx2 := look_sound hi1.ag hg hx
            simp only [SV.den] at hs2
            refine upon_of_run (v := .slice p' (n.den ρ + lenV (y.den ρ)) c') (w' := w') ?_ ?_
            · rw [BigFrame.execOp_builtin, BigFrame.builtin_append]
              refine valM2 ?_
              simp only [List.map_toArray, List.map_cons, List.map_nil, hs', hx']
              exact hrun
            · have := putS_next (next := next) h hnt hinv ha (by simp) (fun st' ρ' a' g1 g2 g3 g4 => hK st' ρ' a' _ g1 g2 g3 g4 (fun he => by simp [isExtOp] at he))
              simp only [SV.den, PE.den, NE.sim_den, NE.den] at this
              rw [hs'] at hs2
              injection hs2 with e1 e2 e3
              rw [← e2, ← srcLenSV_sound hm, ← hx2, hx'] at this
              simpa [Env.setP, Env.setN, Env.setH] using this
          · exact h.elim
        · exact h.elim
      · exact h.elim
    · exact h.elim
  · -- copy
    rename_i args argTypes _
    split at h
    · rename_i s x t tx ha hat
      have ha' := arr2 ha; have hat' := arr2 hat
      subst ha' hat'
      split at h
      · rename_i p n q y e hs hx hu
        rw [hc] at hu
        split at h
        · rename_i i hif
          rw [hc] at hif
          obtain ⟨h, hapart⟩ := wrAsk_sound h hi.kn
          simp only [VC.den] at h
          obtain ⟨news, hpre, h⟩ := h
          have hpf : Fix PE.den st.m ρ p := fix_slice (look_fix hs hi.fix)
          have hs' := look_sound hi.ag hg hs
          have hx' := look_sound hi.ag hg hx
          simp only [SV.den] at hs'
          rw [← hi.heap] at hpre
          obtain ⟨w', hrun, hrest, hw'⟩ := copy_run (tx := tx) (ty := ty) (cap := q.den ρ) (P := P) (w := w) (und' hu) (show P.info? e = some i from hif) hpre
          rw [← hi.heap, ← hw'] at h
          have ha : Agree st.m ρ ((ρ.setH st.m w'.heap).setN st.m (Nat.min (lenV (y.den ρ)) (n.den ρ))) := (Agree.setH (Nat.le_refl _) _).trans (Agree.setN (Nat.le_refl _) _) (Nat.le_refl _)
          have hi1 := hi.later (m' := st.m + 1) ha (by omega)
          have k1 := hi.kn.row hapart 0 news
          have k2 := hi.fr.row (p := p) hi.kn 0 news
          rw [← hi.heap, ← hw'] at k1 k2
          have hinv : Inv nt ((ρ.setH st.m w'.heap).setN st.m (Nat.min (lenV (y.den ρ)) (n.den ρ))) { st with h := .v st.m, m := st.m + 1, kn := wrKn st.kn p, wr := wrOf st.kn st.wr p } a w' :=
            hi.atom0 ha (Nat.lt_succ_self _) (by simp [Env.setH, Env.setN]) hrest k1 (wrKn_fix hi.knfix p) k2 (wrOf_fix hpf hi.wrfix)
          refine upon_of_run (v := .int .i64 (Nat.min (lenV (y.den ρ)) (n.den ρ) : Nat)) (w' := w') ?_ ?_
          · rw [BigFrame.execOp_builtin, BigFrame.builtin_copy]
            refine valM2 ?_
            simp only [List.map_toArray, List.map_cons, List.map_nil, hs', hx']
            exact hrun
          · have := putS_next (next := next) h hnt hinv ha (by simp) (fun st' ρ' a' g1 g2 g3 g4 => hK st' ρ' a' _ g1 g2 g3 g4 (fun he => by simp [isExtOp] at he))
            simpa [SV.den, IE.den, NE.den, Env.setN, Env.setH] using this
        · exact h.elim
      · exact h.elim
    · exact h.elim
  · -- clear
    rename_i args argTypes
    split at h
    · rename_i s t ha hat
      have ha' : args = #[s] := by rw [← Array.toArray_toList (xs := args), ha]
      have hat' : argTypes = #[t] := by rw [← Array.toArray_toList (xs := argTypes), hat]
      subst ha' hat'
      split at h
      · rename_i p n q e hs hu
        rw [hc] at hu
        split at h
        · rename_i z hz
          rw [hc] at hz
          rw [zeroCells_bare] at hz
          split at h
          · rename_i hone
            obtain ⟨h, hapart⟩ := wrAsk_sound h hi.kn
            simp only [VC.den] at h
            obtain ⟨hpre, h⟩ := h
            have hpf : Fix PE.den st.m ρ p := fix_slice (look_fix hs hi.fix)
            have hs' := look_sound hi.ag hg hs
            simp only [SV.den] at hs'
            rw [← hi.heap] at hpre
            obtain ⟨w', hrun, hrest, hw'⟩ := clear_run (ρ := ρ) (ty := ty) (cap := q.den ρ) (P := P) (w := w) (und' hu) hz (fun u hu => by
              obtain ⟨x, hx, rfl⟩ := List.mem_map.1 hu
              exact SV.one_den ρ x (List.all_eq_true.1 hone x hx)) hpre
            rw [← hi.heap, ← hw'] at h
            have ha : Agree st.m ρ (ρ.setH st.m w'.heap) := Agree.setH (Nat.le_refl _) _
            have hi1 := hi.later (m' := st.m + 1) ha (by omega)
            have k1 := hi.kn.row hapart 0 (copies (n.den ρ) (z.map (SV.den ρ)))
            have k2 := hi.fr.row (p := p) hi.kn 0 (copies (n.den ρ) (z.map (SV.den ρ)))
            rw [← hi.heap, ← hw'] at k1 k2
            have hinv : Inv nt (ρ.setH st.m w'.heap) { st with h := .v st.m, m := st.m + 1, kn := wrKn st.kn p, wr := wrOf st.kn st.wr p } a w' :=
              hi.atom0 ha (Nat.lt_succ_self _) (by simp [Env.setH]) hrest k1 (wrKn_fix hi.knfix p) k2 (wrOf_fix hpf hi.wrfix)
            refine upon_of_run (v := .tuple #[]) (w' := w') ?_ ?_
            · rw [BigFrame.execOp_builtin, BigFrame.builtin_clear]
              refine valM2 ?_
              simp only [List.map_toArray, List.map_cons, List.map_nil, hs']
              exact hrun
            · have := putS_next (next := next) h hnt hinv ha (by simp) (fun st' ρ' a' g1 g2 g3 g4 => hK st' ρ' a' _ g1 g2 g3 g4 (fun he => by simp [isExtOp] at he))
              simpa [SV.den, Env.setH] using this
          · exact h.elim
        · exact h.elim
      · exact h.elim
    · exact h.elim
  · -- pointers held against each other
    rename_i t x y _
    split at h
    · rename_i p q e hx hy hu
      rw [hc] at hu
      split at h
      · rename_i i hif
        rw [hc] at hif
        split at h
        · exact h.elim
        · rename_i hsz
          simp only [VC.den] at h
          obtain ⟨r, hpre, h⟩ := h
          have ha : Agree st.m ρ (ρ.setB st.m r) := Agree.setB (Nat.le_refl _) _
          have hi' := hi.later (m' := st.m + 1) ha (by omega)
          have hx' := look_sound hi.ag hg hx
          have hy' := look_sound hi.ag hg hy
          simp only [SV.den] at hx' hy'
          rw [← hi.heap] at hpre
          have hrun := eqp_run (P := P) (w := w) (und' hu) (show P.info? e = some i from hif) (by intro h0; rw [h0] at hsz; exact hsz rfl) hpre
          refine upon_of_run (v := .bool r) (w' := w) ?_ ?_
          · unfold execOp
            simp only [hx', hy']
            refine valM2 ?_
            rw [Sem.run_bind, eqGuard_other (by simp) (by simp)]
            simp only [Result.andThen]
            rw [(binOp_eqs t rfl).1, Sem.run_bind, hrun]
            simp only [Result.andThen, Sem.run_pure]
          · have := putS_next (next := next) h hnt hi' ha (by simp) (fun st' ρ' a' g1 g2 g3 g4 => hK st' ρ' a' _ g1 g2 g3 g4 (fun _ => Ext.refl' _))
            simpa [SV.den, BE.den, Env.setB] using this
      · exact h.elim
    · exact h.elim
  · -- makeSlice
    rename_i t l q _
    split at h
    · rename_i kl l' kq q' e hl hq hu
      rw [hc] at hu
      split at h
      · rename_i i z hif hz
        rw [hc] at hif hz
        rw [zeroCells_bare] at hz
        split at h
        · rename_i hzl
          simp only [VC.den, BE.prop, IE.den] at h
          obtain ⟨h1, h2, h3, h4, h⟩ := h
          have hl' := look_sound hi.ag hg hl
          have hq' := look_sound hi.ag hg hq
          simp only [SV.den] at hl' hq'
          obtain ⟨w', hrun, hrest, hw'⟩ := make_run (ρ := ρ) (kl := kl) (kc := kq) (P := P) (w := w) (und' hu) (show P.info? e = some i from hif) hz (Nat.eq_of_beq_eq_true hzl) h1 h2 h3 h4
          rw [← hi.heap, ← hw'] at h
          have ha : Agree st.m ρ ((ρ.setH st.m w'.heap).setN st.m w.heap.size) := (Agree.setH (Nat.le_refl _) _).trans (Agree.setN (Nat.le_refl _) _) (Nat.le_refl _)
          have hi1 := hi.later (m' := st.m + 1) ha (by omega)
          have hinv : Inv nt ((ρ.setH st.m w'.heap).setN st.m w.heap.size) { st with h := .v st.m, m := st.m + 1, kn := { b := .v st.m, new := true, cs := [] } :: st.kn } a w' := by
            have h9 : st.h.den ((ρ.setH st.m w'.heap).setN st.m w.heap.size) = w.heap := hi1.heap.symm
            have k0 := hi1.kn.new' (b := .v st.m) (o := .c 0) (n := 0) (by simp only [NE.den]; rw [h9]; simp [Env.setN]) hi1.fr.le (.cells (copies (q'.den ρ).toNat (z.map (SV.den ρ))).toArray e)
            have k2 := hi1.fr.push (.cells (copies (q'.den ρ).toNat (z.map (SV.den ρ))).toArray e)
            simp only [h9, ← hw'] at k0 k2
            exact hi.atom ha (Nat.lt_succ_self _) (by simp [Env.setH, Env.setN]) hrest k0 (hi1.knfix.cons (fun ρ' h' => by simp only [NE.den]; exact (h' st.m (by show st.m < st.m + 1; omega)).1) (fun c hc => by cases hc)) k2 hi1.wrfix
          have hl2 := look_sound hi1.ag hg hl
          have hq2 := look_sound hi1.ag hg hq
          simp only [SV.den] at hl2 hq2
          rw [hl'] at hl2; rw [hq'] at hq2
          injection hl2 with _ e1
          injection hq2 with _ e2
          refine upon_of_run (v := .slice (some ⟨w.heap.size, 0, none⟩) (l'.den ρ).toNat (q'.den ρ).toNat) (w' := w') ?_ ?_
          · unfold execOp
            simp only [hl', hq']
            exact valM2 hrun
          · have := putS_next (next := next) h hnt hinv ha (by simp) (fun st' ρ' a' g1 g2 g3 g4 => hK st' ρ' a' _ g1 g2 g3 g4 (fun _ => by rw [hw']; exact ext_push _ _))
            simp only [SV.den, PE.den, NE.den, ← e1, ← e2] at this
            simpa [Env.setN, Env.setH] using this
        · exact h.elim
      · exact h.elim
    · exact h.elim
  · -- buildSlice
    rename_i t len parts
    split at h
    · rename_i vs hv
      split at h
      · rename_i e z hz
        split at h
        · rename_i hzl
          rw [hc] at hz
          simp only [VC.den] at h
          have ha : Agree st.m ρ (ρ.setN st.m (st.h.den ρ).size) := Agree.setN (Nat.le_refl _) _
          have hi' := hi.later (m' := st.m + 1) ha (by omega)
          have hn : (ρ.setN st.m (st.h.den ρ).size).n st.m = (st.h.den ρ).size := by simp [Env.setN]
          obtain ⟨w', hrun, hrest, hw'⟩ := rowSV_sound (P := P) (w := w) (ρ := ρ.setN st.m (st.h.den ρ).size) (show rowSV P t len _ = some (e, z) from hz)
          have hv' := lookL_sound (fun y v hy => look_sound hi'.ag hg hy) _ _ hv
          have hparts : (parts.map fun p => (p.1, a.eval p.2)) = (((parts.toList.map (·.1)).zip vs).map fun p => (p.1, p.2.den (ρ.setN st.m (st.h.den ρ).size))).toArray := by
            have h3 : ((parts.toList.map (·.1)).zip vs).map (fun p => (p.1, p.2.den (ρ.setN st.m (st.h.den ρ).size))) = (parts.toList.map (·.1)).zip (vs.map (SV.den (ρ.setN st.m (st.h.den ρ).size))) := by
              rw [List.zip_map_right]; rfl
            rw [h3, ← hv', List.map_map, List.zip_map', ← List.map_toArray, Array.toArray_toList]
            rfl
          have hinv := hi.alloc hzl hw' hrest (cs := if Nat.ble z.length 24 then cellsAt 0 z else []) (n := if Nat.ble z.length 24 then z.length else 0) (by split; exact .inl rfl; exact .inr rfl)
          refine upon_of_run (v := .slice (some ⟨w.heap.size, 0, none⟩) len len) (w' := w') ?_ ?_
          · unfold execOp
            simp only [hparts]
            exact valM2 hrun
          · have := putS_next (next := next) (w := w') h hnt (a := a) hinv ha (by simp) (fun st' ρ' a' g1 g2 g3 g4 => hK st' ρ' a' _ g1 g2 g3 g4 (fun _ => by rw [hw']; exact ext_push _ _))
            simp only [SV.den, PE.den, NE.den, hn] at this
            rw [hi.heap]; exact this
        · exact h.elim
      · exact h.elim
    · exact h.elim
  · -- convert
    rename_i s d x _
    split at h
    · rename_i p n q e hx hs hd
      split at h
      · rename_i he
        rw [hc] at hs hd he
        simp only [VC.den] at h
        obtain ⟨l, h1, h2, h⟩ := h
        have ha : Agree st.m ρ (ρ.setS st.m l) := Agree.setS (Nat.le_refl _) _
        have hi' := hi.later (m' := st.m + 1) ha (by omega)
        have hx' := look_sound hi.ag hg hx
        simp only [SV.den] at hx'
        rw [← hi.heap] at h2
        have hrun := toStr_run (P := P) (w := w) (cap := q.den ρ) h1 h2
        refine upon_of_run (v := .string (bs l)) (w' := w) ?_ ?_
        · unfold execOp
          simp only [hx']
          refine valM2 ?_
          unfold convert
          rw [und (und' hs), und (und' hd)]
          simp only []
          rw [und (isInt_spec he)]
          exact hrun
        · have := putS_next (next := next) h hnt hi' ha (by simp) (fun st' ρ' a' g1 g2 g3 g4 => hK st' ρ' a' _ g1 g2 g3 g4 (fun _ => Ext.refl' _))
          simpa [SV.den, SE.den, Env.setS] using this
      · exact h.elim
    · rename_i y e hx hs hd
      split at h
      · rename_i he
        rw [hc] at hs hd he
        simp only [VC.den] at h
        have hx' := look_sound hi.ag hg hx
        simp only [SV.den] at hx'
        obtain ⟨c', w', hrun, hrest, hle, hw'⟩ := toBytes_run (P := P) (w := w) (e := e) (s := y.den ρ)
        have h := h c' hle
        rw [← hi.heap, ← hw'] at h
        have ha : Agree st.m ρ (((ρ.setH st.m w'.heap).setN st.m w.heap.size).setN (st.m + 1) c') :=
          ((Agree.setH (Nat.le_refl _) _).trans (Agree.setN (Nat.le_refl _) _) (Nat.le_refl _)).trans (Agree.setN (Nat.le_succ _) _) (Nat.le_refl _)
        have hi1 := hi.later (m' := st.m + 2) ha (by omega)
        have hinv : Inv nt (((ρ.setH st.m w'.heap).setN st.m w.heap.size).setN (st.m + 1) c') { st with h := .v st.m, m := st.m + 2, kn := { b := .v st.m, new := true, cs := [] } :: st.kn } a w' := by
          have h9 : st.h.den (((ρ.setH st.m w'.heap).setN st.m w.heap.size).setN (st.m + 1) c') = w.heap := hi1.heap.symm
          have k0 := hi1.kn.new' (b := .v st.m) (o := .c 0) (n := 0) (by simp only [NE.den]; rw [h9]; simp [Env.setN]) hi1.fr.le (.cells (u8s (y.den ρ) ++ List.replicate (c' - (y.den ρ).length) (Value.int .u8 0)).toArray e (c', c' + 1))
          have k2 := hi1.fr.push (.cells (u8s (y.den ρ) ++ List.replicate (c' - (y.den ρ).length) (Value.int .u8 0)).toArray e (c', c' + 1))
          simp only [h9, ← hw'] at k0 k2
          exact hi.atom ha (by omega) (by simp [Env.setH, Env.setN]) hrest k0 (hi1.knfix.cons (fun ρ' h' => by simp only [NE.den]; exact (h' st.m (by show st.m < st.m + 2; omega)).1) (fun c hc => by cases hc)) k2 hi1.wrfix
        have hx2 := look_sound hi1.ag hg hx
        simp only [SV.den] at hx2
        rw [hx'] at hx2
        have e1 : y.den ρ = y.den (((ρ.setH st.m w'.heap).setN st.m w.heap.size).setN (st.m + 1) c') := by
          injection hx2 with hx2
          simpa [bs] using hx2
        refine upon_of_run (v := .slice (some ⟨w.heap.size, 0, none⟩) (y.den ρ).length c') (w' := w') ?_ ?_
        · unfold execOp
          simp only [hx']
          refine valM2 ?_
          unfold convert
          rw [und (und' hs), und (und' hd)]
          simp only []
          rw [und (isInt_spec he)]
          exact hrun
        · have := putS_next (next := next) h hnt hinv ha (by simp) (fun st' ρ' a' g1 g2 g3 g4 => hK st' ρ' a' _ g1 g2 g3 g4 (fun _ => by rw [hw']; exact ext_push _ _))
          simp only [SV.den, PE.den, NE.den, ← e1] at this
          simpa [Env.setN, Env.setH] using this
      · exact h.elim
    · exact h.elim
  · exact h.elim

theorem subP_den {k : Nat} {b o : NE} {x : SV} (h : ρ.p k = some ⟨b.den ρ, o.den ρ, none⟩) : (x.subP k b o).den ρ = x.den ρ := by
  unfold SV.subP
  split
  · split
    · rename_i e
      rw [Nat.eq_of_beq_eq_true e]
      simp only [SV.den, PE.den, h]
    · rfl
  · split
    · rename_i e
      rw [Nat.eq_of_beq_eq_true e]
      simp only [SV.den, PE.den, h]
    · rfl
  · rfl
theorem subP_fix {m k : Nat} {b o : NE} {x : SV} (hx : Fix SV.den m ρ x) (hb : Fix NE.den m ρ b) (ho : Fix NE.den m ρ o) : Fix SV.den m ρ (x.subP k b o) := by
  unfold SV.subP
  split
  · split
    · intro ρ' ha; simp only [SV.den, PE.den, hb ρ' ha, ho ρ' ha]
    · exact hx
  · split
    · intro ρ' ha
      have := hx ρ' ha
      simp only [SV.den] at this
      injection this with _ e1 e2
      simp only [SV.den, PE.den, hb ρ' ha, ho ρ' ha, e1, e2]
    · exact hx
  · exact hx
theorem subSt_m (p : PE) (st : St) : (subSt p st).m = st.m + 2 := by
  unfold subSt; split <;> rfl
theorem Inv.subP {st : St} {a : Act} {w : World} {m0 : Nat} (hi : Inv nt ρ { st with m := m0 } a w) (hm : m0 = st.m + 2) {p : PE} (hp : p.den ρ = some ⟨NE.den ρ (.v st.m), NE.den ρ (.v (st.m + 1)), none⟩) : Inv nt ρ (subSt p st) a w := by
  subst hm
  have fb : Fix NE.den (st.m + 2) ρ (.v st.m) := fun ρ' ha => by simp only [NE.den]; exact (ha st.m (by omega)).1
  have fo : Fix NE.den (st.m + 2) ρ (.v (st.m + 1)) := fun ρ' ha => by simp only [NE.den]; exact (ha (st.m + 1) (by omega)).1
  unfold subSt
  split
  · rename_i k
    simp only [PE.den] at hp
    refine ⟨⟨hi.ag.1, hi.ag.2.1, ?_⟩, ?_, hi.hfix, hi.heap, hi.rest, hi.m0, ⟨?_, ?_⟩, ?_, hi.fr, hi.wrfix⟩
    · intro e he hh
      obtain ⟨e', he', rfl⟩ := List.mem_map.1 he
      rw [subP_den hp]
      exact hi.ag.2.2 e' he' hh
    · intro e he
      obtain ⟨e', he', rfl⟩ := List.mem_map.1 he
      exact subP_fix (hi.fix e' he') fb fo
    · intro B hB
      obtain ⟨C, hC, rfl⟩ := List.mem_map.1 hB
      obtain ⟨h1, h2, h3⟩ := hi.kn.all C hC
      refine ⟨h1, h2, fun c hc => ?_⟩
      obtain ⟨d, hd, rfl⟩ := List.mem_map.1 hc
      rw [subP_den hp]
      exact h3 d hd
    · exact List.pairwise_map.2 hi.kn.ne
    · intro B hB
      obtain ⟨C, hC, rfl⟩ := List.mem_map.1 hB
      refine ⟨(hi.knfix C hC).1, fun c hc => ?_⟩
      obtain ⟨d, hd, rfl⟩ := List.mem_map.1 hc
      exact ⟨((hi.knfix C hC).2 d hd).1, subP_fix ((hi.knfix C hC).2 d hd).2 fb fo⟩
  · exact hi
theorem result_next {c : Cfg} {ts : List TypeId} {dst : Option Nat} {st : St} {a : Act} {w w' : World} {K : St → VC} {ρ1 : Env} {e : Ending} {kn' : List KB} {wr' : List WI} (hi : Inv nt ρ st a w) (ha : Agree st.m ρ ρ1) (hh : ρ1.h st.m = w'.heap) (ho : outw w' = outw w)
    (hk : KnOk ρ kn' w'.heap) (hkf : KnFix st.m ρ kn') (hfr : Frame (WS.den ρ wr') (ρ.h 0) w'.heap) (hwf : Fix WS.den st.m ρ wr') (he : ρ1.e = e) (hnt : c.nt = nt)
    (hd : (resultVC c ts { st with h := .v st.m, m := st.m + 1, kn := kn', wr := wr' } fun x st => putS c st dst x K).den P body nt keep Qb R ρ1)
    {next : Act → World → Prop} (hK : ∀ st' ρ' a', (K st').den P body nt keep Qb R ρ' → Inv nt ρ' st' a' w' → Agree st.m ρ ρ' → st.m ≤ st'.m → next a' w') :
    ∃ v, e = .returned v ∧ next (a.put dst v) w' := by
  obtain ⟨ρ', x, m', h1, ha2, hm, he'⟩ := resultVC_sound hd
  have hinv := hi.atom0 ha (Nat.lt_succ_self st.m) hh ho hk hkf hfr hwf
  have hinv2 := hinv.later (m' := m') ha2 hm
  exact ⟨_, by rw [← he, he'], putS_next h1 hnt hinv2 (ha.trans ha2 (by simp)) (by simp at hm ⊢; omega) hK⟩
theorem noneIn_spec {F : Nat → Prop} : ∀ {l : List KB}, noneIn ρ F (l.map (·.b)) → ∀ B ∈ l, ¬ F (B.b.den ρ)
  | [], _, _, hB => by cases hB
  | C :: l, h, B, hB => by
    simp only [List.map_cons, noneIn] at h
    rcases List.mem_cons.1 hB with rfl | hB
    · exact h.1
    · exact noneIn_spec h.2 B hB
theorem result_frame {c : Cfg} {ts : List TypeId} {dst : Option Nat} {st : St} {a : Act} {w w' : World} {K : St → VC} {e : Ending} {F : Nat → Prop} {q : KB → Bool} (hi : Inv nt ρ st a w)
    (hfr : Frame F (st.h.den ρ) w'.heap) (hno : noneIn ρ F ((st.kn.filter q).map (·.b))) (hrest : outw w' = ρ.o) (hnt : c.nt = nt)
    (hd : (resultVC c ts { st with h := .v st.m, m := st.m + 1, kn := st.kn.filter q, wr := .set st.m :: st.wr } fun x st => putS c st dst x K).den P body nt keep Qb R (((ρ.setH st.m w'.heap).setW st.m F).setE e))
    {next : Act → World → Prop} (hK : ∀ st' ρ' a', (K st').den P body nt keep Qb R ρ' → Inv nt ρ' st' a' w' → Agree st.m ρ ρ' → st.m ≤ st'.m → next a' w') :
    ∃ v, e = .returned v ∧ next (a.put dst v) w' := by
  have ha : Agree st.m ρ (((ρ.setH st.m w'.heap).setW st.m F).setE e) :=
    ((Agree.setH (Nat.le_refl _) _).trans (Agree.setW (Nat.le_refl _) _) (Nat.le_refl _)).trans (Agree.setE (m := st.m) e) (Nat.le_refl _)
  obtain ⟨ρ', x, m', h1, ha2, hm, he'⟩ := resultVC_sound hd
  have hw : (((ρ.setH st.m w'.heap).setW st.m F).setE e).w st.m = F := by simp [Env.setW, Env.setE]
  have hkn := (hi.kn.sub q).frame hfr (noneIn_spec hno)
  have hwf : Fix WS.den (st.m + 1) (((ρ.setH st.m w'.heap).setW st.m F).setE e) (.set st.m :: st.wr) :=
    WS_fix_cons (fun ρ2 h2 => by funext n; simp only [WI.den]; rw [(h2 st.m (Nat.lt_succ_self _)).2.2.2.2.2.2.2.2.2.2]) (hi.wrfix.later ha (Nat.le_succ _))
  have hfr2 : Frame (WS.den (((ρ.setH st.m w'.heap).setW st.m F).setE e) (.set st.m :: st.wr)) ((((ρ.setH st.m w'.heap).setW st.m F).setE e).h 0) w'.heap := by
    rw [ha.h0 hi.m0]
    refine hi.fr.trans hfr (fun n hn => .inr (by rw [hi.wrfix _ ha]; exact hn)) (fun n _ hn => .inl ?_)
    simp only [WI.den, hw]; exact hn
  have hinv := hi.atom (m' := st.m + 1) ha (Nat.lt_succ_self st.m) (by simp [Env.setH, Env.setW, Env.setE]) (hrest.trans hi.rest.symm) (hkn.agree (hi.knfix.sub q) ha hi.m0) ((hi.knfix.sub q).later ha (Nat.le_succ _)) hfr2 hwf
  have hinv2 := hinv.later (m' := m') ha2 hm
  exact ⟨_, he', putS_next h1 hnt hinv2 (ha.trans ha2 (by simp)) (by simp at hm ⊢; omega) hK⟩
theorem stepOp_sound {c : Cfg} (hc : c.P0 = bare P) (heq : eqsOkB P c.eqs = true) (hnt : c.nt = nt) (hfn : Fns P c.fns) {st : St} {gs : List (Nat × Bool)} {o : Oper} {K : St → VC} {a : Act} {w : World}
    (h : (stepOp c st gs o K).den P body nt keep Qb R ρ) (hi : Inv nt ρ st a w) (hg : ∀ g ∈ gs, Holds a (some g)) {next : Act → World → Prop} {Q : Exit → Act → World → Prop}
    (hK : ∀ st' ρ' a' w', (K st').den P body nt keep Qb R ρ' → Inv nt ρ' st' a' w' → Agree st.m ρ ρ' → st.m ≤ st'.m → (isExtOp c st.σ gs o = true → Ext w.heap w'.heap) → next a' w') : o.wp P a w next Q := by
  unfold stepOp at h
  split at h
  · rename_i ns x hq
    obtain ⟨h1, h2⟩ := needAll_sound h
    exact upon_of_run (quietOp_sound hc heq hq hi.ag hg h1 w) (putS_next h2 hnt hi (Agree.refl _ _) (Nat.le_refl _) (fun st' ρ' a' g1 g2 g3 g4 => hK st' ρ' a' _ g1 g2 g3 g4 (fun _ => Ext.refl' _)))
  · obtain ⟨dst, op, ty, pos, after, guard⟩ := o
    simp only at h
    split at h
    · -- nilCheck
      rename_i x _
      split at h
      · rename_i p hl
        simp only [VC.den] at h
        obtain ⟨b, q, h1, h2⟩ := h
        have hb1 : ((ρ.setN st.m b).setN (st.m + 1) q).n st.m = b := by simp [Env.setN]
        have hb2 : ((ρ.setN st.m b).setN (st.m + 1) q).n (st.m + 1) = q := by simp [Env.setN]
        have ha : Agree st.m ρ ((ρ.setN st.m b).setN (st.m + 1) q) := (Agree.setN (Nat.le_refl _) b).trans (Agree.setN (Nat.le_succ _) q) (Nat.le_refl _)
        have hi' := hi.later (m' := st.m + 2) ha (by omega)
        have hl' := look_sound hi'.ag hg hl
        simp only [SV.den, h1, NE.den, hb1, hb2] at hl'
        refine upon_of_run (v := .pointer (some ⟨b, q, none⟩)) (w' := w) ?_ ?_
        · unfold execOp; simp only [hl']; rfl
        · have := putS_next (next := next) h2 hnt (hi'.subP rfl (by simp only [h1, NE.den])) ha (by rw [subSt_m]; omega) (fun st' ρ' a' g1 g2 g3 g4 => hK st' ρ' a' _ g1 g2 g3 g4 (fun _ => Ext.refl' _))
          simpa only [SV.den, PE.den, NE.den, hb1, hb2] using this
      · exact h.elim
    · -- indexAddr
      rename_i t x i _
      split at h
      · rename_i p n cp j hl hj
        simp only [VC.den] at h
        obtain ⟨b, q, h1, h2⟩ := h
        have hb1 : ((ρ.setN st.m b).setN (st.m + 1) q).n st.m = b := by simp [Env.setN]
        have hb2 : ((ρ.setN st.m b).setN (st.m + 1) q).n (st.m + 1) = q := by simp [Env.setN]
        have ha : Agree st.m ρ ((ρ.setN st.m b).setN (st.m + 1) q) := (Agree.setN (Nat.le_refl _) b).trans (Agree.setN (Nat.le_succ _) q) (Nat.le_refl _)
        have hi' := hi.later (m' := st.m + 2) ha (by omega)
        split at h2
        · rename_i ns y hix
          rw [hc, indexAddrSV_bare] at hix
          obtain ⟨h3, h4⟩ := needAll_sound h2
          have h3 := hard_sound h3
          have hl' := look_sound hi'.ag hg hl
          have hj' := look_sound hi'.ag hg hj
          have hrun := indexAddrSV_sound (ρ := (ρ.setN st.m b).setN (st.m + 1) q) hix h3 w
          simp only [SV.den, PE.den] at hrun
          simp only [SV.den, h1] at hl'
          refine upon_of_run (w' := w) ?_ (putS_next h4 hnt (hi'.subP rfl (by simp only [h1, NE.den])) ha (by rw [subSt_m]; omega) (fun st' ρ' a' g1 g2 g3 g4 => hK st' ρ' a' _ g1 g2 g3 g4 (fun _ => Ext.refl' _)))
          unfold execOp; simp only [hl', hj']; exact valM hrun
        · exact h2.elim
      · exact h.elim
    · -- load
      rename_i t x _
      split at h
      · rename_i b q ks hl hk
        obtain ⟨i, d, hi1, hu, hlen⟩ := loadKindsC_spec hc hk
        obtain ⟨ρ', xs, m', h3, ha, hm, hfx, hxl, h2⟩ := withCells_sound h hi.kn hi.knfix
        have hi' := hi.later (m' := m') ha hm
        have hl' := look_sound hi'.ag hg hl
        simp only [SV.den, PE.den] at hl'
        have hh : ∀ j x, xs[j]? = some x → get w.heap (b.den ρ') (q.den ρ' + (0 + j)) = some (x.den ρ') := by
          intro j x hx; rw [hi'.heap]; exact h2 j x hx
        have hrun := fun y hy => loadVar_run (P := P) (ρ := ρ') hi1 (by rw [hxl]; exact hlen) hu hh (y := y) hy
        rw [hc, isAggB_bare] at h3
        split at h3
        · rename_i y hy
          refine upon_of_run (w' := w) (v := y.den ρ') ?_ (putS_next h3 hnt hi' ha hm (fun st' ρ' a' g1 g2 g3 g4 => hK st' ρ' a' _ g1 g2 g3 g4 (fun _ => Ext.refl' _)))
          unfold execOp; simp only [hl']
          refine valM ?_
          unfold Instr.loadAt Instr.sureAddr
          simp only [pure_bind]
          exact hrun _ hy
        · exact h3.elim
      · exact h.elim
    · -- store
      rename_i t x v _
      split at h
      · rename_i b q y i hl hv hi1
        rw [hc] at hi1
        split at h
        · rename_i hcond
          simp only [Bool.and_eq_true] at hcond
          obtain ⟨⟨⟨⟨hlen, hone⟩, hbl⟩, hql⟩, hyl⟩ := hcond
          obtain ⟨h, hme⟩ := wrAsk_meets h
          have hl' := look_sound hi.ag hg hl
          have hv' := look_sound hi.ag hg hv
          simp only [SV.den, PE.den] at hl'
          obtain ⟨h', kn', w', hr, hrest, hw', hk, hkn, hfr, hfix⟩ := storeCells_run (P := P) (bE := b) (oE := q) rfl rfl y.cells 0 st.h st.kn w hi.heap (by simpa [List.all_eq_true] using hone) hi.kn hme h
          obtain ⟨hfh, hkf⟩ := hfix st.m hi.hfix (Fix.ne hbl) (Fix.ne hql) (lts_fix hyl) hi.knfix
          have hpf : Fix PE.den st.m ρ (.at b q) := fun ρ' ha => by simp only [PE.den, Fix.ne hbl ρ' ha, Fix.ne hql ρ' ha]
          have hfr' : Frame (WS.den ρ (wrOf st.kn st.wr (.at b q))) (ρ.h 0) (h'.den ρ) :=
            hfr _ (hi.fr.mono fun n _ hn => wrOf_mono hn) (fun hlt => wrOf_at (p := .at b q) (a := ⟨b.den ρ, q.den ρ, none⟩) hi.kn (by simp only [PE.den]) hlt)
          have hinv := hi.turn hfh hw' hrest hkn hkf hfr' (wrOf_fix hpf hi.wrfix)
          have hrun : (execOp a.eval { dst, op := .store t x v, type := ty, pos, after, guard }).run P w = .ok .skip w' := by
            unfold execOp; simp only [hl', hv']
            unfold Instr.storeAt Instr.sureAddr
            simp only [pure_bind]
            unfold storeVar
            simp only [Sem.run_bind]
            rw [sizeOf_run (show P.info? t = some i from hi1)]
            have hsz : (y.den ρ).cells.size = i.size := by rw [SV.cells_den]; simpa using Nat.eq_of_beq_eq_true hlen
            simp only [Result.andThen, hsz, ne_eq, not_true, if_false]
            rw [SV.cells_den]
            simp only [hr, Sem.run_pure]
          unfold Oper.wp; rw [hrun]
          show next (a.put dst undef) w'
          cases dst with
          | none => exact hK _ ρ _ w' hk hinv (Agree.refl _ _) (Nat.le_refl _) (fun he => by simp [isExtOp] at he)
          | some d =>
            simp only at hk
            split at hk
            · rename_i hd
              exact hK _ ρ _ w' hk ⟨Ag_drop hinv.ag d undef, dropσ_fix hinv.fix, hinv.hfix, hinv.heap, hinv.rest, hinv.m0, hinv.kn, hinv.knfix, hinv.fr, hinv.wrfix⟩ (Agree.refl _ _) (Nat.le_refl _) (fun he => by simp [isExtOp] at he)
            · exact hk.elim
        · exact h.elim
      · exact h.elim
    · -- alloc
      rename_i t _
      split at h
      · rename_i z hz
        rw [hc, zeroCells_bare] at hz
        split at h
        · rename_i hzl
          simp only [VC.den] at h
          have ha : Agree st.m ρ (ρ.setN st.m (st.h.den ρ).size) := Agree.setN (Nat.le_refl _) _
          have hn : (ρ.setN st.m (st.h.den ρ).size).n st.m = (st.h.den ρ).size := by simp [Env.setN]
          have hinv := hi.alloc (n := z.length) (w' := { w with heap := w.heap.push (.cells (z.map (SV.den (ρ.setN st.m (st.h.den ρ).size))).toArray t) }) hzl rfl rfl (.inl rfl)
          refine upon_of_run (v := .pointer (some ⟨w.heap.size, 0, none⟩)) (w' := { w with heap := w.heap.push (.cells (z.map (SV.den (ρ.setN st.m (st.h.den ρ).size))).toArray t) }) ?_ ?_
          · unfold execOp; exact valM2 (alloc_run hz w)
          · have := putS_next (next := next) h hnt (a := a) hinv ha (by simp) (fun st' ρ' a' g1 g2 g3 g4 => hK st' ρ' a' _ g1 g2 g3 g4 (fun _ => ext_push _ _))
            simp only [SV.den, PE.den, NE.den, hn] at this
            rw [hi.heap]; rw [hi.heap] at this; exact this
        · exact h.elim
      · exact h.elim
    · -- box
      rename_i t x _
      split at h
      · rename_i y hy
        split at h
        · rename_i hzl
          simp only [VC.den] at h
          have ha : Agree st.m ρ (ρ.setN st.m (st.h.den ρ).size) := Agree.setN (Nat.le_refl _) _
          have hi' := hi.later (m' := st.m + 1) ha (by omega)
          have hn : (ρ.setN st.m (st.h.den ρ).size).n st.m = (st.h.den ρ).size := by simp [Env.setN]
          have hy' := look_sound hi'.ag hg hy
          have hinv := hi.alloc (n := y.cells.length) (w' := { w with heap := w.heap.push (.cells (y.cells.map (SV.den (ρ.setN st.m (st.h.den ρ).size))).toArray t) }) hzl rfl rfl (.inl rfl)
          refine upon_of_run (v := .pointer (some ⟨w.heap.size, 0, none⟩)) (w' := { w with heap := w.heap.push (.cells (y.cells.map (SV.den (ρ.setN st.m (st.h.den ρ).size))).toArray t) }) ?_ ?_
          · unfold execOp; simp only [hy']; exact valM2 (box_run w)
          · have := putS_next (next := next) h hnt (a := a) hinv ha (by simp) (fun st' ρ' a' g1 g2 g3 g4 => hK st' ρ' a' _ g1 g2 g3 g4 (fun _ => ext_push _ _))
            simp only [SV.den, PE.den, NE.den, hn] at this
            rw [hi.heap]; rw [hi.heap] at this; exact this
        · exact h.elim
      · exact h.elim
    · -- call
      rename_i f args ats _
      split at h
      · rename_i g first cap as hf has
        split at h
        · rename_i ts hts
          obtain ⟨he, fn, hfn1, hfn2⟩ := hfn g ts hts
          have h := knowAll_sound h (fun B hB => hi.kn.all B (List.mem_filter.1 hB).1)
          have hf' := look_sound hi.ag hg hf
          have has' := lookL_arr (fun y v hy => look_sound hi.ag hg hy) has
          simp only [SV.den] at hf'
          unfold Oper.wp
          rw [execOp_call hf' has' he]
          show Calls P g _ w _
          split at h
          · simp only [VC.den] at h
            have := h w hi.heap hi.rest
            simp only [List.map_append] at this
            refine this.mono ?_
            intro e w' ⟨hrest, hx, hd⟩
            have ha1 : Agree st.m ρ ((ρ.setH st.m w'.heap).setE e) := (Agree.setH (Nat.le_refl _) _).trans (Agree.setE (m := st.m) e) (Nat.le_refl _)
            obtain ⟨v, rfl, hn⟩ := result_next (e := e) hi ha1 (by simp [Env.setH, Env.setE]) (hrest.trans hi.rest.symm) (by rw [hi.heap.symm] at hx; exact hi.kn.ext (by rw [← hi.heap]; exact hx)) hi.knfix (hi.fr.trans (hx.frame _) (fun _ h => h) (fun _ _ h => h)) hi.wrfix rfl hnt hd (fun st' ρ' a' g1 g2 g3 g4 => hK st' ρ' a' _ g1 g2 g3 g4 (fun _ => by rw [hi.heap]; exact hx))
            exact hn
          · simp only [VC.den] at h
            have := h w hi.heap hi.rest
            simp only [List.map_append] at this
            refine this.mono ?_
            intro e w' ⟨hrest, F, hfr, hno, hd⟩
            obtain ⟨v, rfl, hn⟩ := result_frame hi hfr hno hrest hnt hd (fun st' ρ' a' g1 g2 g3 g4 => hK st' ρ' a' _ g1 g2 g3 g4 (fun he => by simp_all [isExtOp]))
            exact hn
        · exact h.elim
      · rename_i q as hf has
        have hf' := look_sound hi.ag hg hf
        have has' := lookL_arr (fun y v hy => look_sound hi.ag hg hy) has
        split at h
        · simp only [VC.den] at h
          obtain ⟨g, cs, hq, he, h⟩ := h
          simp only [SV.den, hq, cloVal] at hf'
          unfold Oper.wp
          rw [execOp_call (first := []) (cap := cs) (by simpa using hf') has' he]
          show Calls P g _ w _
          have := h w hi.heap hi.rest
          simp only [List.nil_append]
          refine this.mono ?_
          intro e w' ⟨hrest, hx, hd⟩
          have ha1 : Agree st.m ρ ((ρ.setH st.m w'.heap).setE e) := (Agree.setH (Nat.le_refl _) _).trans (Agree.setE (m := st.m) e) (Nat.le_refl _)
          obtain ⟨v, rfl, hn⟩ := result_next (e := e) hi ha1 (by simp [Env.setH, Env.setE]) (hrest.trans hi.rest.symm) (by rw [hi.heap.symm] at hx; exact hi.kn.ext (by rw [← hi.heap]; exact hx)) hi.knfix (hi.fr.trans (hx.frame _) (fun _ h => h) (fun _ _ h => h)) hi.wrfix rfl hnt hd (fun st' ρ' a' g1 g2 g3 g4 => hK st' ρ' a' _ g1 g2 g3 g4 (fun _ => by rw [hi.heap]; exact hx))
          exact hn
        · simp only [VC.den] at h
          obtain ⟨g, cs, hq, he, h⟩ := h
          simp only [SV.den, hq, cloVal] at hf'
          unfold Oper.wp
          rw [execOp_call (first := []) (cap := cs) (by simpa using hf') has' he]
          show Calls P g _ w _
          have := h w hi.heap hi.rest
          simp only [List.nil_append]
          refine this.mono ?_
          intro e w' ⟨hrest, F, hfr, hno, hd⟩
          obtain ⟨v, rfl, hn⟩ := result_frame hi hfr hno hrest hnt hd (fun st' ρ' a' g1 g2 g3 g4 => hK st' ρ' a' _ g1 g2 g3 g4 (fun he => by simp_all [isExtOp]))
          exact hn
      · exact h.elim
    · exact memOp_sound hc hnt h hi hg hK
end
end Go.Proofs.YtkcjhabbgaaknaaGreat.E
