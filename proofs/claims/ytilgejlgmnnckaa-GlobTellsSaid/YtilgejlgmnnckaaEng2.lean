import Derived.Test.YtilgejlgmnnckaaEng1
/- The engine: what is left to show, and the executor. -/
namespace Go.Proofs.Ytilgejlgmnnckaa.E

inductive CK where
  | int (k : IntKind) | bool | str | ptr | slice | iface | map | fn
def ckOf : Value → Option CK
  | .int k _ => some (.int k) | .bool _ => some .bool | .string _ => some .str | .pointer _ => some .ptr | .slice _ _ _ => some .slice
  | .nilIface => some .iface | .map _ => some .map | .nilFunc => some .fn | _ => none
def cksOf : List Value → Option (List CK)
  | [] => some []
  | v :: l => match ckOf v, cksOf l with
    | some x, some r => some (x :: r)
    | _, _ => none
/-- The kinds of a type's cells. -/
def kindsOf (P : Program) (t : TypeId) : Option (List CK) := match (P.info? t).bind (·.zero) with | some z => cksOf z.cells.toList | none => none

/-- The kinds of what a load of a type reads. -/
def loadKinds (P : Program) (t : TypeId) : Option (List CK) :=
  match kindsOf P t, P.info? t, P.underlying t with
  | some ks, some i, some _ => if ks.length = i.size then some ks else none
  | _, _, _ => none
def SV.one : SV → Bool
  | .agg _ | .tup _ => false
  | _ => true
/-- What stands behind a piece of code. -/
inductive KI where
  | seq (p : List Nat) | blk (id : Nat) | nxt (nt : Nat) (keep : List Nat) (N : List Value → Heap → Os × Array (Nat × ByteArray) → Prop)
/-- The pieces of a piece of code. -/
def child : Nat → Code → Code
  | 0, .seq a _ => a | 1, .seq _ b => b
  | 0, .cond _ t _ => t | 1, .cond _ _ e => e
  | 0, .block _ b => b
  | 0, .loop b => b
  | _, _ => .skip
/-- The piece of code at a place: the innermost step stands first. -/
def codeAt (body : Code) : List Nat → Code
  | [] => body
  | i :: p => child i (codeAt body p)

inductive VC where
  | fail (why : String)
  | need (p : BE) (k : VC)
  | needIf (g p : BE) (k : VC)
  | br (c : BE) (t e : VC)
  | both (a b : VC)
  | tt
  | exI (id : Nat) (k : VC) | exN (id : Nat) (k : VC) | exB (id : Nat) (k : VC) | exS (id : Nat) (k : VC) | exP (id : Nat) (k : VC)
  | exF (id : Nat) (k : VC) | exM (id : Nat) (k : VC) | exC (id : Nat) (k : VC)
  | is (h : HE) (b o : NE) (x : SV) (k : VC)
  | isP (p : PE) (b o : NE) (k : VC)
  | wr (h : HE) (b o : NE) (k : VC)
  | new (h : HE) (id : Nat) (k : VC)
  | call (f : Nat) (args : List SV) (h : HE) (id : Nat) (k : VC)
  | callc (c : Nat) (args : List SV) (h : HE) (id : Nat) (k : VC)
  | append (e size bytes : Nat) (h : HE) (p : PE) (n cap : NE) (x : SV) (id : Nat) (k : VC)
  | copy (size : Nat) (h : HE) (p : PE) (n : NE) (x : SV) (id : Nat) (k : VC)
  | make (e : Nat) (z : List SV) (h : HE) (c : IE) (id : Nat) (k : VC)
  | toStr (h : HE) (p : PE) (n : NE) (id : Nat) (k : VC)
  | toBytes (e : Nat) (h : HE) (s : SE) (id : Nat) (k : VC)
  | isE (v : SV) (k : VC)
  | ret (v : SV) (h : HE)
  | loop (p : List Nat) (k : List KI) (vals : List SV) (h : HE)
  | next (N : List Value → Heap → Os × Array (Nat × ByteArray) → Prop) (vals : List SV) (h : HE)

/-- How a region that draws its order is gone through: operations that may be taken first, one by one; else all that may come next. -/
inductive Plan where
  | done
  | hoist (i : Nat) (D : List Nat) (next : Plan)
  | alt (i : Nat) (next rest : Plan)
  | nil
/-- A plan fits a region: 'rs': what may come next, where alternatives are gone through. -/
def planOk (all : Array Oper) : Plan → Array Bool → Option (List Nat) → Bool
  | .done, listed, none => (Region.ready .any all listed).isEmpty
  | .hoist i D next, listed, none => (Region.ready .any all listed).contains i && Region.free .any all listed i && depD .any all i D && noneListed listed D && planOk all next (listed.setIfInBounds i true) none
  | .alt i next rest, listed, none => match Region.ready .any all listed with
    | [] => false
    | j :: rs => Nat.beq i j && planOk all next (listed.setIfInBounds i true) none && planOk all rest listed (some rs)
  | .alt i next rest, listed, some (j :: rs) => Nat.beq i j && planOk all next (listed.setIfInBounds i true) none && planOk all rest listed (some rs)
  | .nil, _, some [] => true
  | _, _, _ => false
def findPlan : List (Nat × Plan) → Nat → Option Plan
  | [], _ => none
  | (j, p) :: l, i => if Nat.beq i j then some p else findPlan l i
/-- The plans fit the code. -/
def plansOk (pl : List (Nat × Plan)) : Code → Bool
  | .region id ops true => match findPlan pl id with
    | some p => Region.noSelect ops && planOk ops p (Array.replicate ops.size false) none
    | none => true
  | .seq a b => plansOk pl a && plansOk pl b
  | .cond _ a b => plansOk pl a && plansOk pl b
  | .block _ b => plansOk pl b
  | .loop b => plansOk pl b
  | _ => true
/-- P0: the program without its functions; fns: of each function that a call may enter, its results' types. -/
structure Cfg where
  body : Code
  P0 : Program
  fns : List (Option (List TypeId))
  res : List ResultVar
  nt : Nat
  keep : List (List Nat × List Nat)
  wraps : List Nat := []
  plans : List (Nat × Plan) := []

/-- The slots that live at a loop's head. -/
def findKeep : List (List Nat × List Nat) → List Nat → List Nat
  | [], _ => []
  | (q, l) :: r, p => if q = p then l else findKeep r p
def Cfg.keepAt (c : Cfg) (p : List Nat) : List Nat := findKeep c.keep p

def denQ (P : Program) (body : Code) (Qb : Exit → Act → World → Prop) : List KI → Exit → Act → World → Prop
  | [] => Qb
  | .seq p :: k => Exit.then ((codeAt body p).wp P (denQ P body Qb k)) (denQ P body Qb k)
  | .blk id :: k => Exit.inBlock id (denQ P body Qb k)
  | .nxt nt keep N :: k => Exit.then (fun a w => (a.defers = [] ∧ a.tmps.size = nt) ∧ N (keep.map (a.tmps.getD · undef)) w.heap (outw w)) (denQ P body Qb k)
/-- A frame of which some slots are known. -/
def AgV (nt : Nat) (keep : List Nat) (vals : List Value) (a : Act) : Prop := a.defers = [] ∧ a.tmps.size = nt ∧ keep.map (a.tmps.getD · undef) = vals

/-- A function that a call enters. -/
def enters (P : Program) (f : Nat) : Bool := match P.funcs[f]? with
  | some fn => !(fn.name == "runtime.NumGoroutine") && fn.body.isSome
  | none => false
/-- The table of functions says the truth. -/
def Fns (P : Program) (fns : List (Option (List TypeId))) : Prop := ∀ f ts, fns[f]? = some (some ts) → enters P f = true ∧ ∃ fn, P.funcs[f]? = some fn ∧ fn.resultTypes.toList = ts

def Env.setI (ρ : Env) (k : Nat) (x : Int) : Env := { ρ with i := fun j => if j = k then x else ρ.i j }
def Env.setN (ρ : Env) (k : Nat) (x : Nat) : Env := { ρ with n := fun j => if j = k then x else ρ.n j }
def Env.setB (ρ : Env) (k : Nat) (x : Bool) : Env := { ρ with b := fun j => if j = k then x else ρ.b j }
def Env.setS (ρ : Env) (k : Nat) (x : List UInt8) : Env := { ρ with s := fun j => if j = k then x else ρ.s j }
def Env.setP (ρ : Env) (k : Nat) (x : Option Addr) : Env := { ρ with p := fun j => if j = k then x else ρ.p j }
def Env.setF (ρ : Env) (k : Nat) (x : Option (Nat × Value)) : Env := { ρ with f := fun j => if j = k then x else ρ.f j }
def Env.setM (ρ : Env) (k : Nat) (x : Option Nat) : Env := { ρ with m := fun j => if j = k then x else ρ.m j }
def Env.setC (ρ : Env) (k : Nat) (x : Option (Nat × List Value)) : Env := { ρ with c := fun j => if j = k then x else ρ.c j }
def Env.setH (ρ : Env) (k : Nat) (x : Heap) : Env := { ρ with h := fun j => if j = k then x else ρ.h j }
def Env.setE (ρ : Env) (x : Ending) : Env := { ρ with e := x }

def VC.den (P : Program) (body : Code) (nt : Nat) (keep : List Nat → List Nat) (Qb : Exit → Act → World → Prop) (R : Ending → World → Prop) : VC → Env → Prop
  | .fail _, _ => False
  | .need p k, ρ => p.prop ρ ∧ k.den P body nt keep Qb R ρ
  | .needIf g p k, ρ => (g.prop ρ → p.prop ρ) ∧ k.den P body nt keep Qb R ρ
  | .br q t e, ρ => (q.prop ρ → t.den P body nt keep Qb R ρ) ∧ (¬ q.prop ρ → e.den P body nt keep Qb R ρ)
  | .both a b, ρ => a.den P body nt keep Qb R ρ ∧ b.den P body nt keep Qb R ρ
  | .tt, _ => True
  | .exI id k, ρ => ∃ x, k.den P body nt keep Qb R (ρ.setI id x)
  | .exN id k, ρ => ∃ x, k.den P body nt keep Qb R (ρ.setN id x)
  | .exB id k, ρ => ∃ x, k.den P body nt keep Qb R (ρ.setB id x)
  | .exS id k, ρ => ∃ x, k.den P body nt keep Qb R (ρ.setS id x)
  | .exP id k, ρ => ∃ x, k.den P body nt keep Qb R (ρ.setP id x)
  | .exF id k, ρ => ∃ x, k.den P body nt keep Qb R (ρ.setF id x)
  | .exM id k, ρ => ∃ x, k.den P body nt keep Qb R (ρ.setM id x)
  | .exC id k, ρ => ∃ x, k.den P body nt keep Qb R (ρ.setC id x)
  | .is h b o x k, ρ => get (h.den ρ) (b.den ρ) (o.den ρ) = some (x.den ρ) ∧ k.den P body nt keep Qb R ρ
  | .isP p b o k, ρ => p.den ρ = some ⟨b.den ρ, o.den ρ, none⟩ ∧ k.den P body nt keep Qb R ρ
  | .wr h b o k, ρ => (get (h.den ρ) (b.den ρ) (o.den ρ)).isSome = true ∧ frz (h.den ρ) (b.den ρ) (o.den ρ) = false ∧ k.den P body nt keep Qb R ρ
  | .new h id k, ρ => k.den P body nt keep Qb R (ρ.setN id (h.den ρ).size)
  | .call f args h id k, ρ => ∀ w : World, w.heap = h.den ρ → outw w = ρ.o → Calls P f (args.map (SV.den ρ)).toArray w fun e w' => outw w' = ρ.o ∧ k.den P body nt keep Qb R ((ρ.setH id w'.heap).setE e)
  | .callc q args h id k, ρ => ∃ f cs, ρ.c q = some (f, cs) ∧ enters P f = true ∧
      ∀ w : World, w.heap = h.den ρ → outw w = ρ.o → Calls P f (args.map (SV.den ρ) ++ cs).toArray w fun e w' => outw w' = ρ.o ∧ k.den P body nt keep Qb R ((ρ.setH id w'.heap).setE e)
  | .append e size bytes h p n cap x id k, ρ => ∃ olds news, AppPre (h.den ρ) size bytes (p.den ρ) (n.den ρ) (cap.den ρ) (x.den ρ) olds news ∧
      ∀ h' p' c', Appended e size (h.den ρ) (p.den ρ) (n.den ρ) (cap.den ρ) (lenV (x.den ρ)) olds news h' p' c' → k.den P body nt keep Qb R (((ρ.setH id h').setP id p').setN id c')
  | .copy size h p n x id k, ρ => ∃ news, CopyPre (h.den ρ) size (p.den ρ) (n.den ρ) (x.den ρ) news ∧
      k.den P body nt keep Qb R ((ρ.setH id (setRow (h.den ρ) (p.den ρ) 0 news)).setN id (Nat.min (lenV (x.den ρ)) (n.den ρ)))
  | .make e z h c id k, ρ => k.den P body nt keep Qb R ((ρ.setH id ((h.den ρ).push (.cells (copies (c.den ρ).toNat (z.map (SV.den ρ))).toArray e))).setN id (h.den ρ).size)
  | .toStr h p n id k, ρ => ∃ s : List UInt8, s.length = n.den ρ ∧ row (h.den ρ) (p.den ρ) (u8s s) ∧ k.den P body nt keep Qb R (ρ.setS id s)
  | .toBytes e h s id k, ρ => ∀ c', (s.den ρ).length ≤ c' →
      k.den P body nt keep Qb R (((ρ.setH id ((h.den ρ).push (.cells (u8s (s.den ρ) ++ List.replicate (c' - (s.den ρ).length) (Value.int .u8 0)).toArray e (c', c' + 1)))).setN id (h.den ρ).size).setN (id + 1) c')
  | .isE v k, ρ => ρ.e = .returned (v.den ρ) ∧ k.den P body nt keep Qb R ρ
  | .ret v h, ρ => ∀ w : World, w.heap = h.den ρ → outw w = ρ.o → R (.returned (v.den ρ)) w
  | .loop p k vals h, ρ => ∀ (a : Act) (w : World), AgV nt (keep p) (vals.map (SV.den ρ)) a → w.heap = h.den ρ → outw w = ρ.o → (Code.loop (codeAt body p)).wp P (denQ P body Qb k) a w
  | .next N vals h, ρ => N (vals.map (SV.den ρ)) (h.den ρ) ρ.o

/-- The state: the frame, the heap, how many atoms there are. -/
structure St where
  σ : Sig
  h : HE
  m : Nat

def exCK : CK → St → (SV → St → VC) → VC
  | .int k, st, f => .exI st.m (f (.int k (.v st.m)) { st with m := st.m + 1 })
  | .bool, st, f => .exB st.m (f (.bool (.v st.m)) { st with m := st.m + 1 })
  | .str, st, f => .exS st.m (f (.str (.v st.m)) { st with m := st.m + 1 })
  | .ptr, st, f => .exP st.m (f (.ptr (.v st.m)) { st with m := st.m + 1 })
  | .slice, st, f => .exP st.m (.exN (st.m + 1) (.exN (st.m + 2) (f (.slice (.v st.m) (.v (st.m + 1)) (.v (st.m + 2))) { st with m := st.m + 3 })))
  | .iface, st, f => .exF st.m (f (.ifc st.m) { st with m := st.m + 1 })
  | .map, st, f => .exM st.m (f (.map st.m) { st with m := st.m + 1 })
  | .fn, st, f => .exC st.m (f (.clo st.m) { st with m := st.m + 1 })
def exCKs : List CK → St → (List SV → St → VC) → VC
  | [], st, f => f [] st
  | c :: l, st, f => exCK c st fun x st => exCKs l st fun r st => f (x :: r) st
def isAll (h : HE) (b o : NE) (k : VC) : Nat → List SV → VC
  | _, [] => k
  | i, x :: l => .is h b (o.plus i) x (isAll h b o k (i + 1) l)
def needAll (k : VC) : List BE → VC
  | [] => k
  | p :: l => .need p (needAll k l)
def needIfAll (g : BE) (k : VC) : List BE → VC
  | [] => k
  | p :: l => .needIf g p (needIfAll g k l)

def putS (c : Cfg) (st : St) (dst : Option Nat) (x : SV) (K : St → VC) : VC :=
  match dst with
  | none => K st
  | some d => if Nat.blt d c.nt && x.lt st.m then K { st with σ := putσ st.σ d x none } else .fail "slot"
/-- Stores, cell by cell. -/
def storeAll (h : HE) (b o : NE) (K : HE → VC) : Nat → List SV → VC
  | _, [] => K h
  | i, x :: l => .wr h b (o.plus i) (storeAll (.set h b (o.plus i) x) b o K (i + 1) l)
def typeShape (P : Program) (t : TypeId) (st : St) (f : SV → St → VC) : VC :=
  match kindsOf P t with
  | some ks => if isAggB P t then exCKs ks st fun xs st => f (.agg xs) st else match ks with | [k] => exCK k st f | _ => .fail "kinds"
  | none => .fail "no kinds"
def typeShapes (P : Program) : List TypeId → St → (List SV → St → VC) → VC
  | [], st, f => f [] st
  | t :: l, st, f => typeShape P t st fun x st => typeShapes P l st fun r st => f (x :: r) st
/-- The value that a function hands back. -/
def resultVC (c : Cfg) (ts : List TypeId) (st : St) (K : SV → St → VC) : VC :=
  match ts with
  | [t] => typeShape c.P0 t st fun x st => .isE x (K x st)
  | ts => typeShapes c.P0 ts st fun xs st => .isE (.tup xs) (K (.tup xs) st)
def resTypes (P : Program) (t : TypeId) : List TypeId := match P.underlying t with | some (.tuple ts) => ts.toList | _ => [t]
def pickSV (q : BE) (x y : SV) : Option SV :=
  match x, y with
  | .bool u, .bool (.c false) => some (.bool (.and q u))
  | .bool (.c true), .bool v => some (.bool (.or q v))
  | .bool u, .bool v => some (.bool (.ite q u v))
  | .int k a, .int k' b => if k = k' then some (.int k (.ite q a b)) else none
  | _, _ => none
/-- A pick, if its value can be told. -/
def pickOp (σ : Sig) (gs : List (Nat × Bool)) : Op → Option SV
  | .pick (.tmp s) a b => match look σ gs (.tmp s) with
    | some (.bool (.c true)) => look σ gs a
    | some (.bool (.c false)) => look σ gs b
    | some (.bool q) => match look σ ((s, true) :: gs) a, look σ ((s, false) :: gs) b with
      | some x, some y => pickSV q x y
      | _, _ => none
    | _ => none
  | _ => none
def keeps (c : Cfg) (dst : Option Nat) : Bool := match dst with | some d => c.wraps.contains d | none => false
/-- What leaves the world alone: picks and the rest. -/
def quietOp (c : Cfg) (σ : Sig) (gs : List (Nat × Bool)) (o : Oper) : PR :=
  match pickOp σ gs o.op with
  | some x => some ([], x)
  | none => pureOp c.P0 (look σ gs) (keeps c o.dst) o.op
def srcLenSV : SV → Option NE
  | .slice _ m _ => some m
  | .str s => some (.len s)
  | _ => none
def okSrc (P : Program) (t : TypeId) : Bool := match P.underlying t with
  | some (.slice _) => true
  | some .string => true
  | _ => false
def isInt (P : Program) (t : TypeId) (k : IntKind) : Bool := match P.underlying t with
  | some (.int k') => decide (k = k')
  | _ => false
/-- What makes, copies or lengthens rows of cells. -/
def memOp (c : Cfg) (st : St) (gs : List (Nat × Bool)) (o : Oper) (K : St → VC) : VC :=
  match o.op with
  | .call { callee := .builtin .append, args, argTypes } => match args.toList, argTypes.toList with
    | [s, x], [t, tx] => match look st.σ gs s, look st.σ gs x, c.P0.underlying t with
      | some (.slice p n q), some y, some (.slice e) => match c.P0.info? e, zeroCells c.P0 e, srcLenSV y with
        | some i, some z, some m => if Nat.beq z.length i.size && okSrc c.P0 tx then
            .append e i.size i.bytes st.h p n q y st.m (putS c { st with h := .v st.m, m := st.m + 1 } o.dst (.slice (.v st.m) (.add n m) (.v st.m)) K) else .fail "append"
        | _, _, _ => .fail "append"
      | _, _, _ => .fail "append"
    | _, _ => .fail "append"
  | .call { callee := .builtin .copy, args, argTypes } => match args.toList, argTypes.toList with
    | [s, x], [t, _] => match look st.σ gs s, look st.σ gs x, c.P0.underlying t with
      | some (.slice p n _), some y, some (.slice e) => match c.P0.info? e with
        | some i => .copy i.size st.h p n y st.m (putS c { st with h := .v st.m, m := st.m + 1 } o.dst (.int .i64 (.ofN (.v st.m))) K)
        | _ => .fail "copy"
      | _, _, _ => .fail "copy"
    | _, _ => .fail "copy"
  | .makeSlice t l q => match look st.σ gs l, look st.σ gs q, c.P0.underlying t with
    | some (.int _ l), some (.int _ q), some (.slice e) => match c.P0.info? e, zeroCells c.P0 e with
      | some i, some z => if Nat.beq z.length i.size then
          .need (.le (.c 0) l) (.need (.le l q) (.need (.le (.mul (.c i.bytes) q) (.c 281474976710656)) (.need (.le q (.c 9223372036854775807))
            (.make e z st.h q st.m (putS c { st with h := .v st.m, m := st.m + 1 } o.dst (.slice (.at (.v st.m) (.c 0)) (.ofI l) (.ofI q)) K))))) else .fail "makeSlice"
      | _, _ => .fail "makeSlice"
    | _, _, _ => .fail "makeSlice"
  | .buildSlice t len parts => match lookL (look st.σ gs) (parts.toList.map (·.2)) with
    | some vs => match rowSV c.P0 t len ((parts.toList.map (·.1)).zip vs) with
      | some (e, z) => if SV.lts st.m z then .new st.h st.m (putS c { st with h := .push st.h e z, m := st.m + 1 } o.dst (.slice (.at (.v st.m) (.c 0)) (.c len) (.c len)) K) else .fail "buildSlice"
      | none => .fail "buildSlice"
    | none => .fail "buildSlice"
  | .convert s d x => match look st.σ gs x, c.P0.underlying s, c.P0.underlying d with
    | some (.slice p n _), some (.slice e), some .string => if isInt c.P0 e .u8 then .toStr st.h p n st.m (putS c { st with m := st.m + 1 } o.dst (.str (.v st.m)) K) else .fail "convert"
    | some (.str y), some .string, some (.slice e) => if isInt c.P0 e .u8 then
        .toBytes e st.h y st.m (putS c { st with h := .v st.m, m := st.m + 2 } o.dst (.slice (.at (.v st.m) (.c 0)) (.len y) (.v (st.m + 1))) K) else .fail "convert"
    | _, _, _ => .fail "convert"
  | _ => .fail "operation"
/-- An operation that is met: it is run. -/
def stepOp (c : Cfg) (st : St) (gs : List (Nat × Bool)) (o : Oper) (K : St → VC) : VC :=
  match quietOp c st.σ gs o with
  | some (ns, x) => needAll (putS c st o.dst x K) ns
  | none => match o.op with
    | .nilCheck x => match look st.σ gs x with
      | some (.ptr p) => .exN st.m (.exN (st.m + 1) (.isP p (.v st.m) (.v (st.m + 1)) (putS c { st with m := st.m + 2 } o.dst (.ptr (.at (.v st.m) (.v (st.m + 1)))) K)))
      | _ => .fail "nilCheck"
    | .indexAddr t x i => match look st.σ gs x, look st.σ gs i with
      | some (.slice p n q), some j => .exN st.m (.exN (st.m + 1) (.isP p (.v st.m) (.v (st.m + 1)) (match indexAddrSV c.P0 t (.slice (.at (.v st.m) (.v (st.m + 1))) n q) j with
        | some (ns, y) => needAll (putS c { st with m := st.m + 2 } o.dst y K) ns
        | none => .fail "indexAddr")))
      | _, _ => .fail "indexAddr"
    | .load t x => match look st.σ gs x, loadKinds c.P0 t with
      | some (.ptr (.at b q)), some ks => exCKs ks st fun xs st' => isAll st.h b q
          (if isAggB c.P0 t then putS c st' o.dst (.agg xs) K else match xs with | [x] => putS c st' o.dst x K | _ => .fail "load") 0 xs
      | _, _ => .fail "load"
    | .store t x v => match look st.σ gs x, look st.σ gs v, c.P0.info? t with
      | some (.ptr (.at b q)), some y, some i => if Nat.beq y.cells.length i.size && y.cells.all SV.one && b.lt st.m && q.lt st.m && SV.lts st.m y.cells then
          storeAll st.h b q (fun h => match o.dst with
            | none => K { st with h := h }
            | some d => if Nat.blt d c.nt then K { st with σ := dropσ st.σ d, h := h } else .fail "slot") 0 y.cells
        else .fail "store"
      | _, _, _ => .fail "store"
    | .alloc t => match zeroCells c.P0 t with
      | some z => if SV.lts st.m z then .new st.h st.m (putS c { st with h := .push st.h t z, m := st.m + 1 } o.dst (.ptr (.at (.v st.m) (.c 0))) K) else .fail "alloc"
      | none => .fail "alloc"
    | .box t x => match look st.σ gs x with
      | some y => if SV.lts st.m y.cells then .new st.h st.m (putS c { st with h := .push st.h t y.cells, m := st.m + 1 } o.dst (.ptr (.at (.v st.m) (.c 0))) K) else .fail "box"
      | none => .fail "box"
    | .call { callee := .value f, args, .. } => match look st.σ gs f, lookL (look st.σ gs) args.toList with
      | some (.fn (.func g) first cap), some as => match c.fns[g]? with
        | some (some ts) => .call g (first ++ as ++ cap) st.h st.m (resultVC c ts { st with h := .v st.m, m := st.m + 1 } fun x st => putS c st o.dst x K)
        | _ => .fail "call"
      | some (.clo q), some as => .callc q as st.h st.m (resultVC c (resTypes c.P0 o.type) { st with h := .v st.m, m := st.m + 1 } fun x st => putS c st o.dst x K)
      | _, _ => .fail "call"
    | _ => memOp c st gs o K

/-- A task of the executor. -/
inductive Task where
  | code (cd : Code) (p : List Nat) (k : List KI)
  | ops (all : Array Oper) (l : List Oper) (k : List KI)
  | any (all : Array Oper) (n : Nat) (listed : Array Bool) (pl : Plan) (L : List (List Nat × List (NE × NE × SV))) (k : List KI)
  | alts (all : Array Oper) (m : Nat) (listed : Array Bool) (pl : Plan) (L : List (List Nat × List (NE × NE × SV))) (k : List KI)
  | fin (k : List KI)
  | exit (id : Nat) (k : List KI)
  | ret

def looks (σ : Sig) : List Nat → Option (List SV)
  | [] => some []
  | t :: l => match look σ [] (.tmp t), looks σ l with
    | some x, some r => some (x :: r)
    | _, _ => none
/-- The results, read. -/
def resVC (c : Cfg) (h : HE) : List ResultVar → St → (List SV → St → VC) → VC
  | [], st, f => f [] st
  | .tmp t :: l, st, f => match look st.σ [] (.tmp t) with
    | some x => resVC c h l st fun r => f (x :: r)
    | none => .fail "result"
  | .cell t ty :: l, st, f => match look st.σ [] (.tmp t), loadKinds c.P0 ty with
    | some (.ptr (.at b q)), some ks => exCKs ks st fun xs st => isAll h b q
        (if isAggB c.P0 ty then resVC c h l st fun r => f (.agg xs :: r) else match xs with | [x] => resVC c h l st fun r => f (x :: r) | _ => .fail "result") 0 xs
    | _, _ => .fail "result"
def retVC (c : Cfg) (st : St) : VC :=
  resVC c st.h c.res st fun xs _ => match xs with
    | [x] => .ret x st.h
    | xs => .ret (.tup xs) st.h
/-- The slot of an operation's guard, and what it must be. -/
def guardOf (all : Array Oper) (o : Oper) : Option (Option (Nat × Bool)) :=
  match o.guard with
  | none => some none
  | some (j, want) => match (all[j]?).bind (·.dst) with
    | some s => some (some (s, want))
    | none => none
def setConst (σ : Sig) (s : Nat) (b : Bool) : Sig := ⟨s, .bool (.c b), none⟩ :: σ
def heldVC (h : HE) (k : VC) : List (NE × NE × SV) → VC
  | [] => k
  | (b, o, x) :: l => .is h b o x (heldVC h k l)
def heldsVC (i : Nat) (h : HE) (k : VC) : List (List Nat × List (NE × NE × SV)) → VC
  | [] => k
  | (D, l) :: L => if D.contains i then heldsVC i h k L else heldVC h (heldsVC i h k L) l
def bothAll : List VC → VC
  | [] => .tt
  | v :: l => match l with | [] => v | l => .both v (bothAll l)
def skipS (nt : Nat) (σ : Sig) (dst : Option Nat) : Sig := match dst with | some d => if Nat.blt d nt then putσ σ d (.tup []) none else dropσ σ d | none => σ
/-- Is a slot the guard of an operation. -/
def isGuard (all : Array Oper) (dst : Option Nat) : Bool := match dst with
  | some d => all.toList.any fun o => match o.guard with
    | some (j, _) => match (all[j]?).bind (·.dst) with
      | some s => Nat.beq s d
      | none => false
    | none => false
  | none => false
/-- May an operation be taken first, and as what. -/
inductive First where
  | quiet (ns : List BE) (x : SV)
  | load (t : TypeId) (b o : NE) (ks : List CK) (agg : Bool)
  | addr (p : PE)
  | addrIx (p : PE) (t : TypeId) (n q : NE) (j : SV)
  | skip
def firstOp (c : Cfg) (σ : Sig) (gs : List (Nat × Bool)) (o : Oper) : Option First :=
  match quietOp c σ gs o with
  | some (ns, x) => some (.quiet ns x)
  | none => match o.op with
    | .load t x => match look σ gs x, loadKinds c.P0 t with
      | some (.ptr (.at b q)), some ks => some (.load t b q ks (isAggB c.P0 t))
      | _, _ => none
    | .nilCheck x => match look σ gs x with
      | some (.ptr p) => some (.addr p)
      | _ => none
    | .indexAddr t x i => match look σ gs x, look σ gs i with
      | some (.slice p n q), some j => some (.addrIx p t n q j)
      | _, _ => none
    | _ => none
/-- How a guard stands: no guard or one that is met; one that is not; one that is not decided. -/
inductive GS where
  | met (gs : List (Nat × Bool)) | unmet | open_ (s : Nat) (want : Bool) (q : BE) | bad
def guardSt (σ : Sig) (all : Array Oper) (o : Oper) : GS :=
  match guardOf all o with
  | none => .bad
  | some none => .met []
  | some (some (s, want)) => match find σ s with
    | some ⟨_, .bool (.c v), none⟩ => if v = want then .met [(s, want)] else .unmet
    | some ⟨_, .bool q, none⟩ => .open_ s want q
    | some ⟨_, .tup [], none⟩ => .unmet
    | _ => .bad
/-- The first of the alternatives whose guard is not decided. -/
def openOf (σ : Sig) (all : Array Oper) : Plan → Option (Nat × BE)
  | .alt i _ rest => match all[i]? with
    | none => openOf σ all rest
    | some o => match guardSt σ all o with
      | .open_ s _ q => some (s, q)
      | _ => openOf σ all rest
  | _ => none

def exec (c : Cfg) : Nat → Task → St → VC
  | 0, _, _ => .fail "fuel"
  | n + 1, .code cd p k, st => match cd with
    | .skip => exec c n (.fin k) st
    | .label _ => exec c n (.fin k) st
    | .seq a _ => exec c n (.code a (0 :: p) (.seq (1 :: p) :: k)) st
    | .cond x t e => match look st.σ [] x with
      | some (.bool (.c true)) => exec c n (.code t (0 :: p) k) st
      | some (.bool (.c false)) => exec c n (.code e (1 :: p) k) st
      | some (.bool q) => .br q (exec c n (.code t (0 :: p) k) st) (exec c n (.code e (1 :: p) k) st)
      | _ => .fail "cond"
    | .block id b => exec c n (.code b (0 :: p) (.blk id :: k)) st
    | .loop _ => match looks st.σ (c.keepAt (0 :: p)) with
      | some vs => .loop (0 :: p) k vs st.h
      | none => .fail "loop"
    | .exit id => exec c n (.exit id k) st
    | .ret => exec c n .ret st
    | .region _ ops false => exec c n (.ops ops ops.toList k) st
    | .region id ops true => match findPlan c.plans id with
      | some pl => exec c n (.any ops ops.size (Array.replicate ops.size false) pl [] k) st
      | none => .fail "orders"
    | _ => .fail "code"
  | n + 1, .fin k, st => match k with
    | [] => retVC c st
    | .seq p :: k => exec c n (.code (codeAt c.body p) p k) st
    | .blk _ :: k => exec c n (.fin k) st
    | .nxt nt keep N :: _ => match looks st.σ keep with
      | some vs => if Nat.beq nt c.nt then .next N vs st.h else .fail "next"
      | none => .fail "next"
  | n + 1, .exit id k, st => match k with
    | [] => .fail "exit"
    | .blk j :: k => if Nat.beq id j then exec c n (.fin k) st else exec c n (.exit id k) st
    | .seq _ :: k => exec c n (.exit id k) st
    | .nxt _ _ _ :: k => exec c n (.exit id k) st
  | _ + 1, .ret, st => retVC c st
  | n + 1, .ops all l k, st => match l with
    | [] => exec c n (.fin k) st
    | o :: l => match guardSt st.σ all o with
      | .met gs => stepOp c st gs o fun st => exec c n (.ops all l k) st
      | .unmet => exec c n (.ops all l k) { st with σ := skipS c.nt st.σ o.dst }
      | .open_ s want q => match (if isGuard all o.dst then none else quietOp c st.σ [(s, want)] o), o.dst with
        | some (ns, x), some d => if Nat.blt d c.nt && !(Nat.beq d s) && x.lt st.m then needIfAll (if want then q else .not q) (exec c n (.ops all l k) { st with σ := putσ st.σ d x (some (s, want)) }) ns else .fail "guard slot"
        | _, _ => .br q (exec c n (.ops all (o :: l) k) { st with σ := setConst st.σ s true }) (exec c n (.ops all (o :: l) k) { st with σ := setConst st.σ s false })
      | .bad => .fail "guard"
  | n + 1, .any all m listed pl L k, st => match pl with
    | .done => exec c n (.fin k) st
    | .nil => .fail "plan"
    | .hoist i D next => match m, all[i]? with
      | m + 1, some o => match guardSt st.σ all o with
        | .bad => .fail "guard"
        | .open_ s _ q => .br q (exec c n (.any all (m + 1) listed pl L k) { st with σ := setConst st.σ s true }) (exec c n (.any all (m + 1) listed pl L k) { st with σ := setConst st.σ s false })
        | .unmet => exec c n (.any all m (listed.setIfInBounds i true) next L k) { st with σ := skipS c.nt st.σ o.dst }
        | .met gs => match firstOp c st.σ gs o with
          | none => .fail "hoist"
          | some (.quiet ns x) => needAll (putS c st o.dst x fun st => exec c n (.any all m (listed.setIfInBounds i true) next L k) st) ns
          | some .skip => .fail "skip"
          | some (.load _ b q ks agg) => if b.lt st.m && q.lt st.m then
              exCKs ks st fun xs st' => isAll st.h b q
                (if agg then putS c st' o.dst (.agg xs) fun st => exec c n (.any all m (listed.setIfInBounds i true) next ((D, xs.zipIdx.map fun x => (b, q.plus x.2, x.1)) :: L) k) st
                 else match xs with
                  | [x] => putS c st' o.dst x fun st => exec c n (.any all m (listed.setIfInBounds i true) next ((D, [(b, q.plus 0, x)]) :: L) k) st
                  | _ => .fail "load") 0 xs
            else .fail "deps"
          | some (.addr p) => .exN st.m (.exN (st.m + 1) (.isP p (.v st.m) (.v (st.m + 1)) (putS c { st with m := st.m + 2 } o.dst (.ptr (.at (.v st.m) (.v (st.m + 1)))) fun st => exec c n (.any all m (listed.setIfInBounds i true) next L k) st)))
          | some (.addrIx p t ln cp j) => .exN st.m (.exN (st.m + 1) (.isP p (.v st.m) (.v (st.m + 1)) (match indexAddrSV c.P0 t (.slice (.at (.v st.m) (.v (st.m + 1))) ln cp) j with
            | some (ns, y) => needAll (putS c { st with m := st.m + 2 } o.dst y fun st => exec c n (.any all m (listed.setIfInBounds i true) next L k) st) ns
            | none => .fail "indexAddr")))
      | _, _ => .fail "hoist"
    | .alt _ _ _ => match openOf st.σ all pl with
      | some (s, q) => .br q (exec c n (.any all m listed pl L k) { st with σ := setConst st.σ s true }) (exec c n (.any all m listed pl L k) { st with σ := setConst st.σ s false })
      | none => match m with
        | m + 1 => exec c n (.alts all m listed pl L k) st
        | 0 => .fail "alt"
  | n + 1, .alts all m listed pl L k, st => match pl with
    | .nil => .tt
    | .alt i next rest => match all[i]? with
      | some o => match guardSt st.σ all o, rest with
        | .met gs, .nil => stepOp c st gs o fun st => heldsVC i st.h (exec c n (.any all m (listed.setIfInBounds i true) next L k) st) L
        | .met gs, rest => .both (stepOp c st gs o fun st => heldsVC i st.h (exec c n (.any all m (listed.setIfInBounds i true) next L k) st) L) (exec c n (.alts all m listed rest L k) st)
        | .unmet, rest => .both (exec c n (.any all m (listed.setIfInBounds i true) next L k) { st with σ := skipS c.nt st.σ o.dst }) (exec c n (.alts all m listed rest L k) st)
        | _, _ => .fail "guard"
      | none => .fail "alt"
    | _ => .fail "alts"
end Go.Proofs.Ytilgejlgmnnckaa.E

/- The engine: the soundness of its steps. -/
namespace Go.Proofs.Ytilgejlgmnnckaa.E
section
variable {P : Program}
/-- The program without its functions. -/
abbrev bare (P : Program) : Program := { P with funcs := #[] }
theorem pureOp_bare (lk : Operand → Option SV) (keep : Bool) (op : Op) : pureOp (bare P) lk keep op = pureOp P lk keep op := rfl
theorem kindsOf_bare (t : TypeId) : kindsOf (bare P) t = kindsOf P t := rfl
theorem isAggB_bare (t : TypeId) : isAggB (bare P) t = isAggB P t := rfl
theorem zeroCells_bare (t : TypeId) : zeroCells (bare P) t = zeroCells P t := rfl
theorem indexAddrSV_bare (t : TypeId) (x y : SV) : indexAddrSV (bare P) t x y = indexAddrSV P t x y := rfl

theorem Agree.refl (m : Nat) (ρ : Env) : Agree m ρ ρ := ⟨fun _ _ => ⟨rfl, rfl, rfl, rfl, rfl, rfl, rfl, rfl, rfl⟩, rfl⟩
theorem Agree.trans {m m' : Nat} {ρ ρ1 ρ2 : Env} (h1 : Agree m ρ ρ1) (h2 : Agree m' ρ1 ρ2) (h : m ≤ m') : Agree m ρ ρ2 := ⟨fun k hk => by
  obtain ⟨a1, a2, a3, a4, a5, a6, a7, a8, a9⟩ := h1 k hk
  obtain ⟨b1, b2, b3, b4, b5, b6, b7, b8, b9⟩ := h2 k (Nat.lt_of_lt_of_le hk h)
  exact ⟨b1.trans a1, b2.trans a2, b3.trans a3, b4.trans a4, b5.trans a5, b6.trans a6, b7.trans a7, b8.trans a8, b9.trans a9⟩, h2.o.trans h1.o⟩
theorem Agree.le {m m' : Nat} {ρ ρ1 : Env} (h1 : Agree m' ρ ρ1) (h : m ≤ m') : Agree m ρ ρ1 := ⟨fun k hk => h1 k (Nat.lt_of_lt_of_le hk h), h1.o⟩
section
variable {m k : Nat} {ρ : Env}
theorem Agree.setI (hk : m ≤ k) (x : Int) : Agree m ρ (ρ.setI k x) := ⟨fun j hj => by
  have : j ≠ k := by omega
  exact ⟨rfl, if_neg this, rfl, rfl, rfl, rfl, rfl, rfl, rfl⟩, rfl⟩
theorem Agree.setN (hk : m ≤ k) (x : Nat) : Agree m ρ (ρ.setN k x) := ⟨fun j hj => by
  have : j ≠ k := by omega
  exact ⟨if_neg this, rfl, rfl, rfl, rfl, rfl, rfl, rfl, rfl⟩, rfl⟩
theorem Agree.setB (hk : m ≤ k) (x : Bool) : Agree m ρ (ρ.setB k x) := ⟨fun j hj => by
  have : j ≠ k := by omega
  exact ⟨rfl, rfl, if_neg this, rfl, rfl, rfl, rfl, rfl, rfl⟩, rfl⟩
theorem Agree.setS (hk : m ≤ k) (x : List UInt8) : Agree m ρ (ρ.setS k x) := ⟨fun j hj => by
  have : j ≠ k := by omega
  exact ⟨rfl, rfl, rfl, if_neg this, rfl, rfl, rfl, rfl, rfl⟩, rfl⟩
theorem Agree.setP (hk : m ≤ k) (x : Option Addr) : Agree m ρ (ρ.setP k x) := ⟨fun j hj => by
  have : j ≠ k := by omega
  exact ⟨rfl, rfl, rfl, rfl, if_neg this, rfl, rfl, rfl, rfl⟩, rfl⟩
theorem Agree.setF (hk : m ≤ k) (x : Option (Nat × Value)) : Agree m ρ (ρ.setF k x) := ⟨fun j hj => by
  have : j ≠ k := by omega
  exact ⟨rfl, rfl, rfl, rfl, rfl, if_neg this, rfl, rfl, rfl⟩, rfl⟩
theorem Agree.setM (hk : m ≤ k) (x : Option Nat) : Agree m ρ (ρ.setM k x) := ⟨fun j hj => by
  have : j ≠ k := by omega
  exact ⟨rfl, rfl, rfl, rfl, rfl, rfl, if_neg this, rfl, rfl⟩, rfl⟩
theorem Agree.setC (hk : m ≤ k) (x : Option (Nat × List Value)) : Agree m ρ (ρ.setC k x) := ⟨fun j hj => by
  have : j ≠ k := by omega
  exact ⟨rfl, rfl, rfl, rfl, rfl, rfl, rfl, if_neg this, rfl⟩, rfl⟩
theorem Agree.setH (hk : m ≤ k) (x : Heap) : Agree m ρ (ρ.setH k x) := ⟨fun j hj => by
  have : j ≠ k := by omega
  exact ⟨rfl, rfl, rfl, rfl, rfl, rfl, rfl, rfl, if_neg this⟩, rfl⟩
theorem Agree.setE (x : Ending) : Agree m ρ (ρ.setE x) := ⟨fun _ _ => ⟨rfl, rfl, rfl, rfl, rfl, rfl, rfl, rfl, rfl⟩, rfl⟩
end

/-- A term's value stays, whatever later atoms come to be. -/
def Fix {α β : Type} (den : Env → α → β) (m : Nat) (ρ : Env) (x : α) : Prop := ∀ ρ', Agree m ρ ρ' → den ρ' x = den ρ x
theorem Fix.sv {m : Nat} {ρ : Env} {x : SV} (h : x.lt m = true) : Fix SV.den m ρ x := fun _ ha => SV.stable ha x h
theorem Fix.ne {m : Nat} {ρ : Env} {x : NE} (h : x.lt m = true) : Fix NE.den m ρ x := fun _ ha => NE.stable ha x h
theorem Fix.later {α β : Type} {den : Env → α → β} {m m' : Nat} {ρ ρ1 : Env} {x : α} (h : Fix den m ρ x) (ha : Agree m ρ ρ1) (hm : m ≤ m') : Fix den m' ρ1 x := fun ρ' h' => by
  rw [h ρ' (ha.trans h' hm), h ρ1 ha]

structure Inv (nt : Nat) (ρ : Env) (st : St) (a : Act) (w : World) : Prop where
  ag : Ag ρ nt st.σ a
  fix : ∀ e ∈ st.σ, Fix SV.den st.m ρ e.x
  hfix : Fix HE.den st.m ρ st.h
  heap : w.heap = st.h.den ρ
  rest : outw w = ρ.o
theorem Inv.later {nt : Nat} {ρ ρ1 : Env} {st : St} {a : Act} {w : World} (h : Inv nt ρ st a w) {m' : Nat} (ha : Agree st.m ρ ρ1) (hm : st.m ≤ m') : Inv nt ρ1 { st with m := m' } a w where
  ag := ⟨h.ag.1, h.ag.2.1, fun e he hg => by rw [h.ag.2.2 e he hg, h.fix e he ρ1 ha]⟩
  fix := fun e he => (h.fix e he).later ha hm
  hfix := h.hfix.later ha hm
  heap := by rw [h.heap, h.hfix ρ1 ha]
  rest := by rw [h.rest, ha.o]

section
variable {body : Code} {nt : Nat} {keep : List Nat → List Nat} {Qb : Exit → Act → World → Prop} {R : Ending → World → Prop}
theorem needAll_sound {k : VC} {ρ : Env} : ∀ {l : List BE}, (needAll k l).den P body nt keep Qb R ρ → (∀ p ∈ l, p.prop ρ) ∧ k.den P body nt keep Qb R ρ
  | [], h => ⟨by simp, h⟩
  | p :: l, h => by
    simp only [needAll, VC.den] at h
    obtain ⟨h1, h2⟩ := needAll_sound h.2
    exact ⟨by intro q hq; rcases List.mem_cons.1 hq with rfl | hq; · exact h.1
              · exact h1 q hq, h2⟩
theorem needIfAll_sound {g : BE} {k : VC} {ρ : Env} : ∀ {l : List BE}, (needIfAll g k l).den P body nt keep Qb R ρ → (g.prop ρ → ∀ p ∈ l, p.prop ρ) ∧ k.den P body nt keep Qb R ρ
  | [], h => ⟨by simp, h⟩
  | p :: l, h => by
    simp only [needIfAll, VC.den] at h
    obtain ⟨h1, h2⟩ := needIfAll_sound h.2
    exact ⟨by intro hg q hq; rcases List.mem_cons.1 hq with rfl | hq; · exact h.1 hg
              · exact h1 hg q hq, h2⟩
theorem putσ_fix {m : Nat} {ρ : Env} {σ : Sig} {d : Nat} {x : SV} {g : Option (Nat × Bool)} (h : ∀ e ∈ σ, Fix SV.den m ρ e.x) (hx : Fix SV.den m ρ x) : ∀ e ∈ putσ σ d x g, Fix SV.den m ρ e.x := by
  intro e he
  rcases List.mem_cons.1 he with rfl | he
  · exact hx
  · exact h e (List.mem_filter.1 he).1
theorem dropσ_fix {m : Nat} {ρ : Env} {σ : Sig} {d : Nat} (h : ∀ e ∈ σ, Fix SV.den m ρ e.x) : ∀ e ∈ dropσ σ d, Fix SV.den m ρ e.x :=
  fun e he => h e (List.mem_filter.1 he).1
theorem putS_sound {c : Cfg} {st : St} {dst : Option Nat} {x : SV} {K : St → VC} {ρ : Env} {a : Act} {w : World} (h : (putS c st dst x K).den P body nt keep Qb R ρ) (hnt : c.nt = nt)
    (hi : Inv nt ρ st a w) : ∃ st', (K st').den P body nt keep Qb R ρ ∧ Inv nt ρ st' (a.put dst (x.den ρ)) w ∧ st'.m = st.m ∧ st'.h = st.h := by
  unfold putS at h
  cases dst with
  | none => exact ⟨st, h, hi, rfl, rfl⟩
  | some d =>
    simp only at h
    split at h
    · rename_i hc
      simp only [Bool.and_eq_true] at hc
      refine ⟨_, h, ⟨Ag_put hi.ag (by rw [← hnt]; exact blt_lt hc.1) (fun _ => rfl), putσ_fix hi.fix (Fix.sv hc.2), hi.hfix, hi.heap, hi.rest⟩, rfl, rfl⟩
    · exact h.elim
theorem exCK_sound {ck : CK} {st : St} {f : SV → St → VC} {ρ : Env} (h : (exCK ck st f).den P body nt keep Qb R ρ) :
    ∃ ρ' x m', (f x { st with m := m' }).den P body nt keep Qb R ρ' ∧ Agree st.m ρ ρ' ∧ st.m ≤ m' ∧ x.lt m' = true ∧ ρ'.e = ρ.e := by
  have b1 : ∀ k, Nat.blt k (k + 1) = true := fun k => by simp [Nat.blt_eq]
  have b3 : ∀ k, Nat.blt k (k + 3) = true := fun k => by simp [Nat.blt_eq]
  have b3' : ∀ k, Nat.blt (k + 1) (k + 3) = true := fun k => by simp [Nat.blt_eq]
  have b3'' : ∀ k, Nat.blt (k + 2) (k + 3) = true := fun k => by simp [Nat.blt_eq]
  cases ck <;> simp only [exCK, VC.den] at h
  case int k => obtain ⟨x, h⟩ := h; exact ⟨_, _, _, h, Agree.setI (Nat.le_refl _) x, Nat.le_succ _, by simp only [SV.lt, IE.lt, b1], rfl⟩
  case bool => obtain ⟨x, h⟩ := h; exact ⟨_, _, _, h, Agree.setB (Nat.le_refl _) x, Nat.le_succ _, by simp only [SV.lt, BE.lt', b1], rfl⟩
  case str => obtain ⟨x, h⟩ := h; exact ⟨_, _, _, h, Agree.setS (Nat.le_refl _) x, Nat.le_succ _, by simp only [SV.lt, SE.lt, b1], rfl⟩
  case ptr => obtain ⟨x, h⟩ := h; exact ⟨_, _, _, h, Agree.setP (Nat.le_refl _) x, Nat.le_succ _, by simp only [SV.lt, PE.lt, b1], rfl⟩
  case slice =>
    obtain ⟨x, y, z, h⟩ := h
    refine ⟨_, _, _, h, ((Agree.setP (Nat.le_refl _) x).trans (Agree.setN (Nat.le_succ _) y) (Nat.le_refl _)).trans (Agree.setN (Nat.le_succ_of_le (Nat.le_succ _)) z) (Nat.le_refl _), by omega, by simp only [SV.lt, PE.lt, NE.lt, b3, b3', b3'', Bool.and_self], rfl⟩
  case iface => obtain ⟨x, h⟩ := h; exact ⟨_, _, _, h, Agree.setF (Nat.le_refl _) x, Nat.le_succ _, by simp only [SV.lt, b1], rfl⟩
  case map => obtain ⟨x, h⟩ := h; exact ⟨_, _, _, h, Agree.setM (Nat.le_refl _) x, Nat.le_succ _, by simp only [SV.lt, b1], rfl⟩
  case fn => obtain ⟨x, h⟩ := h; exact ⟨_, _, _, h, Agree.setC (Nat.le_refl _) x, Nat.le_succ _, by simp only [SV.lt, b1], rfl⟩
theorem exCKs_sound : ∀ {l : List CK} {st : St} {f : List SV → St → VC} {ρ : Env}, (exCKs l st f).den P body nt keep Qb R ρ →
    ∃ ρ' xs m', (f xs { st with m := m' }).den P body nt keep Qb R ρ' ∧ Agree st.m ρ ρ' ∧ st.m ≤ m' ∧ (∀ x ∈ xs, Fix SV.den m' ρ' x) ∧ xs.length = l.length ∧ ρ'.e = ρ.e
  | [], st, f, ρ, h => ⟨ρ, [], st.m, h, Agree.refl _ _, Nat.le_refl _, by simp, rfl, rfl⟩
  | c :: l, st, f, ρ, h => by
    simp only [exCKs] at h
    obtain ⟨ρ1, x, m1, h1, a1, l1, hx, e1⟩ := exCK_sound h
    obtain ⟨ρ2, xs, m2, h2, a2, l2, hxs, hl, e2⟩ := exCKs_sound h1
    refine ⟨ρ2, x :: xs, m2, h2, a1.trans a2 l1, Nat.le_trans l1 l2, ?_, by simp [hl], e2.trans e1⟩
    intro y hy
    rcases List.mem_cons.1 hy with rfl | hy
    · exact (Fix.sv hx).later a2 l2
    · exact hxs y hy
theorem isAll_sound {h : HE} {b o : NE} {k : VC} {ρ : Env} : ∀ {xs : List SV} {i : Nat}, (isAll h b o k i xs).den P body nt keep Qb R ρ →
    (∀ j x, xs[j]? = some x → get (h.den ρ) (b.den ρ) (o.den ρ + (i + j)) = some (x.den ρ)) ∧ k.den P body nt keep Qb R ρ
  | [], i, hh => ⟨by simp, hh⟩
  | x :: xs, i, hh => by
    simp only [isAll, VC.den, NE.plus_den] at hh
    obtain ⟨h1, h2⟩ := isAll_sound hh.2
    refine ⟨fun j y hj => ?_, h2⟩
    cases j with
    | zero => simp at hj; subst hj; exact hh.1
    | succ j => simp at hj; rw [show o.den ρ + (i + (j + 1)) = o.den ρ + (i + 1 + j) from by omega]; exact h1 j y hj
end
end
end Go.Proofs.Ytilgejlgmnnckaa.E

/- The engine: the soundness of an operation that is run. -/
namespace Go.Proofs.Ytilgejlgmnnckaa.E
section
variable {P : Program} {body : Code} {nt : Nat} {keep : List Nat → List Nat} {Qb : Exit → Act → World → Prop} {R : Ending → World → Prop}

theorem get_cell (w : World) (b o : Nat) : w.cell? ⟨b, o, none⟩ = get w.heap b o := by
  unfold World.cell? get; cases w.heap[b]? with
  | none => rfl
  | some x => cases x <;> rfl
theorem frz_frozen (w : World) (b o : Nat) : w.frozen? ⟨b, o, none⟩ = frz w.heap b o := by
  unfold World.frozen? frz; cases w.heap[b]? with
  | none => rfl
  | some x => cases x <;> rfl
theorem setc_setCell (w : World) (b o : Nat) (v : Value) : (w.setCell ⟨b, o, none⟩ v).heap = setc w.heap b o v := by
  unfold World.setCell setc
  simp only [Option.isSome_none, Bool.false_eq_true, if_false]
  rfl
theorem SV.one_den (ρ : Env) (x : SV) (h : x.one = true) : (x.den ρ).oneCell' = true := by
  have h1 : ∀ o, (ifcVal o).oneCell' = true := by intro o; cases o <;> rfl
  have h2 : ∀ o, (cloVal o).oneCell' = true := by intro o; cases o <;> rfl
  cases x <;> simp only [SV.one] at h <;> (first | cases h | skip) <;> simp only [SV.den] <;> (first | rfl | exact h1 _ | exact h2 _)
theorem run_load_cell {w : World} {b o : Nat} {v : Value} (h : get w.heap b o = some v) : (load ⟨b, o, none⟩).run P w = .ok v w := by
  rw [run_load, get_cell, h]
theorem run_store_cell {w : World} {b o : Nat} {v : Value} (hv : v.oneCell' = true) (h : (get w.heap b o).isSome = true) (hf : frz w.heap b o = false) :
    (store ⟨b, o, none⟩ v).run P w = .ok () (w.setCell ⟨b, o, none⟩ v) := by
  rw [run_store P w _ v _ hv, get_cell, frz_frozen, hf]
  cases hg : get w.heap b o with
  | none => rw [hg] at h; cases h
  | some u => rfl
theorem loadCellsFrom_run {w : World} {b o : Nat} : ∀ (vs : List Value) (i : Nat) (acc : Array Value), (∀ j v, vs[j]? = some v → get w.heap b (o + (i + j)) = some v) →
    (loadCellsFrom ⟨b, o, none⟩ i vs.length acc).run P w = .ok (acc ++ vs.toArray) w
  | [], i, acc, _ => by simp [loadCellsFrom]
  | v :: vs, i, acc, h => by
    have h0 := h 0 v (by simp)
    simp only [List.length_cons, loadCellsFrom]
    rw [Sem.run_bind, addr_add, run_load_cell (by simpa using h0)]
    simp only [Result.andThen]
    rw [loadCellsFrom_run vs (i + 1) _ (fun j u hj => by have := h (j + 1) u (by simpa using hj); rw [show o + (i + 1 + j) = o + (i + (j + 1)) from by omega]; exact this)]
    simp
/-- What a load of cells makes. -/
def theOne (agg : Bool) (xs : List SV) : Option SV := if agg then some (.agg xs) else match xs with | [x] => some x | _ => none
theorem loadVar_run {w : World} {t : TypeId} {b o : Nat} {xs : List SV} {ρ : Env} {i : TypeInfo} (hi : P.info? t = some i) (hl : xs.length = i.size) {d : TypeDesc} (hu : P.underlying t = some d)
    (h : ∀ j x, xs[j]? = some x → get w.heap b (o + (0 + j)) = some (x.den ρ)) {y : SV} (hy : theOne (isAggB P t) xs = some y) :
    (loadVar t ⟨b, o, none⟩).run P w = .ok (y.den ρ) w := by
  unfold theOne at hy
  unfold loadVar
  rw [Sem.run_bind, isAgg_run hu]
  simp only [Result.andThen]
  split at hy
  · rename_i hb
    injection hy with hy; subst hy
    simp only [hb, if_true]
    rw [Sem.run_bind, sizeOf_run hi]
    simp only [Result.andThen]
    unfold loadCells
    have hh : ∀ j v, (xs.map (SV.den ρ))[j]? = some v → get w.heap b (o + (0 + j)) = some v := by
      intro j v hv
      simp only [List.getElem?_map, Option.map_eq_some_iff] at hv
      obtain ⟨x, hx, rfl⟩ := hv
      exact h j x hx
    have := loadCellsFrom_run (P := P) (w := w) (b := b) (o := o) (xs.map (SV.den ρ)) 0 #[] hh
    rw [List.length_map, hl] at this
    rw [Sem.run_bind, this]
    simp [SV.den]
  · rename_i hb
    simp only [hb]
    split at hy
    · rename_i x
      injection hy with hy; subst hy
      have := h 0 x (by simp)
      exact run_load_cell (by simpa using this)
    · cases hy
theorem loadKinds_spec {t : TypeId} {ks : List CK} (h : loadKinds P t = some ks) : ∃ i d, P.info? t = some i ∧ P.underlying t = some d ∧ ks.length = i.size := by
  unfold loadKinds at h
  split at h
  · rename_i ks' i d h1 h2 h3
    split at h
    · rename_i hl
      injection h with h; subst h
      exact ⟨i, d, h2, h3, hl⟩
    · cases h
  · cases h
theorem storeCells_run {b o : Nat} {K : HE → VC} {ρ : Env} : ∀ (xs : List SV) (i : Nat) (h : HE) (bE oE : NE) (w : World), bE.den ρ = b → oE.den ρ = o → w.heap = h.den ρ → (∀ x ∈ xs, x.one = true) →
    (storeAll h bE oE K i xs).den P body nt keep Qb R ρ →
    ∃ h' w', (storeCells ⟨b, o, none⟩ (xs.map (SV.den ρ)) i).run P w = .ok () w' ∧ outw w' = outw w ∧ w'.heap = h'.den ρ ∧ (K h').den P body nt keep Qb R ρ ∧
      (∀ m, Fix HE.den m ρ h → Fix NE.den m ρ bE → Fix NE.den m ρ oE → (∀ x ∈ xs, Fix SV.den m ρ x) → Fix HE.den m ρ h')
  | [], i, h, bE, oE, w, _, _, hw, _, hd => ⟨h, w, rfl, rfl, hw, hd, fun _ hh _ _ _ => hh⟩
  | x :: xs, i, h, bE, oE, w, hb, ho, hw, h1, hd => by
    simp only [storeAll, VC.den, NE.plus_den, hb, ho] at hd
    obtain ⟨g1, g2, hd⟩ := hd
    have hx := SV.one_den ρ x (h1 x List.mem_cons_self)
    have hw' : (w.setCell ⟨b, o + i, none⟩ (x.den ρ)).heap = (HE.set h bE (oE.plus i) x).den ρ := by
      rw [setc_setCell, hw]; simp only [HE.den, NE.plus_den, hb, ho]
    obtain ⟨h', w', hr, hrest, hh, hk, hf⟩ := storeCells_run xs (i + 1) _ bE oE _ hb ho hw' (fun y hy => h1 y (List.mem_cons_of_mem _ hy)) hd
    refine ⟨h', w', ?_, hrest, hh, hk, ?_⟩
    · simp only [List.map_cons, storeCells]
      rw [Sem.run_bind, addr_add, run_store_cell hx (by rw [hw]; exact g1) (by rw [hw]; exact g2)]
      exact hr
    · intro m fh fb fo fx
      refine hf m ?_ fb fo (fun y hy => fx y (List.mem_cons_of_mem _ hy))
      intro ρ' ha
      simp only [HE.den, NE.plus_den, fh ρ' ha, fb ρ' ha, fo ρ' ha, fx x List.mem_cons_self ρ' ha]
theorem callFunc_run {f : Nat} (h : enters P f = true) (args : Array Value) (w : World) : (callFunc f args).run P w = .ok (.enter f args) w := by
  unfold enters at h
  cases hf : P.funcs[f]? with
  | none => simp [hf] at h
  | some fn =>
    simp only [hf, Bool.and_eq_true, Bool.not_eq_true', beq_eq_false_iff_ne] at h
    unfold callFunc
    rw [Sem.run_bind, run_program]
    simp only [Result.andThen, hf]
    have h1 : (fn.name == "runtime.NumGoroutine") = false := by simpa using h.1
    have h2 : fn.body.isNone = false := by cases hb : fn.body <;> simp_all
    simp only [h1, h2, Bool.false_eq_true, if_false]
    rfl
theorem execOp_call {a : Act} {f : Operand} {args : Array Operand} {ats : Array TypeId} {dst : Option Nat} {ty : TypeId} {pos : String} {after : Array Edge} {guard : Option (Nat × Bool)}
    {g : Nat} {first cap as : List Value} (hf : a.eval f = .func (.func g) first.toArray cap.toArray) (ha : args.map a.eval = as.toArray) (he : enters P g = true) (w : World) :
    (execOp a.eval { dst, op := .call { callee := .value f, args, argTypes := ats }, type := ty, pos, after, guard }).run P w = .ok (.enter g (first ++ as ++ cap).toArray) w := by
  unfold execOp
  simp only []
  unfold resolve
  simp only [hf, ha, Deferred.ofValue, pure_bind]
  unfold invoke
  simp only []
  rw [callFunc_run he]
  simp

theorem alloc_run {t : TypeId} {z : List SV} {ρ : Env} (h : zeroCells P t = some z) (w : World) :
    (Instr.alloc t true (.tuple #[])).run P w = .ok (.pointer (some ⟨w.heap.size, 0, none⟩)) { w with heap := w.heap.push (.cells (z.map (SV.den ρ)).toArray t) } := by
  obtain ⟨v, hv, hc⟩ := zeroCells_sound (ρ := ρ) h
  unfold Instr.alloc
  rw [Sem.run_bind, zeroValue_run hv]
  simp only [Result.andThen]
  rw [Sem.run_bind]
  unfold newVar newRow
  rw [hc]
  rfl
theorem box_run {t : TypeId} {y : SV} {ρ : Env} (w : World) :
    (Instr.box t (y.den ρ)).run P w = .ok (.pointer (some ⟨w.heap.size, 0, none⟩)) { w with heap := w.heap.push (.cells (y.cells.map (SV.den ρ)).toArray t) } := by
  unfold Instr.box newVar newRow
  rw [SV.cells_den]
  rfl
theorem typeShape_sound {t : TypeId} {st : St} {f : SV → St → VC} {ρ : Env} (h : (typeShape P t st f).den P body nt keep Qb R ρ) :
    ∃ ρ' x m', (f x { st with m := m' }).den P body nt keep Qb R ρ' ∧ Agree st.m ρ ρ' ∧ st.m ≤ m' ∧ Fix SV.den m' ρ' x ∧ ρ'.e = ρ.e := by
  unfold typeShape at h
  split at h
  · rename_i ks hk
    split at h
    · obtain ⟨ρ', xs, m', h1, h2, h3, h4, h5, h6⟩ := exCKs_sound h
      refine ⟨ρ', _, m', h1, h2, h3, ?_, h6⟩
      intro ρ2 ha
      simp only [SV.den]
      rw [List.map_congr_left fun x hx => h4 x hx ρ2 ha]
    · split at h
      · obtain ⟨ρ', x, m', h1, h2, h3, h4, h5⟩ := exCK_sound h
        exact ⟨ρ', x, m', h1, h2, h3, Fix.sv h4, h5⟩
      · exact h.elim
  · exact h.elim
theorem typeShapes_sound : ∀ {ts : List TypeId} {st : St} {f : List SV → St → VC} {ρ : Env}, (typeShapes P ts st f).den P body nt keep Qb R ρ →
    ∃ ρ' xs m', (f xs { st with m := m' }).den P body nt keep Qb R ρ' ∧ Agree st.m ρ ρ' ∧ st.m ≤ m' ∧ (∀ x ∈ xs, Fix SV.den m' ρ' x) ∧ ρ'.e = ρ.e
  | [], st, f, ρ, h => ⟨ρ, [], st.m, h, Agree.refl _ _, Nat.le_refl _, by simp, rfl⟩
  | t :: ts, st, f, ρ, h => by
    simp only [typeShapes] at h
    obtain ⟨ρ1, x, m1, h1, a1, l1, hx, e1⟩ := typeShape_sound h
    obtain ⟨ρ2, xs, m2, h2, a2, l2, hxs, e2⟩ := typeShapes_sound h1
    refine ⟨ρ2, x :: xs, m2, h2, a1.trans a2 l1, Nat.le_trans l1 l2, ?_, e2.trans e1⟩
    intro y hy
    rcases List.mem_cons.1 hy with rfl | hy
    · exact hx.later a2 l2
    · exact hxs y hy
theorem resultVC_sound {c : Cfg} (hc : c.P0 = bare P) {ts : List TypeId} {st : St} {K : SV → St → VC} {ρ : Env} (h : (resultVC c ts st K).den P body nt keep Qb R ρ) :
    ∃ ρ' x m', (K x { st with m := m' }).den P body nt keep Qb R ρ' ∧ Agree st.m ρ ρ' ∧ st.m ≤ m' ∧ ρ.e = .returned (x.den ρ') := by
  have key : ∀ t (f : SV → St → VC), typeShape c.P0 t st f = typeShape P t st f := by intro t f; rw [hc]; rfl
  have keys : ∀ ts (st : St) (f : List SV → St → VC), typeShapes c.P0 ts st f = typeShapes P ts st f := by
    intro ts; rw [hc]
    induction ts with
    | nil => intro st f; rfl
    | cons t ts ih => intro st f; simp only [typeShapes, ih]; rfl
  unfold resultVC at h
  split at h
  · rw [key] at h
    obtain ⟨ρ', x, m', h1, h2, h3, _, h5⟩ := typeShape_sound h
    simp only [VC.den] at h1
    exact ⟨ρ', x, m', h1.2, h2, h3, by rw [← h5]; exact h1.1⟩
  · rw [keys] at h
    obtain ⟨ρ', xs, m', h1, h2, h3, _, h5⟩ := typeShapes_sound h
    simp only [VC.den] at h1
    exact ⟨ρ', _, m', h1.2, h2, h3, by rw [← h5]; exact h1.1⟩
end
end Go.Proofs.Ytilgejlgmnnckaa.E

/- The engine: an operation is run: its soundness. -/
namespace Go.Proofs.Ytilgejlgmnnckaa.E
section
variable {P : Program} {body : Code} {nt : Nat} {keep : List Nat → List Nat} {Qb : Exit → Act → World → Prop} {R : Ending → World → Prop} {ρ : Env}

theorem pickSV_sound {q : BE} {x y z : SV} (h : pickSV q x y = some z) : z.den ρ = if q.den ρ then x.den ρ else y.den ρ := by
  unfold pickSV at h
  split at h
  · injection h with h; subst h; simp only [SV.den, BE.den]; cases q.den ρ <;> simp
  · injection h with h; subst h; simp only [SV.den, BE.den]; cases q.den ρ <;> simp
  · injection h with h; subst h; simp only [SV.den, BE.den]; cases q.den ρ <;> simp
  · split at h
    · rename_i hk; subst hk
      injection h with h; subst h; simp only [SV.den, IE.den]; cases q.den ρ <;> simp
    · cases h
  · cases h
theorem run_pick {a : Act} {c x y : Operand} {b : Bool} (hc : a.eval c = .bool b) {dst : Option Nat} {ty : TypeId} {pos : String} {after : Array Edge} {guard : Option (Nat × Bool)} (w : World) :
    (execOp a.eval { dst, op := .pick c x y, type := ty, pos, after, guard }).run P w = .ok (.value (if b then a.eval x else a.eval y)) w := by
  unfold execOp
  simp only [hc, asBool, pure_bind]
  rfl
theorem quietOp_sound {c : Cfg} (hc : c.P0 = bare P) {σ : Sig} {gs : List (Nat × Bool)} {o : Oper} {r : List BE × SV} (h : quietOp c σ gs o = some r) {a : Act} (hag : Ag ρ nt σ a)
    (hg : ∀ g ∈ gs, Holds a (some g)) (hn : ∀ p ∈ r.1, p.prop ρ) (w : World) : (execOp a.eval o).run P w = .ok (.value (r.2.den ρ)) w := by
  unfold quietOp at h
  split at h
  · rename_i x hp
    injection h with h; subst h
    obtain ⟨dst, op, ty, pos, after, guard⟩ := o
    simp only at hp
    unfold pickOp at hp
    split at hp
    · rename_i s u v
      split at hp
      · rename_i hs
        have e1 := look_sound hag hg hs
        have e2 := look_sound hag hg hp
        simp only [SV.den, BE.den] at e1
        rw [run_pick e1 w, e2]; rfl
      · rename_i hs
        have e1 := look_sound hag hg hs
        have e2 := look_sound hag hg hp
        simp only [SV.den, BE.den] at e1
        rw [run_pick e1 w, e2]; rfl
      · rename_i q _ _ hs
        have e1 := look_sound hag hg hs
        simp only [SV.den] at e1
        have hs' : a.tmps.getD s undef = .bool (q.den ρ) := e1
        split at hp
        · rename_i x' y' hx hy
          rw [run_pick e1 w, pickSV_sound (ρ := ρ) hp]
          cases hq : q.den ρ with
          | true =>
            have := look_sound hag (gs := (s, true) :: gs) (by
              intro g hgm; rcases List.mem_cons.1 hgm with rfl | hgm
              · show a.tmps.getD s undef = _; rw [hs', hq]
              · exact hg g hgm) hx
            simp [this]
          | false =>
            have := look_sound hag (gs := (s, false) :: gs) (by
              intro g hgm; rcases List.mem_cons.1 hgm with rfl | hgm
              · show a.tmps.getD s undef = _; rw [hs', hq]
              · exact hg g hgm) hy
            simp [this]
        · cases hp
      · cases hp
    · cases hp
  · rw [hc, pureOp_bare] at h
    exact pureOp_sound h (fun y v hy => look_sound hag hg hy) hn w
theorem valM2 {m : Sem Value} {v : Value} {w w' : World} (h : m.run P w = .ok v w') : (do pure (.value (← m)) : Sem Next).run P w = .ok (.value v) w' := by
  rw [Sem.run_bind, h]; rfl
theorem upon_of_run {o : Oper} {a : Act} {next : Act → World → Prop} {Q : Exit → Act → World → Prop} {w w' : World} {v : Value} (h : (execOp a.eval o).run P w = .ok (.value v) w') (hn : next (a.put o.dst v) w') :
    o.wp P a w next Q := by
  unfold Oper.wp; rw [h]; exact hn
theorem putS_next {c : Cfg} {st : St} {dst : Option Nat} {x : SV} {K : St → VC} {a : Act} {w : World} {next : Act → World → Prop} {m0 : Nat} {ρ0 : Env}
    (h : (putS c st dst x K).den P body nt keep Qb R ρ) (hnt : c.nt = nt) (hi : Inv nt ρ st a w) (ha : Agree m0 ρ0 ρ) (hm : m0 ≤ st.m)
    (hK : ∀ st' ρ' a' w', (K st').den P body nt keep Qb R ρ' → Inv nt ρ' st' a' w' → Agree m0 ρ0 ρ' → m0 ≤ st'.m → next a' w') : next (a.put dst (x.den ρ)) w := by
  obtain ⟨st', h1, h2, h3, _⟩ := putS_sound h hnt hi
  exact hK st' ρ _ w h1 h2 ha (by rw [h3]; exact hm)
theorem and3 {a b c : Bool} (h : (a && b && c) = true) : a = true ∧ b = true ∧ c = true := by simpa [and_assoc] using h

theorem und' {t : TypeId} {d : TypeDesc} (h : (bare P).underlying t = some d) : P.underlying t = some d := h
theorem isInt_spec {t : TypeId} {k : IntKind} (h : isInt (bare P) t k = true) : P.underlying t = some (.int k) := by
  unfold isInt at h
  split at h
  · rename_i k' hk
    have : k = k' := by simpa using h
    subst this; exact hk
  · cases h
theorem okSrc_spec {t : TypeId} (h : okSrc (bare P) t = true) : (∃ e', P.underlying t = some (.slice e')) ∨ P.underlying t = some .string := by
  unfold okSrc at h
  split at h
  · rename_i e he; exact .inl ⟨e, he⟩
  · rename_i he; exact .inr he
  · cases h
theorem srcLenSV_sound {y : SV} {m : NE} (h : srcLenSV y = some m) : lenV (y.den ρ) = m.den ρ := by
  unfold srcLenSV at h
  split at h
  · injection h with h; subst h; simp only [SV.den, lenV]
  · injection h with h; subst h; simp only [SV.den, lenV, NE.den, bs]
  · cases h
theorem arr2 {α : Type} {l : Array α} {x y : α} (h : l.toList = [x, y]) : l = #[x, y] := by
  rw [← Array.toArray_toList (xs := l), h]
theorem memOp_sound {c : Cfg} (hc : c.P0 = bare P) (hnt : c.nt = nt) {st : St} {gs : List (Nat × Bool)} {o : Oper} {K : St → VC} {a : Act} {w : World}
    (h : (memOp c st gs o K).den P body nt keep Qb R ρ) (hi : Inv nt ρ st a w) (hg : ∀ g ∈ gs, Holds a (some g)) {next : Act → World → Prop} {Q : Exit → Act → World → Prop}
    (hK : ∀ st' ρ' a' w', (K st').den P body nt keep Qb R ρ' → Inv nt ρ' st' a' w' → Agree st.m ρ ρ' → st.m ≤ st'.m → next a' w') : o.wp P a w next Q := by
  have b1 : ∀ k, Nat.blt k (k + 1) = true := fun k => by simp [Nat.blt_eq]
  have b2 : ∀ k, Nat.blt k (k + 2) = true := fun k => by simp [Nat.blt_eq]
  obtain ⟨dst, op, ty, pos, after, guard⟩ := o
  unfold memOp at h
  simp only at h
  split at h
  · -- append
    rename_i args argTypes _
    split at h
    · rename_i s x t tx ha hat
      have ha' := arr2 ha; have hat' := arr2 hat
      subst ha' hat'
      split at h
      · rename_i p n q y e hs hx hu
        rw [hc] at hu
        split at h
        · rename_i i z m hif hz hm
          rw [hc] at hif hz
          rw [zeroCells_bare] at hz
          split at h
          · rename_i hcond
            simp only [Bool.and_eq_true] at hcond
            obtain ⟨hzl, htx⟩ := hcond
            rw [hc] at htx
            simp only [VC.den] at h
            obtain ⟨olds, news, hpre, h⟩ := h
            obtain ⟨v, hv, hcl⟩ := zeroCells_sound (ρ := ρ) hz
            have hiv : i.zero = some v := by
              have hif' : P.info? e = some i := hif
              rw [hif'] at hv; exact hv
            have hs' := look_sound hi.ag hg hs
            have hx' := look_sound hi.ag hg hx
            simp only [SV.den] at hs'
            rw [← hi.heap] at hpre
            obtain ⟨p', c', w', hrun, hrest, hap⟩ := append_run (ty := ty) (P := P) (w := w) (und' hu) (show P.info? e = some i from hif) hiv (by rw [hcl]; simpa using Nat.eq_of_beq_eq_true hzl) (okSrc_spec htx) hpre
            rw [hi.heap] at hap
            have h := h w'.heap p' c' hap
            have ha : Agree st.m ρ (((ρ.setH st.m w'.heap).setP st.m p').setN st.m c') :=
              ((Agree.setH (Nat.le_refl _) _).trans (Agree.setP (Nat.le_refl _) _) (Nat.le_refl _)).trans (Agree.setN (Nat.le_refl _) _) (Nat.le_refl _)
            have hi1 := hi.later (m' := st.m + 1) ha (by omega)
            have hinv : Inv nt (((ρ.setH st.m w'.heap).setP st.m p').setN st.m c') { st with h := .v st.m, m := st.m + 1 } a w' :=
              ⟨hi1.ag, hi1.fix, fun ρ2 h2 => HE.stable h2 _ (by simp only [HE.lt, b1]), by simp [HE.den, Env.setH, Env.setP, Env.setN], hrest.trans hi.rest⟩
            have hs2 := look_sound hi1.ag hg hs
            have hx2 := look_sound hi1.ag hg hx
            simp only [SV.den] at hs2
            refine upon_of_run (v := .slice p' (n.den ρ + lenV (y.den ρ)) c') (w' := w') ?_ ?_
            · rw [BigFrame.execOp_builtin, BigFrame.builtin_append]
              refine valM2 ?_
              simp only [List.map_toArray, List.map_cons, List.map_nil, hs', hx']
              exact hrun
            · have := putS_next (next := next) h hnt hinv ha (by simp) hK
              simp only [SV.den, PE.den, NE.den] at this
              rw [hs'] at hs2
              injection hs2 with e1 e2 e3
              rw [← e2, ← srcLenSV_sound hm, ← hx2, hx'] at this
              simpa [Env.setP, Env.setN, Env.setH] using this
          · exact h.elim
        · exact h.elim
      · exact h.elim
    · exact h.elim
  · -- copy
    rename_i args argTypes _
    split at h
    · rename_i s x t tx ha hat
      have ha' := arr2 ha; have hat' := arr2 hat
      subst ha' hat'
      split at h
      · rename_i p n q y e hs hx hu
        rw [hc] at hu
        split at h
        · rename_i i hif
          rw [hc] at hif
          simp only [VC.den] at h
          obtain ⟨news, hpre, h⟩ := h
          have hs' := look_sound hi.ag hg hs
          have hx' := look_sound hi.ag hg hx
          simp only [SV.den] at hs'
          rw [← hi.heap] at hpre
          obtain ⟨w', hrun, hrest, hw'⟩ := copy_run (tx := tx) (ty := ty) (cap := q.den ρ) (P := P) (w := w) (und' hu) (show P.info? e = some i from hif) hpre
          rw [← hi.heap, ← hw'] at h
          have ha : Agree st.m ρ ((ρ.setH st.m w'.heap).setN st.m (Nat.min (lenV (y.den ρ)) (n.den ρ))) := (Agree.setH (Nat.le_refl _) _).trans (Agree.setN (Nat.le_refl _) _) (Nat.le_refl _)
          have hi1 := hi.later (m' := st.m + 1) ha (by omega)
          have hinv : Inv nt ((ρ.setH st.m w'.heap).setN st.m (Nat.min (lenV (y.den ρ)) (n.den ρ))) { st with h := .v st.m, m := st.m + 1 } a w' :=
            ⟨hi1.ag, hi1.fix, fun ρ2 h2 => HE.stable h2 _ (by simp only [HE.lt, b1]), by simp [HE.den, Env.setH, Env.setN], hrest.trans hi.rest⟩
          refine upon_of_run (v := .int .i64 (Nat.min (lenV (y.den ρ)) (n.den ρ) : Nat)) (w' := w') ?_ ?_
          · rw [BigFrame.execOp_builtin, BigFrame.builtin_copy]
            refine valM2 ?_
            simp only [List.map_toArray, List.map_cons, List.map_nil, hs', hx']
            exact hrun
          · have := putS_next (next := next) h hnt hinv ha (by simp) hK
            simpa [SV.den, IE.den, NE.den, Env.setN, Env.setH] using this
        · exact h.elim
      · exact h.elim
    · exact h.elim
  · -- makeSlice
    rename_i t l q _
    split at h
    · rename_i kl l' kq q' e hl hq hu
      rw [hc] at hu
      split at h
      · rename_i i z hif hz
        rw [hc] at hif hz
        rw [zeroCells_bare] at hz
        split at h
        · rename_i hzl
          simp only [VC.den, BE.prop, IE.den] at h
          obtain ⟨h1, h2, h3, h4, h⟩ := h
          have hl' := look_sound hi.ag hg hl
          have hq' := look_sound hi.ag hg hq
          simp only [SV.den] at hl' hq'
          obtain ⟨w', hrun, hrest, hw'⟩ := make_run (ρ := ρ) (kl := kl) (kc := kq) (P := P) (w := w) (und' hu) (show P.info? e = some i from hif) hz (Nat.eq_of_beq_eq_true hzl) h1 h2 h3 h4
          rw [← hi.heap, ← hw'] at h
          have ha : Agree st.m ρ ((ρ.setH st.m w'.heap).setN st.m w.heap.size) := (Agree.setH (Nat.le_refl _) _).trans (Agree.setN (Nat.le_refl _) _) (Nat.le_refl _)
          have hi1 := hi.later (m' := st.m + 1) ha (by omega)
          have hinv : Inv nt ((ρ.setH st.m w'.heap).setN st.m w.heap.size) { st with h := .v st.m, m := st.m + 1 } a w' :=
            ⟨hi1.ag, hi1.fix, fun ρ2 h2 => HE.stable h2 _ (by simp only [HE.lt, b1]), by simp [HE.den, Env.setH, Env.setN], hrest.trans hi.rest⟩
          have hl2 := look_sound hi1.ag hg hl
          have hq2 := look_sound hi1.ag hg hq
          simp only [SV.den] at hl2 hq2
          rw [hl'] at hl2; rw [hq'] at hq2
          injection hl2 with _ e1
          injection hq2 with _ e2
          refine upon_of_run (v := .slice (some ⟨w.heap.size, 0, none⟩) (l'.den ρ).toNat (q'.den ρ).toNat) (w' := w') ?_ ?_
          · unfold execOp
            simp only [hl', hq']
            exact valM2 hrun
          · have := putS_next (next := next) h hnt hinv ha (by simp) hK
            simp only [SV.den, PE.den, NE.den, ← e1, ← e2] at this
            simpa [Env.setN, Env.setH] using this
        · exact h.elim
      · exact h.elim
    · exact h.elim
  · -- buildSlice
    rename_i t len parts
    split at h
    · rename_i vs hv
      split at h
      · rename_i e z hz
        split at h
        · rename_i hzl
          rw [hc] at hz
          simp only [VC.den] at h
          have ha : Agree st.m ρ (ρ.setN st.m (st.h.den ρ).size) := Agree.setN (Nat.le_refl _) _
          have hi' := hi.later (m' := st.m + 1) ha (by omega)
          have hn : (ρ.setN st.m (st.h.den ρ).size).n st.m = (st.h.den ρ).size := by simp [Env.setN]
          obtain ⟨w', hrun, hrest, hw'⟩ := rowSV_sound (P := P) (w := w) (ρ := ρ.setN st.m (st.h.den ρ).size) (show rowSV P t len _ = some (e, z) from hz)
          have hv' := lookL_sound (fun y v hy => look_sound hi'.ag hg hy) _ _ hv
          have hparts : (parts.map fun p => (p.1, a.eval p.2)) = (((parts.toList.map (·.1)).zip vs).map fun p => (p.1, p.2.den (ρ.setN st.m (st.h.den ρ).size))).toArray := by
            have h3 : ((parts.toList.map (·.1)).zip vs).map (fun p => (p.1, p.2.den (ρ.setN st.m (st.h.den ρ).size))) = (parts.toList.map (·.1)).zip (vs.map (SV.den (ρ.setN st.m (st.h.den ρ).size))) := by
              rw [List.zip_map_right]; rfl
            rw [h3, ← hv', List.map_map, List.zip_map', ← List.map_toArray, Array.toArray_toList]
            rfl
          have hfz : Fix HE.den (st.m + 1) (ρ.setN st.m (st.h.den ρ).size) (.push st.h e z) := by
            intro ρ' h'
            simp only [HE.den, hi'.hfix ρ' h', SV.stables (h'.le (Nat.le_succ _)) z hzl]
          refine upon_of_run (v := .slice (some ⟨w.heap.size, 0, none⟩) len len) (w' := w') ?_ ?_
          · unfold execOp
            simp only [hparts]
            exact valM2 hrun
          · have := putS_next (next := next) (w := w') h hnt (st := { st with h := .push st.h e z, m := st.m + 1 }) (a := a) ⟨hi'.ag, hi'.fix, hfz, by simp only [HE.den]; rw [hw', hi'.heap], hrest.trans hi'.rest⟩ ha (by simp) hK
            simp only [SV.den, PE.den, NE.den, hn] at this
            rw [hi.heap]; exact this
        · exact h.elim
      · exact h.elim
    · exact h.elim
  · -- convert
    rename_i s d x _
    split at h
    · rename_i p n q e hx hs hd
      split at h
      · rename_i he
        rw [hc] at hs hd he
        simp only [VC.den] at h
        obtain ⟨l, h1, h2, h⟩ := h
        have ha : Agree st.m ρ (ρ.setS st.m l) := Agree.setS (Nat.le_refl _) _
        have hi' := hi.later (m' := st.m + 1) ha (by omega)
        have hx' := look_sound hi.ag hg hx
        simp only [SV.den] at hx'
        rw [← hi.heap] at h2
        have hrun := toStr_run (P := P) (w := w) (cap := q.den ρ) h1 h2
        refine upon_of_run (v := .string (bs l)) (w' := w) ?_ ?_
        · unfold execOp
          simp only [hx']
          refine valM2 ?_
          unfold convert
          rw [und (und' hs), und (und' hd)]
          simp only []
          rw [und (isInt_spec he)]
          exact hrun
        · have := putS_next (next := next) h hnt hi' ha (by simp) hK
          simpa [SV.den, SE.den, Env.setS] using this
      · exact h.elim
    · rename_i y e hx hs hd
      split at h
      · rename_i he
        rw [hc] at hs hd he
        simp only [VC.den] at h
        have hx' := look_sound hi.ag hg hx
        simp only [SV.den] at hx'
        obtain ⟨c', w', hrun, hrest, hle, hw'⟩ := toBytes_run (P := P) (w := w) (e := e) (s := y.den ρ)
        have h := h c' hle
        rw [← hi.heap, ← hw'] at h
        have ha : Agree st.m ρ (((ρ.setH st.m w'.heap).setN st.m w.heap.size).setN (st.m + 1) c') :=
          ((Agree.setH (Nat.le_refl _) _).trans (Agree.setN (Nat.le_refl _) _) (Nat.le_refl _)).trans (Agree.setN (Nat.le_succ _) _) (Nat.le_refl _)
        have hi1 := hi.later (m' := st.m + 2) ha (by omega)
        have hinv : Inv nt (((ρ.setH st.m w'.heap).setN st.m w.heap.size).setN (st.m + 1) c') { st with h := .v st.m, m := st.m + 2 } a w' :=
          ⟨hi1.ag, hi1.fix, fun ρ2 h2 => HE.stable h2 _ (by simp only [HE.lt, b2]), by simp [HE.den, Env.setH, Env.setN], hrest.trans hi.rest⟩
        have hx2 := look_sound hi1.ag hg hx
        simp only [SV.den] at hx2
        rw [hx'] at hx2
        have e1 : y.den ρ = y.den (((ρ.setH st.m w'.heap).setN st.m w.heap.size).setN (st.m + 1) c') := by
          injection hx2 with hx2
          simpa [bs] using hx2
        refine upon_of_run (v := .slice (some ⟨w.heap.size, 0, none⟩) (y.den ρ).length c') (w' := w') ?_ ?_
        · unfold execOp
          simp only [hx']
          refine valM2 ?_
          unfold convert
          rw [und (und' hs), und (und' hd)]
          simp only []
          rw [und (isInt_spec he)]
          exact hrun
        · have := putS_next (next := next) h hnt hinv ha (by simp) hK
          simp only [SV.den, PE.den, NE.den, ← e1] at this
          simpa [Env.setN, Env.setH] using this
      · exact h.elim
    · exact h.elim
  · exact h.elim

theorem stepOp_sound {c : Cfg} (hc : c.P0 = bare P) (hnt : c.nt = nt) (hfn : Fns P c.fns) {st : St} {gs : List (Nat × Bool)} {o : Oper} {K : St → VC} {a : Act} {w : World}
    (h : (stepOp c st gs o K).den P body nt keep Qb R ρ) (hi : Inv nt ρ st a w) (hg : ∀ g ∈ gs, Holds a (some g)) {next : Act → World → Prop} {Q : Exit → Act → World → Prop}
    (hK : ∀ st' ρ' a' w', (K st').den P body nt keep Qb R ρ' → Inv nt ρ' st' a' w' → Agree st.m ρ ρ' → st.m ≤ st'.m → next a' w') : o.wp P a w next Q := by
  unfold stepOp at h
  split at h
  · rename_i ns x hq
    obtain ⟨h1, h2⟩ := needAll_sound h
    exact upon_of_run (quietOp_sound hc hq hi.ag hg h1 w) (putS_next h2 hnt hi (Agree.refl _ _) (Nat.le_refl _) hK)
  · obtain ⟨dst, op, ty, pos, after, guard⟩ := o
    simp only at h
    split at h
    · -- nilCheck
      rename_i x _
      split at h
      · rename_i p hl
        simp only [VC.den] at h
        obtain ⟨b, q, h1, h2⟩ := h
        have hb1 : ((ρ.setN st.m b).setN (st.m + 1) q).n st.m = b := by simp [Env.setN]
        have hb2 : ((ρ.setN st.m b).setN (st.m + 1) q).n (st.m + 1) = q := by simp [Env.setN]
        have ha : Agree st.m ρ ((ρ.setN st.m b).setN (st.m + 1) q) := (Agree.setN (Nat.le_refl _) b).trans (Agree.setN (Nat.le_succ _) q) (Nat.le_refl _)
        have hi' := hi.later (m' := st.m + 2) ha (by omega)
        have hl' := look_sound hi'.ag hg hl
        simp only [SV.den, h1, NE.den, hb1, hb2] at hl'
        refine upon_of_run (v := .pointer (some ⟨b, q, none⟩)) (w' := w) ?_ ?_
        · unfold execOp; simp only [hl']; rfl
        · have := putS_next (next := next) h2 hnt hi' ha (by simp) hK
          simpa only [SV.den, PE.den, NE.den, hb1, hb2] using this
      · exact h.elim
    · -- indexAddr
      rename_i t x i _
      split at h
      · rename_i p n cp j hl hj
        simp only [VC.den] at h
        obtain ⟨b, q, h1, h2⟩ := h
        have hb1 : ((ρ.setN st.m b).setN (st.m + 1) q).n st.m = b := by simp [Env.setN]
        have hb2 : ((ρ.setN st.m b).setN (st.m + 1) q).n (st.m + 1) = q := by simp [Env.setN]
        have ha : Agree st.m ρ ((ρ.setN st.m b).setN (st.m + 1) q) := (Agree.setN (Nat.le_refl _) b).trans (Agree.setN (Nat.le_succ _) q) (Nat.le_refl _)
        have hi' := hi.later (m' := st.m + 2) ha (by omega)
        split at h2
        · rename_i ns y hix
          rw [hc, indexAddrSV_bare] at hix
          obtain ⟨h3, h4⟩ := needAll_sound h2
          have hl' := look_sound hi'.ag hg hl
          have hj' := look_sound hi'.ag hg hj
          have hrun := indexAddrSV_sound (ρ := (ρ.setN st.m b).setN (st.m + 1) q) hix h3 w
          simp only [SV.den, PE.den] at hrun
          simp only [SV.den, h1] at hl'
          refine upon_of_run (w' := w) ?_ (putS_next h4 hnt hi' ha (by simp) hK)
          unfold execOp; simp only [hl', hj']; exact valM hrun
        · exact h2.elim
      · exact h.elim
    · -- load
      rename_i t x _
      split at h
      · rename_i b q ks hl hk
        rw [hc] at hk
        obtain ⟨i, d, hi1, hu, hlen⟩ := loadKinds_spec (P := P) hk
        obtain ⟨ρ', xs, m', h1, ha, hm, hfx, hxl, _⟩ := exCKs_sound h
        obtain ⟨h2, h3⟩ := isAll_sound h1
        have hi' := hi.later (m' := m') ha hm
        have hl' := look_sound hi'.ag hg hl
        simp only [SV.den, PE.den] at hl'
        have hh : ∀ j x, xs[j]? = some x → get w.heap (b.den ρ') (q.den ρ' + (0 + j)) = some (x.den ρ') := by
          intro j x hx; rw [hi'.heap]; exact h2 j x hx
        have hrun := fun y hy => loadVar_run (P := P) (ρ := ρ') hi1 (by rw [hxl]; exact hlen) hu hh (y := y) hy
        rw [hc, isAggB_bare] at h3
        split at h3
        · rename_i hb
          refine upon_of_run (w' := w) (v := (SV.agg xs).den ρ') ?_ (putS_next h3 hnt hi' ha hm hK)
          unfold execOp; simp only [hl']
          refine valM ?_
          unfold Instr.loadAt Instr.sureAddr
          simp only [pure_bind]
          exact hrun _ (by simp [theOne, hb])
        · rename_i hb
          split at h3
          · rename_i x0
            refine upon_of_run (w' := w) (v := x0.den ρ') ?_ (putS_next h3 hnt hi' ha hm hK)
            unfold execOp; simp only [hl']
            refine valM ?_
            unfold Instr.loadAt Instr.sureAddr
            simp only [pure_bind]
            exact hrun _ (by simp [theOne, hb])
          · exact h3.elim
      · exact h.elim
    · -- store
      rename_i t x v _
      split at h
      · rename_i b q y i hl hv hi1
        rw [hc] at hi1
        split at h
        · rename_i hcond
          simp only [Bool.and_eq_true] at hcond
          obtain ⟨⟨⟨⟨hlen, hone⟩, hbl⟩, hql⟩, hyl⟩ := hcond
          have hl' := look_sound hi.ag hg hl
          have hv' := look_sound hi.ag hg hv
          simp only [SV.den, PE.den] at hl'
          obtain ⟨h', w', hr, hrest, hw', hk, hfix⟩ := storeCells_run (P := P) y.cells 0 st.h b q w rfl rfl hi.heap (by simpa [List.all_eq_true] using hone) h
          have hfs : ∀ x ∈ y.cells, Fix SV.den st.m ρ x := by
            intro x hx ρ' ha
            have := SV.stables ha _ hyl
            obtain ⟨k, hk', rfl⟩ := List.getElem_of_mem hx
            have h2 := congrArg (fun l => l[k]?) this
            simp [hk'] at h2
            exact h2
          have hfh := hfix st.m hi.hfix (Fix.ne hbl) (Fix.ne hql) hfs
          have hrun : (execOp a.eval { dst, op := .store t x v, type := ty, pos, after, guard }).run P w = .ok .skip w' := by
            unfold execOp; simp only [hl', hv']
            unfold Instr.storeAt Instr.sureAddr
            simp only [pure_bind]
            unfold storeVar
            simp only [Sem.run_bind]
            rw [sizeOf_run (show P.info? t = some i from hi1)]
            have hsz : (y.den ρ).cells.size = i.size := by rw [SV.cells_den]; simpa using Nat.eq_of_beq_eq_true hlen
            simp only [Result.andThen, hsz, ne_eq, not_true, if_false]
            rw [SV.cells_den]
            simp only [hr, Sem.run_pure]
          unfold Oper.wp; rw [hrun]
          show next (a.put dst undef) w'
          cases dst with
          | none => exact hK _ ρ _ w' hk ⟨hi.ag, hi.fix, hfh, hw', hrest.trans hi.rest⟩ (Agree.refl _ _) (Nat.le_refl _)
          | some d =>
            simp only at hk
            split at hk
            · rename_i hd
              exact hK _ ρ _ w' hk ⟨Ag_drop hi.ag d undef, dropσ_fix hi.fix, hfh, hw', hrest.trans hi.rest⟩ (Agree.refl _ _) (Nat.le_refl _)
            · exact hk.elim
        · exact h.elim
      · exact h.elim
    · -- alloc
      rename_i t _
      split at h
      · rename_i z hz
        rw [hc, zeroCells_bare] at hz
        split at h
        · rename_i hzl
          simp only [VC.den] at h
          have ha : Agree st.m ρ (ρ.setN st.m (st.h.den ρ).size) := Agree.setN (Nat.le_refl _) _
          have hi' := hi.later (m' := st.m + 1) ha (by omega)
          have hn : (ρ.setN st.m (st.h.den ρ).size).n st.m = (st.h.den ρ).size := by simp [Env.setN]
          have hfz : Fix HE.den (st.m + 1) (ρ.setN st.m (st.h.den ρ).size) (.push st.h t z) := by
            intro ρ' h'
            simp only [HE.den, hi'.hfix ρ' h', SV.stables (h'.le (Nat.le_succ _)) z hzl]
          refine upon_of_run (v := .pointer (some ⟨w.heap.size, 0, none⟩)) (w' := { w with heap := w.heap.push (.cells (z.map (SV.den (ρ.setN st.m (st.h.den ρ).size))).toArray t) }) ?_ ?_
          · unfold execOp; exact valM2 (alloc_run hz w)
          · have := putS_next (next := next) (w := { w with heap := w.heap.push (.cells (z.map (SV.den (ρ.setN st.m (st.h.den ρ).size))).toArray t) }) h hnt
              (st := { st with h := .push st.h t z, m := st.m + 1 }) (a := a) ⟨hi'.ag, hi'.fix, hfz, by simp only [HE.den]; rw [← hi'.heap], hi'.rest⟩ ha (by simp) hK
            simp only [SV.den, PE.den, NE.den, hn] at this
            rw [hi.heap]; rw [hi.heap] at this; exact this
        · exact h.elim
      · exact h.elim
    · -- box
      rename_i t x _
      split at h
      · rename_i y hy
        split at h
        · rename_i hzl
          simp only [VC.den] at h
          have ha : Agree st.m ρ (ρ.setN st.m (st.h.den ρ).size) := Agree.setN (Nat.le_refl _) _
          have hi' := hi.later (m' := st.m + 1) ha (by omega)
          have hn : (ρ.setN st.m (st.h.den ρ).size).n st.m = (st.h.den ρ).size := by simp [Env.setN]
          have hy' := look_sound hi'.ag hg hy
          have hfz : Fix HE.den (st.m + 1) (ρ.setN st.m (st.h.den ρ).size) (.push st.h t y.cells) := by
            intro ρ' h'
            simp only [HE.den, hi'.hfix ρ' h', SV.stables (h'.le (Nat.le_succ _)) _ hzl]
          refine upon_of_run (v := .pointer (some ⟨w.heap.size, 0, none⟩)) (w' := { w with heap := w.heap.push (.cells (y.cells.map (SV.den (ρ.setN st.m (st.h.den ρ).size))).toArray t) }) ?_ ?_
          · unfold execOp; simp only [hy']; exact valM2 (box_run w)
          · have := putS_next (next := next) (w := { w with heap := w.heap.push (.cells (y.cells.map (SV.den (ρ.setN st.m (st.h.den ρ).size))).toArray t) }) h hnt
              (st := { st with h := .push st.h t y.cells, m := st.m + 1 }) (a := a) ⟨hi'.ag, hi'.fix, hfz, by simp only [HE.den]; rw [← hi'.heap], hi'.rest⟩ ha (by simp) hK
            simp only [SV.den, PE.den, NE.den, hn] at this
            rw [hi.heap]; rw [hi.heap] at this; exact this
        · exact h.elim
      · exact h.elim
    · -- call
      rename_i f args ats _
      split at h
      · rename_i g first cap as hf has
        split at h
        · rename_i ts hts
          obtain ⟨he, fn, hfn1, hfn2⟩ := hfn g ts hts
          simp only [VC.den] at h
          have hf' := look_sound hi.ag hg hf
          have has' := lookL_arr (fun y v hy => look_sound hi.ag hg hy) has
          simp only [SV.den] at hf'
          unfold Oper.wp
          rw [execOp_call hf' has' he]
          show Calls P g _ w _
          have := h w hi.heap hi.rest
          simp only [List.map_append] at this
          refine this.mono ?_
          intro e w' ⟨hrest, hd⟩
          have ha1 : Agree st.m ρ ((ρ.setH st.m w'.heap).setE e) := (Agree.setH (Nat.le_refl _) _).trans (Agree.setE (m := st.m) e) (Nat.le_refl _)
          obtain ⟨ρ', x, m', h1, ha, hm, he'⟩ := resultVC_sound hc hd
          have he2 : e = .returned (x.den ρ') := he'
          subst he2
          have hb1 : Nat.blt st.m (st.m + 1) = true := by simp [Nat.blt_eq]
          have hi1 := hi.later (m' := st.m + 1) ha1 (by omega)
          have hinv : Inv nt ((ρ.setH st.m w'.heap).setE (.returned (x.den ρ'))) { st with h := .v st.m, m := st.m + 1 } a w' :=
            ⟨hi1.ag, hi1.fix, fun ρ2 h2 => HE.stable h2 _ (by simp only [HE.lt, hb1]), by simp [HE.den, Env.setH, Env.setE], hrest⟩
          have hinv2 := hinv.later (m' := m') ha hm
          exact putS_next h1 hnt hinv2 (ha1.trans ha (by simp)) (by simp at hm ⊢; omega) hK
        · exact h.elim
      · rename_i q as hf has
        simp only [VC.den] at h
        obtain ⟨g, cs, hq, he, h⟩ := h
        have hf' := look_sound hi.ag hg hf
        have has' := lookL_arr (fun y v hy => look_sound hi.ag hg hy) has
        simp only [SV.den, hq, cloVal] at hf'
        unfold Oper.wp
        rw [execOp_call (first := []) (cap := cs) (by simpa using hf') has' he]
        show Calls P g _ w _
        have := h w hi.heap hi.rest
        simp only [List.nil_append]
        refine this.mono ?_
        intro e w' ⟨hrest, hd⟩
        have ha1 : Agree st.m ρ ((ρ.setH st.m w'.heap).setE e) := (Agree.setH (Nat.le_refl _) _).trans (Agree.setE (m := st.m) e) (Nat.le_refl _)
        obtain ⟨ρ', x, m', h1, ha, hm, he'⟩ := resultVC_sound hc hd
        have he2 : e = .returned (x.den ρ') := he'
        subst he2
        have hb1 : Nat.blt st.m (st.m + 1) = true := by simp [Nat.blt_eq]
        have hi1 := hi.later (m' := st.m + 1) ha1 (by omega)
        have hinv : Inv nt ((ρ.setH st.m w'.heap).setE (.returned (x.den ρ'))) { st with h := .v st.m, m := st.m + 1 } a w' :=
          ⟨hi1.ag, hi1.fix, fun ρ2 h2 => HE.stable h2 _ (by simp only [HE.lt, hb1]), by simp [HE.den, Env.setH, Env.setE], hrest⟩
        have hinv2 := hinv.later (m' := m') ha hm
        exact putS_next h1 hnt hinv2 (ha1.trans ha (by simp)) (by simp at hm ⊢; omega) hK
      · exact h.elim
    · exact memOp_sound hc hnt h hi hg hK
end
end Go.Proofs.Ytilgejlgmnnckaa.E
