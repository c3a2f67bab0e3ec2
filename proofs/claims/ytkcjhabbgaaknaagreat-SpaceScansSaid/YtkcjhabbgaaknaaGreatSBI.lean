import Derived.Test.YtkcjhabbgaaknaaGreatSA
/- A hash's groups, one after the other (I). -/
namespace Go.Proofs.YtkcjhabbgaaknaaGreat
open E
set_option maxRecDepth 100000
theorem probeI_any (f : Nat) (cs : List Value) (tb gb n x : Nat) (hx : x < 2 ^ 64) (hn : 0 < n) (hn2 : n ≤ 30) (C : Nat → Prop) (I Q : Nat → Heap → Prop) (w : World) (hen : enters Tryz.prog f = true) (h0 : I 0 w.heap)
    (hrd : ∀ t h, I t h → get h tb 1 = some (.slice (some ⟨gb, 0, none⟩) n n))
    (hclo : ∀ t, t < n → ∀ w1 : World, E.Frame C w.heap w1.heap → I t w1.heap → Calls Tryz.prog f (.pointer (some ⟨gb, (hi x + t) % n * 17, none⟩) :: cs).toArray w1 fun e w2 => outw w2 = outw w1 ∧ E.Frame C w1.heap w2.heap ∧ ∃ b, e = .returned (.bool b) ∧ (b = true → Q t w2.heap) ∧ (¬ b = true → I (t + 1) w2.heap)) :
    Calls Tryz.prog 116 #[.pointer (some ⟨tb, 0, none⟩), .int .u64 (x : Int), cloVal (some (f, cs))] w fun e w' => e = .returned (.tuple #[]) ∧ E.Frame C w.heap w'.heap ∧ outw w' = outw w ∧ (I n w'.heap ∨ ∃ t, t < n ∧ Q t w'.heap) := by
  refine begins (k116 { pclo := false }) [.ptr (.at (.v 0) (.c 0)), .int .u64 (.ofN (.v 1)), .clo 0] [] { n := fun j => if j = 0 then tb else x, c := fun _ => some (f, cs), h := fun _ => w.heap, o := outw w } 2 1000 rfl rfl rfl trivial (by simp [SV.den, IE.den, NE.den, PE.den]) ?_
  conv => arg 7; reduce
  simp only [VC.den, IE.den, NE.den, SV.den, HE.den, PE.den, WS.den, List.map_cons, List.map_nil, Int.cast_ofNat_Int, reduceIte, Nat.reduceEqDiff, Env.setN, Env.setP]
  refine ⟨_, _, _, hrd 0 _ h0, fun _ => ?_⟩
  refine looping (k116 { pclo := false }) [.ptr (.at (.v 0) (.c 0)), .int .u64 (.ofN (.v 1)), .clo 0, .int .i64 (.ofN (.v 2)), .int .i64 (.ofN (.v 2)), .int .i64 (.ofN (.v 3))] []
    (fun y : Nat × Heap => { n := fun j => if j = 0 then tb else if j = 1 then x else if j = 2 then n else y.1, c := fun _ => some (f, cs), h := fun _ => y.2, o := outw w }) 4 1000
    (fun y => y.1 ≤ n ∧ E.Frame C w.heap y.2 ∧ I y.1 y.2) (fun y => n - y.1) (0, w.heap) ⟨Nat.zero_le _, E.Frame.refl _ _, h0⟩ rfl (by simp [SV.den, IE.den, NE.den, PE.den]) rfl (fun _ => rfl) (fun _ _ => trivial) ?_
  rintro ⟨t, h⟩ ⟨ht, hf, hI⟩ N hN
  simp only at ht hf hI
  simp only [SV.den, PE.den, NE.den, IE.den, List.map_cons, List.map_nil, reduceIte, Nat.reduceEqDiff] at hN
  conv => arg 7; reduce
  simp only [VC.den, BE.prop, IE.den, NE.den, SV.den, HE.den, PE.den, BE.den, WS.den, WI.den, noneIn, List.map_cons, List.map_nil, List.cons_append, List.nil_append, Int.cast_ofNat_Int, reduceIte, Nat.reduceEqDiff, Env.setE, Env.setH, Env.setB, Env.setN, Env.setP, Env.setW, inK_i64]
  have hh := hi_lt x
  refine ⟨fun h1 => ?_, fun h1 _ w1 hw1 ho1 => ?_⟩
  · have htn : t < n := by omega
    rw [hi_val x hx, ← Int.natCast_add, tmod_nat, Int.toNat_natCast, hrd t h hI]
    have hm := Nat.mod_lt (hi x + t) hn
    refine ⟨_, _, _, rfl, by omega, by omega, gb, 0, rfl, by omega, by omega, f, cs, rfl, hen, fun w1 hw1 ho1 => ?_⟩
    rw [Nat.zero_add]
    refine (hclo t htn w1 (by rw [hw1]; exact hf) (by rw [hw1]; exact hI)).mono ?_
    rintro e1 w2 ⟨ho2, hf2, b, rfl, hq, hi'⟩
    rw [hw1] at hf2
    refine ⟨ho2.trans ho1, C, hf2, trivial, b, rfl, fun hb _ w3 hw3 ho3 => ?_, fun hb => ⟨by omega, fun _ => ?_⟩⟩
    · exact ⟨trivial, by rw [hw3]; exact hf.trans hf2 (fun _ h => h) (fun _ _ h => h), ho3, .inr ⟨t, htn, by rw [hw3]; exact hq hb⟩⟩
    · exact hN (t + 1, w2.heap) ⟨htn, hf.trans hf2 (fun _ h => h) (fun _ _ h => h), hi' hb⟩ (by simp only; omega)
  · have : t = n := by omega
    subst this
    exact ⟨trivial, by rw [hw1]; exact hf, ho1, .inl (by rw [hw1]; exact hI)⟩
end Go.Proofs.YtkcjhabbgaaknaaGreat
/- A key is looked for in a group (I). -/
namespace Go.Proofs.YtkcjhabbgaaknaaGreat
open E
set_option maxRecDepth 100000
def FindRI (seed : Int) (T : Tb Int) (gb g ab sb : Nat) (key : Key) (b : Bool) (h : Heap) : Prop :=
  (∃ i, i < 8 ∧ T.by_ (8 * g + i) = sev (hk seed key) ∧ T.k (8 * g + i) = key ∧ CellsAt h ab 0 [.pointer (some ⟨gb, g * 17, none⟩)] ∧ CellsAt h sb 0 [.int .i64 (i : Nat)] ∧ b = true) ∨
  (T.lacks (hk seed) key g ∧ CellsAt h ab 0 [.pointer none] ∧ CellsAt h sb 0 [.int .i64 0] ∧ b = hasE (T.w g))
theorem find1I_any (seed : Int) (T : Tb Int) (gb g hb kb ab sb : Nat) (key : Key) (w : World) (hg : g < T.n) (H : GrpAt (Value.int .i64) w.heap gb T) (hgl : gb < w.heap.size)
    (h1 : CellsAt w.heap hb 0 [.int .u64 (hk seed key : Nat)]) (h2 : CellsAt w.heap kb 0 [.string (bs key)]) (h3 : CellsAt w.heap ab 0 [.pointer none]) (h4 : CellsAt w.heap sb 0 [.int .i64 0])
    (n1 : hb ≠ kb) (n2 : hb ≠ ab) (n3 : hb ≠ sb) (n4 : kb ≠ ab) (n5 : kb ≠ sb) (n6 : ab ≠ sb) (_n7 : hb ≠ gb) (_n8 : kb ≠ gb) (n9 : ab ≠ gb) (n0 : sb ≠ gb) :
    Calls Tryz.prog 117 (.pointer (some ⟨gb, g * 17, none⟩) :: [.pointer (some ⟨hb, 0, none⟩), .pointer (some ⟨kb, 0, none⟩), .pointer (some ⟨ab, 0, none⟩), .pointer (some ⟨sb, 0, none⟩)]).toArray w
      fun e w2 => outw w2 = outw w ∧ E.Frame (fun b => b = ab ∨ b = sb) w.heap w2.heap ∧ ∃ b, e = .returned (.bool b) ∧ FindRI seed T gb g ab sb key b w2.heap := by
  refine begins (k117 {}) [.ptr (.at (.v 0) (.v 1)), .ptr (.at (.v 2) (.c 0)), .ptr (.at (.v 3) (.c 0)), .ptr (.at (.v 4) (.c 0)), .ptr (.at (.v 5) (.c 0))]
    [(.v 2, .c 0, [.int .u64 (.ofN (.v 6))]), (.v 3, .c 0, [.str (.v 0)]), (.v 4, .c 0, [.ptr .nil]), (.v 5, .c 0, [.int .i64 (.c 0)])]
    { n := fun j => if j = 0 then gb else if j = 1 then g * 17 else if j = 2 then hb else if j = 3 then kb else if j = 4 then ab else if j = 5 then sb else hk seed key, s := fun _ => key, h := fun _ => w.heap, o := outw w } 7 1000 rfl rfl rfl
    ⟨by simpa [NE.den, SV.den, IE.den] using h1, ⟨by simpa [NE.den] using n1, by simpa [NE.den] using n2, by simpa [NE.den] using n3, trivial⟩, by simpa [NE.den, SV.den, SE.den] using h2, ⟨by simpa [NE.den] using n4, by simpa [NE.den] using n5, trivial⟩, by simpa [NE.den, SV.den, PE.den] using h3, ⟨by simpa [NE.den] using n6, trivial⟩, by simpa [NE.den, SV.den, IE.den] using h4, trivial, trivial⟩
    (by simp [SV.den, NE.den, PE.den]) ?_
  conv => arg 7; reduce
  simp only [VC.den, IE.den, NE.den, SE.den, SV.den, HE.den, PE.den, WS.den, List.map_cons, List.map_nil, Int.cast_ofNat_Int, reduceIte, Nat.reduceEqDiff, Env.setE, Env.setH, Env.setI, Env.setN, Env.setP]
  refine ⟨_, H.w g hg, ?_⟩
  have hs := sev_lt (hk_lt seed key)
  intro w1 hw1 ho1
  refine (Seven_any (hk seed key) (hk_lt seed key) _).mono ?_
  rintro e1 v1 ⟨rfl, hx1, hp1⟩
  rw [hw1] at hx1
  refine ⟨hp1.trans ho1, hx1, ?_⟩
  refine ⟨_, rfl, fun w2 hw2 ho2 => ?_⟩
  refine (Match_any (T.w g) (sev (hk seed key)) (by omega) w2).mono ?_
  rintro e2 v2 ⟨q, qc, rfl, hr, hx2, hp2, hne⟩
  rw [hw2] at hx2 hne
  refine ⟨hp2.trans ho2, hx2, q, _, qc, rfl, fun c1 c2 c3 c4 _ => ?_⟩
  have hX := hx1.trans hx2
  have hmem : ∀ i ∈ slotsOf (fun b => decide (b = sev (hk seed key))) (T.w g) 8, i < 8 ∧ T.by_ (8 * g + i) = sev (hk seed key) := fun i hi => by
    have := mem_slotsOf.1 hi
    exact ⟨this.1, by rw [T.by_at g this.1]; simpa using this.2⟩
  have hall : ∀ i, i < 8 → T.by_ (8 * g + i) = sev (hk seed key) → i ∈ slotsOf (fun b => decide (b = sev (hk seed key))) (T.w g) 8 := fun i hi e => by
    rw [T.by_at g hi] at e
    exact mem_slotsOf.2 ⟨hi, by simpa using e⟩
  have hlen := slotsOf_len (fun b => decide (b = sev (hk seed key))) (T.w g) 8
  generalize slotsOf (fun b => decide (b = sev (hk seed key))) (T.w g) 8 = l at *
  have hsz := hx1.le
  refine looping (k117 {}) [.ptr (.at (.v 0) (.v 1)), .ptr (.at (.v 3) (.c 0)), .ptr (.at (.v 4) (.c 0)), .ptr (.at (.v 5) (.c 0)), .slice (.v 0) (.v 6) (.v 7), .int .i64 (.ofN (.v 6)), .int .i64 (.ofN (.v 8))]
    [(.v 3, .c 0, [.str (.v 0)]), (.v 4, .c 0, [.ptr (.v 1)]), (.v 5, .c 0, [.int .i64 (.v 0)])]
    (fun y : Nat × Option Nat × Heap => { n := fun j => if j = 0 then gb else if j = 1 then g * 17 else if j = 3 then kb else if j = 4 then ab else if j = 5 then sb else if j = 6 then l.length else if j = 7 then qc else y.1, p := fun j => if j = 0 then q else y.2.1.map fun _ => ⟨gb, g * 17, none⟩, i := fun _ => ((y.2.1.getD 0 : Nat) : Int), s := fun _ => key, h := fun _ => y.2.2, o := outw w }) 9 1000
    (fun y => y.1 ≤ l.length ∧ E.Frame (fun b => b = ab ∨ b = sb) w.heap y.2.2 ∧ row y.2.2 q (ints l) ∧ CellsAt y.2.2 kb 0 [.string (bs key)] ∧ CellsAt y.2.2 ab 0 [.pointer (y.2.1.map fun _ => ⟨gb, g * 17, none⟩)] ∧ CellsAt y.2.2 sb 0 [.int .i64 ((y.2.1.getD 0 : Nat) : Int)] ∧
      (match y.2.1 with | some i => i < 8 ∧ T.by_ (8 * g + i) = sev (hk seed key) ∧ T.k (8 * g + i) = key | none => ∀ i ∈ l.take y.1, T.k (8 * g + i) ≠ key)) (fun y => l.length - y.1) (0, none, v2.heap)
    ⟨Nat.zero_le _, hX.frame _, hr, c2, c3, c4, by simp⟩ rfl (by simp [SV.den, IE.den, NE.den, PE.den]) rfl (fun _ => rfl)
    (fun y hy => ⟨by simpa [NE.den, SV.den, SE.den] using hy.2.2.2.1, ⟨by simpa [NE.den] using n4, by simpa [NE.den] using n5, trivial⟩, by simpa [NE.den, SV.den, PE.den] using hy.2.2.2.2.1, ⟨by simpa [NE.den] using n6, trivial⟩, by simpa [NE.den, SV.den, IE.den] using hy.2.2.2.2.2.1, trivial, trivial⟩) ?_
  rintro ⟨ix, fo, h⟩ ⟨hi, hf, hrow, d2, d3, d4, hfo⟩ N hN
  simp only at hi hf hrow d2 d3 d4 hfo
  simp only [SV.den, PE.den, NE.den, IE.den, List.map_cons, List.map_nil, reduceIte, Nat.reduceEqDiff] at hN
  conv => arg 7; reduce
  simp only [VC.den, BE.prop, IE.den, NE.den, SE.den, SV.den, HE.den, PE.den, BE.den, WS.den, WI.den, List.map_cons, List.map_nil, Int.cast_ofNat_Int, reduceIte, Nat.reduceEqDiff, Env.setE, Env.setH, Env.setB, Env.setS, Env.setI, Env.setN, inK_i64]
  refine ⟨fun h1 => ?_, fun h1 => ?_⟩
  · have hlt : ix < l.length := by omega
    obtain ⟨qb, qo, rfl, gi⟩ := ints_at hrow hlt
    have hm := hmem _ (List.getElem_mem hlt)
    have Hh := H.frame hf hgl (by rintro (e | e) <;> omega)
    have hne' := fun b hb => hne b hb
    refine ⟨qb, qo, rfl, h1, _, gi, by omega, by omega, T.k (8 * g + l[ix]), ?_, fun hk' => ⟨by omega, fun e2 e3 e4 _ => ?_⟩, fun hk' => ⟨by omega, fun e2 e3 e4 _ => ?_⟩⟩
    · rw [Int.toNat_natCast]; exact Hh.k g _ hg hm.1
    · refine hN (ix + 1, some l[ix], _) ⟨hlt, (hf.set (fun _ => .inl rfl) _ _).set (fun _ => .inr rfl) _ _, ?_, e2, e3, e4, hm.1, hm.2, hk'⟩ (by simp only; omega)
      exact row_ne (row_ne hrow (hne ab (Nat.lt_of_lt_of_le h3.1 hsz))) (hne sb (Nat.lt_of_lt_of_le h4.1 hsz))
    · refine hN (ix + 1, fo, h) ⟨hlt, hf, hrow, d2, d3, d4, ?_⟩ (by simp only; omega)
      cases fo with
      | some i => exact hfo
      | none =>
        intro i hi
        rw [List.take_succ_eq_append_getElem hlt] at hi
        rcases List.mem_append.1 hi with hi | hi
        · exact hfo i hi
        · rw [List.mem_singleton.1 hi]; exact hk'
  · have : ix = l.length := by omega
    subst this
    cases fo with
    | some i =>
      refine ⟨fun _ _ _ _ _ w3 hw3 ho3 => ?_, fun h => absurd (by simp) h⟩
      exact ⟨ho3, by rw [hw3]; exact hf, true, rfl, .inl ⟨i, hfo.1, hfo.2.1, hfo.2.2, by rw [hw3]; exact d3, by rw [hw3]; exact d4, rfl⟩⟩
    | none =>
      refine ⟨fun h => absurd rfl h, fun _ => ?_⟩
      have Hh := H.frame hf hgl (by rintro (e | e) <;> omega)
      refine ⟨_, Hh.w g hg, ?_⟩
      intro w3 hw3 ho3
      refine (HasEmpty_any (T.w g) _).mono ?_
      rintro e3 v3 ⟨rfl, hx3, hp3⟩
      rw [hw3] at hx3
      refine ⟨hp3.trans ho3, hx3, ?_⟩
      refine ⟨_, rfl, fun _ e3 e4 _ w4 hw4 ho4 => ⟨ho4, ?_, _, rfl, .inr ⟨fun i hi ⟨e1, e2⟩ => ?_, by rw [hw4]; exact e3, by rw [hw4]; exact e4, rfl⟩⟩⟩
      · rw [hw4]; exact hf.trans (hx3.frame (fun _ => False)) (fun _ h => h) (fun _ _ h => h.elim)
      · rw [List.take_length] at hfo
        exact hfo i (hall i hi e1) e2
end Go.Proofs.YtkcjhabbgaaknaaGreat
/- A key is looked for in a table (I). -/
namespace Go.Proofs.YtkcjhabbgaaknaaGreat
open E
set_option maxRecDepth 100000
/-- Found: where; or not there. -/
def FoundI (T : Tb Int) (gb : Nat) (key : Key) (p : Option Addr) (i : Int) : Prop :=
  (p = none ∧ ∀ x ∈ T.full, x.1 ≠ key) ∨ (∃ g k, g < T.n ∧ k < 8 ∧ p = some ⟨gb, g * 17, none⟩ ∧ i = (k : Nat) ∧ T.by_ (8 * g + k) < 128 ∧ T.k (8 * g + k) = key)
theorem fprobeI (seed : Int) (T : Tb Int) (tb gb hb kb ab sb : Nat) (key : Key) (w : World) (H : TabAt (Value.int .i64) w.heap tb gb seed T)
    (h1 : CellsAt w.heap hb 0 [.int .u64 (hk seed key : Nat)]) (h2 : CellsAt w.heap kb 0 [.string (bs key)]) (h3 : CellsAt w.heap ab 0 [.pointer none]) (h4 : CellsAt w.heap sb 0 [.int .i64 0])
    (n1 : hb ≠ kb) (n2 : hb ≠ ab) (n3 : hb ≠ sb) (n4 : kb ≠ ab) (n5 : kb ≠ sb) (n6 : ab ≠ sb) (n7 : hb ≠ gb) (n8 : kb ≠ gb) (n9 : ab ≠ gb) (n0 : sb ≠ gb) (m1 : ab ≠ tb) (m2 : sb ≠ tb) :
    Calls Tryz.prog 116 #[.pointer (some ⟨tb, 0, none⟩), .int .u64 (hk seed key : Nat), .func (.func 117) #[] #[.pointer (some ⟨hb, 0, none⟩), .pointer (some ⟨kb, 0, none⟩), .pointer (some ⟨ab, 0, none⟩), .pointer (some ⟨sb, 0, none⟩)]] w
      fun e w2 => e = .returned (.tuple #[]) ∧ E.Frame (fun b => b = ab ∨ b = sb) w.heap w2.heap ∧ outw w2 = outw w ∧ ∃ p i, get w2.heap ab 0 = some (.pointer p) ∧ get w2.heap sb 0 = some (.int .i64 i) ∧ FoundI T gb key p i := by
  have hs := sev_lt (hk_lt seed key)
  have hm : ∀ u, (hi (hk seed key) + u) % T.n < T.n := fun u => Nat.mod_lt _ H.ok.pos
  refine (probeI_any 117 [.pointer (some ⟨hb, 0, none⟩), .pointer (some ⟨kb, 0, none⟩), .pointer (some ⟨ab, 0, none⟩), .pointer (some ⟨sb, 0, none⟩)] tb gb T.n (hk seed key) (hk_lt _ _) H.ok.pos H.few (fun b => b = ab ∨ b = sb)
    (fun t h => TabAt (Value.int .i64) h tb gb seed T ∧ CellsAt h hb 0 [.int .u64 (hk seed key : Nat)] ∧ CellsAt h kb 0 [.string (bs key)] ∧ CellsAt h ab 0 [.pointer none] ∧ CellsAt h sb 0 [.int .i64 0] ∧ ∀ u, u < t → T.lacks (hk seed) key ((hi (hk seed key) + u) % T.n))
    (fun t h => FindRI seed T gb ((hi (hk seed key) + t) % T.n) ab sb key true h ∧ ∀ u, u < t → T.lacks (hk seed) key ((hi (hk seed key) + u) % T.n)) w (by kernel_rfl)
    ⟨H, h1, h2, h3, h4, fun u hu => absurd hu (by omega)⟩ (fun t h hI => hI.1.hd.get (j := 1) rfl) ?_).mono ?_
  · rintro t ht w1 _ ⟨H1, a1, a2, a3, a4, a5⟩
    refine (find1I_any seed T gb _ hb kb ab sb key w1 (hm t) H1.gr H1.gl a1 a2 a3 a4 n1 n2 n3 n4 n5 n6 n7 n8 n9 n0).mono ?_
    rintro e w2 ⟨ho, hf, b, rfl, hR⟩
    refine ⟨ho, hf, b, rfl, fun hb => by subst hb; exact ⟨hR, a5⟩, fun hb => ?_⟩
    rcases hR with ⟨_, _, _, _, _, _, hR⟩ | ⟨r1, r2, r3, r4⟩
    · exact absurd hR hb
    · refine ⟨H1.frame hf (by rintro (e | e) <;> omega) (by rintro (e | e) <;> omega), hf.cellsAt a1 (by rintro (e | e) <;> omega), hf.cellsAt a2 (by rintro (e | e) <;> omega), r2, r3, fun u hu => ?_⟩
      by_cases h : u < t
      · exact a5 u h
      · obtain rfl : u = t := by omega
        exact r1
  · rintro e w2 ⟨rfl, hf, ho, hq⟩
    refine ⟨rfl, hf, ho, ?_⟩
    rcases hq with ⟨_, _, _, a3, a4, a5⟩ | ⟨t, ht, hR, a5⟩
    · exact ⟨none, 0, a3.get (j := 0) rfl, a4.get (j := 0) rfl, .inl ⟨rfl, Tb.absent H.ok (Nat.le_refl _) a5 fun h => absurd h (by omega)⟩⟩
    · rcases hR with ⟨i, b1, b2, b3, b4, b5, _⟩ | ⟨b1, b2, b3, b4⟩
      · exact ⟨_, _, b4.get (j := 0) rfl, b5.get (j := 0) rfl, .inr ⟨_, i, hm t, b1, rfl, rfl, by omega, b3⟩⟩
      · exact ⟨none, 0, b2.get (j := 0) rfl, b3.get (j := 0) rfl, .inl ⟨rfl, Tb.absent H.ok (Nat.le_of_lt ht) a5 fun _ => ⟨b1, fun h => (tight_iff T _).1 h b4.symm⟩⟩⟩
theorem findI_any (seed : Int) (T : Tb Int) (tb gb : Nat) (key : Key) (w : World) (H : TabAt (Value.int .i64) w.heap tb gb seed T) (hs : key.length ≤ 9223372036854775807) :
    Calls Tryz.prog 87 #[.pointer (some ⟨tb, 0, none⟩), .string (bs key)] w fun e w' => ∃ p i, e = .returned (.tuple #[.pointer p, .int .i64 i]) ∧ FoundI T gb key p i ∧ Ext w.heap w'.heap ∧ outw w' = outw w := by
  refine begins (k87 {}) [.ptr (.at (.v 0) (.c 0)), .str (.v 0)] [(.v 0, .c 0, [.int .u64 (.v 0), .slice (.v 0) (.v 1) (.v 1), .int .i64 (.ofN (.v 2)), .int .i64 (.ofN (.v 3))])]
    { n := fun j => if j = 0 then tb else if j = 1 then T.n else if j = 2 then T.full.length else T.dels, i := fun _ => seed, p := fun _ => some ⟨gb, 0, none⟩, s := fun _ => key, h := fun _ => w.heap, o := outw w } 4 1000 rfl rfl rfl
    ⟨by simpa [NE.den, SV.den, IE.den, PE.den] using H.hd, trivial, trivial⟩ (by simp [SV.den, SE.den, NE.den, PE.den]) ?_
  conv => arg 7; reduce
  simp only [VC.den, IE.den, NE.den, SE.den, SV.den, HE.den, PE.den, WS.den, WI.den, noneIn, List.map_cons, List.map_nil, Int.cast_ofNat_Int, reduceIte, Nat.reduceEqDiff, Env.setE, Env.setH, Env.setI, Env.setN, Env.setP, Env.setW]
  have htl := H.tl
  have hgl := H.gl
  refine ⟨?_, ?_⟩
  · intro w1 hw1 ho1
    have x0 := ((((Ext.refl w.heap).push (.cells #[.string (bs key)] 9)).push (.cells #[.pointer none] 158)).push (.cells #[.int .i64 0] 3)).set (b := ((w.heap.push (.cells #[.string (bs key)] 9)).push (.cells #[.pointer none] 158)).size) (by simp; omega) 0 (.int .i64 0)
    refine (Of_any seed key w1 hs).mono ?_
    rintro e1 v1 ⟨rfl, hx1, hp1⟩
    rw [hw1] at hx1
    rw [hk_cast]
    have hz1 := hx1.le
    simp only [size_setc, Array.size_push] at hz1
    refine ⟨hp1.trans ho1, hx1, _, rfl, fun c1 c2 c3 c4 c5 w2 hw2 ho2 => ?_⟩
    have x2 := ((x0.trans hx1).push (.cells #[.int .u64 0] 22)).set (b := v1.heap.size) (by omega) 0 (.int .u64 (hk seed key : Nat))
    refine (fprobeI seed T tb gb v1.heap.size w.heap.size (w.heap.push (.cells #[.string (bs key)] 9)).size ((w.heap.push (.cells #[.string (bs key)] 9)).push (.cells #[.pointer none] 158)).size key w2 (by rw [hw2]; exact H.ext x2) (by rw [hw2]; exact c1) (by rw [hw2]; exact c4) (by rw [hw2]; exact c3) (by rw [hw2]; exact c2) (by omega) (by simp only [Array.size_push]; omega) (by simp only [Array.size_push]; omega) (by simp only [Array.size_push]; omega) (by simp only [Array.size_push]; omega) (by simp only [Array.size_push]; omega) (by omega) (by omega) (by simp only [Array.size_push]; omega) (by simp only [Array.size_push]; omega) (by simp only [Array.size_push]; omega) (by simp only [Array.size_push]; omega)).mono ?_
    rintro e3 v3 ⟨rfl, hf3, hp3, p, i, g1, g2, hF⟩
    rw [hw2] at hf3
    refine ⟨hp3.trans ho2, _, hf3, trivial, rfl, p, g1, i, g2, fun _ w4 hw4 ho4 => ⟨p, i, rfl, hF, ?_, ho4⟩⟩
    rw [hw4]
    exact ((x2.frame (fun _ => False)).trans (H := fun b => b = (w.heap.push (.cells #[.string (bs key)] 9)).size ∨ b = ((w.heap.push (.cells #[.string (bs key)] 9)).push (.cells #[.pointer none] 158)).size) hf3 (fun _ h => h.elim) (fun _ _ h => h)).ext fun n hn e => by simp only [Array.size_push] at e; omega
  · intro w1 hw1 ho1
    have x0 := ((((Ext.refl w.heap).push (.cells #[.string (bs key)] 9)).push (.cells #[.pointer none] 158)).push (.cells #[.int .i64 0] 3)).set (b := ((w.heap.push (.cells #[.string (bs key)] 9)).push (.cells #[.pointer none] 158)).size) (by simp; omega) 0 (.int .i64 0)
    refine (Of_any seed key w1 hs).mono ?_
    rintro e1 v1 ⟨rfl, hx1, hp1⟩
    rw [hw1] at hx1
    rw [hk_cast]
    have hz1 := hx1.le
    simp only [size_setc, Array.size_push] at hz1
    refine ⟨hp1.trans ho1, hx1, _, rfl, fun c1 c2 c3 c4 c5 w2 hw2 ho2 => ?_⟩
    have x2 := ((x0.push (.cells #[.int .u64 0] 22)).trans hx1).set (b := (setc (((w.heap.push (.cells #[.string (bs key)] 9)).push (.cells #[.pointer none] 158)).push (.cells #[.int .i64 0] 3)) ((w.heap.push (.cells #[.string (bs key)] 9)).push (.cells #[.pointer none] 158)).size 0 (.int .i64 0)).size) (by simp only [size_setc, Array.size_push]; omega) 0 (.int .u64 (hk seed key : Nat))
    refine (fprobeI seed T tb gb (setc (((w.heap.push (.cells #[.string (bs key)] 9)).push (.cells #[.pointer none] 158)).push (.cells #[.int .i64 0] 3)) ((w.heap.push (.cells #[.string (bs key)] 9)).push (.cells #[.pointer none] 158)).size 0 (.int .i64 0)).size w.heap.size (w.heap.push (.cells #[.string (bs key)] 9)).size ((w.heap.push (.cells #[.string (bs key)] 9)).push (.cells #[.pointer none] 158)).size key w2 (by rw [hw2]; exact H.ext x2) (by rw [hw2]; exact c1) (by rw [hw2]; exact c4) (by rw [hw2]; exact c3) (by rw [hw2]; exact c2) (by simp only [size_setc, Array.size_push]; omega) (by simp only [size_setc, Array.size_push]; omega) (by simp only [size_setc, Array.size_push]; omega) (by simp only [Array.size_push]; omega) (by simp only [Array.size_push]; omega) (by simp only [Array.size_push]; omega) (by simp only [size_setc, Array.size_push]; omega) (by omega) (by simp only [Array.size_push]; omega) (by simp only [Array.size_push]; omega) (by simp only [Array.size_push]; omega) (by simp only [Array.size_push]; omega)).mono ?_
    rintro e3 v3 ⟨rfl, hf3, hp3, p, i, g1, g2, hF⟩
    rw [hw2] at hf3
    refine ⟨hp3.trans ho2, _, hf3, trivial, rfl, p, g1, i, g2, fun _ w4 hw4 ho4 => ⟨p, i, rfl, hF, ?_, ho4⟩⟩
    rw [hw4]
    exact ((x2.frame (fun _ => False)).trans (H := fun b => b = (w.heap.push (.cells #[.string (bs key)] 9)).size ∨ b = ((w.heap.push (.cells #[.string (bs key)] 9)).push (.cells #[.pointer none] 158)).size) hf3 (fun _ h => h.elim) (fun _ _ h => h)).ext fun n hn e => by simp only [Array.size_push] at e; omega
end Go.Proofs.YtkcjhabbgaaknaaGreat
/- What a key has in a table; a table's length (I). -/
namespace Go.Proofs.YtkcjhabbgaaknaaGreat
open E
set_option maxRecDepth 100000
def HasI (l : List (Key × Int)) (key : Key) (v : Int) (ok : Bool) : Prop := (ok = true ∧ (key, v) ∈ l) ∨ (ok = false ∧ v = (0 : Int) ∧ ∀ x ∈ l, x.1 ≠ key)
theorem mem_fullI {T : Tb Int} {g k : Nat} (hg : g < T.n) (hk : k < 8) (hb : T.by_ (8 * g + k) < 128) : (T.k (8 * g + k), T.v (8 * g + k)) ∈ T.full :=
  mem_at.2 ⟨8 * g + k, by omega, by unfold Tb.cell; rw [if_pos hb]⟩
theorem tGetI_any (seed : Int) (T : Tb Int) (tb gb : Nat) (key : Key) (w : World) (H : TabAt (Value.int .i64) w.heap tb gb seed T) (hs : key.length ≤ 9223372036854775807) :
    Calls Tryz.prog 63 #[.pointer (some ⟨tb, 0, none⟩), .string (bs key)] w fun e w' => ∃ v ok, e = .returned (.tuple #[(Value.int .i64) v, .bool ok]) ∧ HasI T.full key v ok ∧ Ext w.heap w'.heap ∧ outw w' = outw w := by
  refine begins (k63 {}) [.ptr (.at (.v 0) (.c 0)), .str (.v 0)] [] { n := fun _ => tb, s := fun _ => key, h := fun _ => w.heap, o := outw w } 1 1000 rfl rfl rfl trivial (by simp [SV.den, SE.den, NE.den, PE.den]) ?_
  conv => arg 7; reduce
  simp only [VC.den, BE.prop, IE.den, NE.den, SE.den, SV.den, HE.den, PE.den, BE.den, WS.den, List.map_cons, List.map_nil, Int.cast_ofNat_Int, reduceIte, Nat.reduceEqDiff, Env.setE, Env.setH, Env.setI, Env.setN, Env.setP]
  intro w1 hw1 ho1
  refine (findI_any seed T tb gb key w1 (by rw [hw1]; exact H) hs).mono ?_
  rintro e1 v1 ⟨p, i, rfl, hF, hx1, hp1⟩
  rw [hw1] at hx1
  refine ⟨hp1.trans ho1, hx1, p, i, rfl, fun hp hf w2 hw2 ho2 => ?_, fun hp => ?_⟩
  · subst hp
    rcases hF with ⟨_, hF⟩ | ⟨_, _, _, _, hF, _⟩
    · exact ⟨(0 : Int), false, rfl, .inr ⟨rfl, rfl, hF⟩, by rw [hw2]; exact hf.none, ho2⟩
    · cases hF
  · rcases hF with ⟨hF, _⟩ | ⟨g, k, hg, hk, rfl, rfl, hb, he⟩
    · exact absurd hF hp
    · have Hv := (H.gr.ext hx1 H.gl).v g k hg hk
      refine ⟨gb, g * 17, rfl, by omega, by omega, _, by rw [Int.toNat_natCast]; exact Hv, fun hf w2 hw2 ho2 => ⟨_, true, rfl, .inl ⟨rfl, ?_⟩, by rw [hw2]; exact hf.none, ho2⟩⟩
      have := mem_fullI hg hk hb
      rwa [he] at this
theorem tLenI_any (seed : Int) (T : Tb Int) (tb gb : Nat) (w : World) (H : TabAt (Value.int .i64) w.heap tb gb seed T) :
    Calls Tryz.prog 95 #[.pointer (some ⟨tb, 0, none⟩)] w (RetX (.int .i64 (T.full.length : Nat)) w.heap (outw w)) := by
  refine begins (k95 {}) [.ptr (.at (.v 0) (.c 0))] [(.v 0, .c 0, [.int .u64 (.v 0), .slice (.v 0) (.v 1) (.v 1), .int .i64 (.ofN (.v 2)), .int .i64 (.ofN (.v 3))])]
    { n := fun j => if j = 0 then tb else if j = 1 then T.n else if j = 2 then T.full.length else T.dels, i := fun _ => seed, p := fun _ => some ⟨gb, 0, none⟩, h := fun _ => w.heap, o := outw w } 4 1000 rfl rfl rfl
    ⟨by simpa [NE.den, SV.den, IE.den, PE.den] using H.hd, trivial, trivial⟩ (by simp [SV.den, NE.den, PE.den]) ?_
  conv => arg 7; reduce
  simp only [VC.den, IE.den, NE.den, SV.den, HE.den, PE.den, WS.den, List.map_cons, List.map_nil, reduceIte, Nat.reduceEqDiff]
  exact fun _ => (fun hf wr hwr hor => ⟨rfl, by rw [hwr]; exact hf.none, hor⟩)
def zrowI : List Value := [.int .u64 0, .string (bs (bytesOf [])), (Value.int .i64) (0 : Int), .string (bs (bytesOf [])), (Value.int .i64) (0 : Int), .string (bs (bytesOf [])), (Value.int .i64) (0 : Int), .string (bs (bytesOf [])), (Value.int .i64) (0 : Int), .string (bs (bytesOf [])), (Value.int .i64) (0 : Int), .string (bs (bytesOf [])), (Value.int .i64) (0 : Int), .string (bs (bytesOf [])), (Value.int .i64) (0 : Int), .string (bs (bytesOf [])), (Value.int .i64) (0 : Int)]
theorem zrowI_at {n : Nat} {g i : Nat} (hg : g < n) (hi : i < 8) : (copies n zrowI)[g * 17]? = some (.int .u64 ((0 : Nat) : Int)) ∧ (copies n zrowI)[g * 17 + 1 + i * 2]? = some (.string (bs [])) ∧ (copies n zrowI)[g * 17 + 1 + i * 2 + 1]? = some ((Value.int .i64) (0 : Int)) ∧ (copies n zrowI).length = n * 17 := by
  have hl : zrowI.length = 17 := rfl
  have hc : ∀ j, j < 17 → (copies n zrowI)[g * 17 + j]? = zrowI[j]? := fun j hj => by
    rw [copies_get _ _ _ (by rw [hl]; omega), hl, show (g * 17 + j) % 17 = j by omega]
  rw [show g * 17 + 1 + i * 2 = g * 17 + (1 + i * 2) by omega, show g * 17 + (1 + i * 2) + 1 = g * 17 + (2 + i * 2) by omega, hc _ (show 1 + i * 2 < 17 by omega), hc _ (show 2 + i * 2 < 17 by omega), copies_length, hl, show (copies n zrowI)[g * 17]? = zrowI[0]? from hc 0 (by decide)]
  obtain rfl | rfl | rfl | rfl | rfl | rfl | rfl | rfl : i = 0 ∨ i = 1 ∨ i = 2 ∨ i = 3 ∨ i = 4 ∨ i = 5 ∨ i = 6 ∨ i = 7 := by omega
  all_goals exact ⟨rfl, rfl, rfl, rfl⟩
theorem zgrpI (h : Heap) (n : Nat) (hn : n ≤ 30) : GrpAt (Value.int .i64) (h.push (.cells (copies n zrowI).toArray 165)) h.size (⟨n, fun _ => 0, fun _ => [], fun _ => (0 : Int)⟩ : Tb Int) := by
  have hm := CellsAt.made h (copies n zrowI) 165
  refine ⟨fun g hg => E.CellsAt.at0 hm (zrowI_at hg (i := 0) (by omega)).1, fun g i hg hi => E.CellsAt.at0 hm (zrowI_at hg hi).2.1, fun g i hg hi => E.CellsAt.at0 hm (zrowI_at hg hi).2.2.1, fun o ho => (E.CellsAt.wr0 hm (j := o) ?_).2⟩
  rcases Nat.eq_zero_or_pos n with e | e
  · subst e; simp at ho
  · rw [(zrowI_at e (i := 0) (by omega)).2.2.2]; exact ho
theorem emptyI_any (n : Nat) (hn : n ≤ 30) (w : World) :
    Calls Tryz.prog 75 #[.int .i64 (n : Nat)] w fun e w' => ∃ b, e = .returned (.slice (some ⟨b, 0, none⟩) n n) ∧ w.heap.size ≤ b ∧ Ext w.heap w'.heap ∧ GrpAt (Value.int .i64) w'.heap b ⟨n, fun _ => 9259542123273814144, fun _ => [], fun _ => (0 : Int)⟩ ∧ outw w' = outw w := by
  refine begins (k75 {}) [.int .i64 (.ofN (.v 0))] [] { n := fun _ => n, h := fun _ => w.heap, o := outw w } 1 1000 rfl rfl rfl trivial (by simp [SV.den, IE.den, NE.den]) ?_
  conv => arg 7; reduce
  simp only [VC.den, BE.prop, IE.den, NE.den, SE.den, SV.den, HE.den, PE.den, WS.den, List.map_cons, List.map_nil, Int.cast_ofNat_Int, reduceIte, Nat.reduceEqDiff, Env.setH, Env.setN]
  refine ⟨by omega, by omega, by omega, by omega, fun _ => ?_⟩
  rw [Int.toNat_natCast]
  have hz := zgrpI w.heap n hn
  have hx0 := ext_push w.heap (.cells (copies n zrowI).toArray 165)
  unfold zrowI at hz hx0
  refine looping (k75 {}) [.slice (.at (.v 0) (.c 0)) (.v 1) (.v 1), .int .i64 (.ofN (.v 1)), .int .i64 (.ofN (.v 2))] []
    (fun y : Nat × Heap => { n := fun j => if j = 0 then w.heap.size else if j = 1 then n else y.1, h := fun _ => y.2, o := outw w }) 3 1000
    (fun y => y.1 ≤ n ∧ Ext w.heap y.2 ∧ GrpAt (Value.int .i64) y.2 w.heap.size (⟨n, fun g => if g < y.1 then 9259542123273814144 else 0, fun _ => [], fun _ => (0 : Int)⟩ : Tb Int)) (fun y => n - y.1) (0, _) ⟨Nat.zero_le _, hx0, by simp only [Nat.not_lt_zero, if_false]; exact hz⟩ rfl (by simp [SV.den, IE.den, NE.den, PE.den]) rfl (fun _ => rfl) (fun _ _ => trivial) ?_
  rintro ⟨i, h⟩ ⟨hi, hx, hG⟩ N hN
  simp only at hi hx hG
  simp only [SV.den, PE.den, NE.den, IE.den, List.map_cons, List.map_nil, reduceIte, Nat.reduceEqDiff] at hN
  conv => arg 7; reduce
  simp only [VC.den, BE.prop, IE.den, NE.den, SV.den, HE.den, PE.den, WS.den, WI.den, List.map_cons, List.map_nil, Int.cast_ofNat_Int, reduceIte, Nat.reduceEqDiff, Env.setE, Env.setH, Env.setI, inK_i64]
  refine ⟨fun h1 => ?_, fun h1 _ w1 hw1 ho1 => ?_⟩
  · have hlt : i < n := by omega
    intro w1 hw1 ho1
    refine (New_any _).mono ?_
    rintro e1 v1 ⟨rfl, hx1, hp1⟩
    rw [hw1] at hx1
    refine ⟨hp1.trans ho1, hx1, ?_⟩
    have hG1 := hG.ext hx1 (get_lt (hG.w i hlt))
    have hgi := hG1.w i hlt
    refine ⟨_, rfl, h1, by rw [hgi]; rfl, hG1.z _ (by show i * 17 < n * 17; omega), by omega, fun _ => ?_⟩
    refine hN (i + 1, _) ⟨hlt, (hx.trans hx1).set (Nat.le_refl _) _ _, ?_⟩ (by simp only; omega)
    have := hG1.setW hlt 9259542123273814144
    have e : (upd (fun g => if g < i then 9259542123273814144 else 0) i 9259542123273814144) = fun g => if g < i + 1 then 9259542123273814144 else 0 := by
      funext g
      unfold upd
      by_cases h1 : g = i
      · subst h1; simp
      · simp only [h1, if_false]
        by_cases h2 : g < i
        · rw [if_pos h2, if_pos (by omega)]
        · rw [if_neg h2, if_neg (by omega)]
    simp only [e] at this
    exact this
  · obtain rfl : i = n := by omega
    refine ⟨w.heap.size, rfl, Nat.le_refl _, by rw [hw1]; exact hx, ?_, ho1⟩
    rw [hw1]
    exact ⟨fun g hg => by rw [hG.w g hg]; simp only [if_pos (show g < i from hg)], hG.k, hG.v, hG.z⟩
end Go.Proofs.YtkcjhabbgaaknaaGreat
/- A key is put into a free slot (I). -/
namespace Go.Proofs.YtkcjhabbgaaknaaGreat
open E
set_option maxRecDepth 100000
def InsRI (seed : Int) (T : Tb Int) (tb gb g : Nat) (key : Key) (v : Int) (b : Bool) (h : Heap) : Prop :=
  (b = true ∧ ∃ i, i < 8 ∧ 128 ≤ T.by_ (8 * g + i) ∧ GrpAt (Value.int .i64) h gb (T.put (8 * g + i) (sev (hk seed key)) key v) ∧
    CellsAt h tb 0 [.int .u64 seed, .slice (some ⟨gb, 0, none⟩) T.n T.n, .int .i64 ((T.full.length : Int) + 1), .int .i64 ((T.dels : Int) - if T.by_ (8 * g + i) = 254 then 1 else 0)]) ∨
  (b = false ∧ TabAt (Value.int .i64) h tb gb seed T ∧ ∀ i, i < 8 → T.by_ (8 * g + i) < 128)
theorem ins1I_any (seed : Int) (T : Tb Int) (tb gb g pb hb kb vb : Nat) (key : Key) (v : Int) (w : World) (hg : g < T.n) (H : TabAt (Value.int .i64) w.heap tb gb seed T)
    (h1 : CellsAt w.heap pb 0 [.pointer (some ⟨tb, 0, none⟩)]) (h2 : CellsAt w.heap hb 0 [.int .u64 (hk seed key : Nat)]) (h3 : CellsAt w.heap kb 0 [.string (bs key)]) (h4 : CellsAt w.heap vb 0 [(Value.int .i64) v])
    (n1 : pb ≠ hb) (n2 : pb ≠ kb) (n3 : pb ≠ vb) (n4 : pb ≠ tb) (n5 : hb ≠ kb) (n6 : hb ≠ vb) (n7 : hb ≠ tb) (n8 : kb ≠ vb) (n9 : kb ≠ tb) (n0 : vb ≠ tb) (m1 : pb ≠ gb) (m2 : hb ≠ gb) (m3 : kb ≠ gb) (m4 : vb ≠ gb) :
    Calls Tryz.prog 124 (.pointer (some ⟨gb, g * 17, none⟩) :: [.pointer (some ⟨pb, 0, none⟩), .pointer (some ⟨hb, 0, none⟩), .pointer (some ⟨kb, 0, none⟩), .pointer (some ⟨vb, 0, none⟩)]).toArray w
      fun e w2 => outw w2 = outw w ∧ E.Frame (fun b => b = tb ∨ b = gb) w.heap w2.heap ∧ ∃ b, e = .returned (.bool b) ∧ InsRI seed T tb gb g key v b w2.heap := by
  refine begins (k124 {}) [.ptr (.at (.v 0) (.v 1)), .ptr (.at (.v 2) (.c 0)), .ptr (.at (.v 3) (.c 0)), .ptr (.at (.v 4) (.c 0)), .ptr (.at (.v 5) (.c 0))]
    [(.v 2, .c 0, [.ptr (.at (.v 6) (.c 0))]), (.v 3, .c 0, [.int .u64 (.ofN (.v 7))]), (.v 4, .c 0, [.str (.v 0)]), (.v 5, .c 0, [.int .i64 (.v 9)]), (.v 6, .c 0, [.int .u64 (.v 0), .slice (.at (.v 0) (.c 0)) (.v 8) (.v 8), .int .i64 (.ofN (.v 9)), .int .i64 (.ofN (.v 10))])]
    { n := fun j => if j = 0 then gb else if j = 1 then g * 17 else if j = 2 then pb else if j = 3 then hb else if j = 4 then kb else if j = 5 then vb else if j = 6 then tb else if j = 7 then hk seed key else if j = 8 then T.n else if j = 9 then T.full.length else T.dels, i := fun j => if j = 9 then v else seed, p := fun _ => none, s := fun _ => key, h := fun _ => w.heap, o := outw w } 11 1000 rfl rfl rfl
    ⟨by simpa [NE.den, SV.den, PE.den] using h1, ⟨by simpa [NE.den] using n1, by simpa [NE.den] using n2, by simpa [NE.den] using n3, by simpa [NE.den] using n4, trivial⟩, by simpa [NE.den, SV.den, IE.den] using h2, ⟨by simpa [NE.den] using n5, by simpa [NE.den] using n6, by simpa [NE.den] using n7, trivial⟩,
      by simpa [NE.den, SV.den, SE.den] using h3, ⟨by simpa [NE.den] using n8, by simpa [NE.den] using n9, trivial⟩, by simpa [NE.den, SV.den, IE.den, PE.den] using h4, ⟨by simpa [NE.den] using n0, trivial⟩, by simpa [NE.den, SV.den, IE.den, PE.den] using H.hd, trivial, trivial⟩
    (by simp [SV.den, NE.den, PE.den]) ?_
  conv => arg 7; reduce
  simp only [VC.den, BE.prop, IE.den, NE.den, SE.den, SV.den, HE.den, PE.den, BE.den, WS.den, WI.den, List.map_cons, List.map_nil, Int.cast_ofNat_Int, reduceIte, Nat.reduceEqDiff, Env.setE, Env.setH, Env.setI, Env.setN, Env.setP, inK_i64]
  have hs := sev_lt (hk_lt seed key)
  have hgl := H.gl
  have htl := H.tl
  have hfl := T.full_le
  have hdl := T.dels_le
  have hfew := H.few
  have htg := H.ne
  refine ⟨_, H.gr.w g hg, ?_⟩
  intro w1 hw1 ho1
  refine (Free_any (T.w g) w1).mono ?_
  rintro e1 v1 ⟨q, qc, rfl, hr, hx1, hp1, hne⟩
  rw [hw1] at hx1 hne
  refine ⟨hp1.trans ho1, hx1, q, _, qc, rfl, fun hl c1 c2 c3 c4 c5 hf w2 hw2 ho2 => ?_, fun hl => ?_⟩
  · refine ⟨ho2, by rw [hw2]; exact hx1.frame _, false, rfl, .inr ⟨rfl, by rw [hw2]; exact H.ext hx1, fun i hi => ?_⟩⟩
    have hl0 : slotsOf (fun b => decide (128 ≤ b)) (T.w g) 8 = [] := List.length_eq_zero_iff.1 (by omega)
    rw [T.by_at g hi]
    refine Nat.lt_of_not_le fun hc => ?_
    have := mem_slotsOf (f := fun b => decide (128 ≤ b)).2 ⟨hi, show (decide (128 ≤ byteAt (T.w g) i)) = true by simpa using hc⟩
    rw [hl0] at this; cases this
  · have hl' : 0 < (slotsOf (fun b => decide (128 ≤ b)) (T.w g) 8).length := by omega
    obtain ⟨qb, qo, rfl, gi⟩ := ints_at hr hl'
    have hm := mem_slotsOf.1 (List.getElem_mem hl')
    generalize (slotsOf (fun b => decide (128 ≤ b)) (T.w g) 8)[0] = i at gi hm
    obtain ⟨hi, hib⟩ := hm
    have hib : 128 ≤ T.by_ (8 * g + i) := by rw [T.by_at g hi]; simpa using hib
    have H1 := H.ext hx1
    refine ⟨qb, qo, rfl, by omega, _, gi, _, H1.gr.w g hg, ?_⟩
    intro w2 hw2 ho2
    refine (At_any (T.w g) i hi _).mono ?_
    rintro e2 v2 ⟨rfl, hx2, hp2⟩
    rw [hw2] at hx2
    refine ⟨hp2.trans ho2, hx2, ?_⟩
    have H2 := H1.ext hx2
    have hX := hx1.trans hx2
    rw [← T.by_at g hi]
    have eput : T.put (8 * g + i) (sev (hk seed key)) key v = { n := T.n, w := upd T.w g (putB (T.w g) i (sev (hk seed key))), k := upd T.k (8 * g + i) key, v := upd T.v (8 * g + i) v } := by
      unfold Tb.put; rw [show (8 * g + i) / 8 = g by omega, show (8 * g + i) % 8 = i by omega]
    refine ⟨_, rfl, fun hd => ⟨by omega, ?_⟩, fun hd => ?_⟩
    · have hG := H2.gr.ne (b := tb) (o := 3) (x := .int .i64 ((T.dels : Int) - 1)) H.ne
      have hdd : (T.dels : Int) - 1 = (T.dels : Int) - if T.by_ (8 * g + i) = 254 then 1 else 0 := by rw [if_pos (by omega)]
      refine ⟨_, hG.w g hg, ?_⟩
      intro w3 hw3 ho3
      refine (Seven_any (hk seed key) (hk_lt seed key) _).mono ?_
      rintro e3 v3 ⟨rfl, hx3, hp3⟩
      rw [hw3] at hx3
      refine ⟨hp3.trans ho3, hx3, ?_⟩
      refine ⟨_, rfl, ?_⟩
      intro w4 hw4 ho4
      refine (Set_any (T.w g) i (sev (hk seed key)) hi (by omega) _).mono ?_
      rintro e4 v4 ⟨rfl, hx4, hp4⟩
      rw [hw4] at hx4
      refine ⟨hp4.trans ho4, hx4, ?_⟩
      have hX4 := hx3.trans hx4
      have hG4 := hG.ext hX4 (get_lt (hG.w g hg))
      have hA := hG4.setW hg (putB (T.w g) i (sev (hk seed key)))
      have hB := hA.setK hg hi key
      have hD := hB.setV hg hi v
      rw [Int.toNat_natCast]
      refine ⟨_, rfl, by omega, by omega, by omega, by omega, by omega, by rw [hG4.w g hg]; rfl, hG4.z _ (by omega), by omega, by omega, by omega, by omega, by omega, by omega, by omega, by rw [hA.k g i hg hi]; rfl, hA.z _ (by show _ < T.n * 17; omega), by rw [hB.v g i hg hi]; rfl, hB.z _ (by show _ < T.n * 17; omega), by omega, fun _ _ _ _ ct hf w5 hw5 ho5 => ⟨ho5, ?_, true, rfl, .inl ⟨rfl, i, hi, hib, ?_, ?_⟩⟩⟩
      · rw [hw5]; exact hf.mono fun b _ h => by simp only [or_false] at h; omega
      · rw [hw5, eput]; exact hD.ne (fun e => H.ne e)
      · rw [hw5, ← hdd]; exact ct
    · have hG := H2.gr
      have hdd : ((T.dels : Nat) : Int) = (T.dels : Int) - if T.by_ (8 * g + i) = 254 then 1 else 0 := by rw [if_neg (by omega)]; omega
      refine ⟨_, hG.w g hg, ?_⟩
      intro w3 hw3 ho3
      refine (Seven_any (hk seed key) (hk_lt seed key) _).mono ?_
      rintro e3 v3 ⟨rfl, hx3, hp3⟩
      rw [hw3] at hx3
      refine ⟨hp3.trans ho3, hx3, ?_⟩
      refine ⟨_, rfl, ?_⟩
      intro w4 hw4 ho4
      refine (Set_any (T.w g) i (sev (hk seed key)) hi (by omega) _).mono ?_
      rintro e4 v4 ⟨rfl, hx4, hp4⟩
      rw [hw4] at hx4
      refine ⟨hp4.trans ho4, hx4, ?_⟩
      have hX4 := hx3.trans hx4
      have hG4 := hG.ext hX4 (get_lt (hG.w g hg))
      have hA := hG4.setW hg (putB (T.w g) i (sev (hk seed key)))
      have hB := hA.setK hg hi key
      have hD := hB.setV hg hi v
      rw [Int.toNat_natCast]
      refine ⟨_, rfl, by omega, by omega, by omega, by omega, by omega, by rw [hG4.w g hg]; rfl, hG4.z _ (by omega), by omega, by omega, by omega, by omega, by omega, by omega, by omega, by rw [hA.k g i hg hi]; rfl, hA.z _ (by show _ < T.n * 17; omega), by rw [hB.v g i hg hi]; rfl, hB.z _ (by show _ < T.n * 17; omega), by omega, fun _ _ _ _ ct hf w5 hw5 ho5 => ⟨ho5, ?_, true, rfl, .inl ⟨rfl, i, hi, hib, ?_, ?_⟩⟩⟩
      · rw [hw5]; exact hf.mono fun b _ h => by simp only [or_false] at h; omega
      · rw [hw5, eput]; exact hD.ne (fun e => H.ne e)
      · rw [hw5, ← hdd]; exact ct
end Go.Proofs.YtkcjhabbgaaknaaGreat
/- A key that is not there is put into a table that has room (I). -/
namespace Go.Proofs.YtkcjhabbgaaknaaGreat
open E
set_option maxRecDepth 100000
/-- A table got one key more. -/
def MoreI (seed : Int) (T : Tb Int) (tb gb : Nat) (key : Key) (v : Int) (h : Heap) : Prop := ∃ T' : Tb Int, TabAt (Value.int .i64) h tb gb seed T' ∧ T'.n = T.n ∧ T'.full.Perm ((key, v) :: T.full)
theorem moreI (seed : Int) (T : Tb Int) (tb gb t : Nat) (key : Key) (v : Int) (h h0 : Heap) (H : TabAt (Value.int .i64) h0 tb gb seed T) (hno : ∀ x ∈ T.full, x.1 ≠ key) (hkl : key.length ≤ 9223372036854775807) (_ht : t < T.n)
    (hR : InsRI seed T tb gb ((hi (hk seed key) + t) % T.n) key v true h) (hu : ∀ u, u < t → ∀ i, i < 8 → T.by_ (8 * ((hi (hk seed key) + u) % T.n) + i) < 128) : MoreI seed T tb gb key v h := by
  have hs := sev_lt (hk_lt seed key)
  have hg := Nat.mod_lt (hi (hk seed key) + t) H.ok.pos
  rcases hR with ⟨_, i, hi', hb, hG, hC⟩ | ⟨h, _⟩
  · have hj : 8 * ((hi (hk seed key) + t) % T.n) + i < 8 * T.n := by omega
    have hp := T.put_full key v hj hs hb
    have hd := T.put_dels (c := sev (hk seed key)) key v hj (by omega)
    refine ⟨_, ⟨?_, hG, H.ne, T.put_ok H.ok key v hj hb hno rfl hs fun t' ht' h' => ?_, H.few, fun x hx => ?_⟩, rfl, hp⟩
    · rw [if_neg (show ¬ sev (hk seed key) = 254 by omega)] at hd
      rw [hp.length_eq, hd, List.length_cons, T.put_n]
      simpa using hC
    · by_cases h2 : t ≤ t'
      · exact absurd (by omega) (h' t h2)
      · intro k hk' e
        have := hu t' (by omega) k hk'
        omega
    · rcases List.mem_cons.1 (hp.subset hx) with rfl | hx
      · exact hkl
      · exact H.kl x hx
  · cases h
theorem iprobeI (seed : Int) (T : Tb Int) (tb gb pb hb kb vb : Nat) (key : Key) (v : Int) (w : World) (H : TabAt (Value.int .i64) w.heap tb gb seed T) (hno : ∀ x ∈ T.full, x.1 ≠ key) (hkl : key.length ≤ 9223372036854775807) (hroom : T.full.length < 8 * T.n)
    (h1 : CellsAt w.heap pb 0 [.pointer (some ⟨tb, 0, none⟩)]) (h2 : CellsAt w.heap hb 0 [.int .u64 (hk seed key : Nat)]) (h3 : CellsAt w.heap kb 0 [.string (bs key)]) (h4 : CellsAt w.heap vb 0 [(Value.int .i64) v])
    (n1 : pb ≠ hb) (n2 : pb ≠ kb) (n3 : pb ≠ vb) (n4 : pb ≠ tb) (n5 : hb ≠ kb) (n6 : hb ≠ vb) (n7 : hb ≠ tb) (n8 : kb ≠ vb) (n9 : kb ≠ tb) (n0 : vb ≠ tb) (m1 : pb ≠ gb) (m2 : hb ≠ gb) (m3 : kb ≠ gb) (m4 : vb ≠ gb) :
    Calls Tryz.prog 116 #[.pointer (some ⟨tb, 0, none⟩), .int .u64 (hk seed key : Nat), .func (.func 124) #[] #[.pointer (some ⟨pb, 0, none⟩), .pointer (some ⟨hb, 0, none⟩), .pointer (some ⟨kb, 0, none⟩), .pointer (some ⟨vb, 0, none⟩)]] w
      fun e w2 => e = .returned (.tuple #[]) ∧ E.Frame (fun b => b = tb ∨ b = gb) w.heap w2.heap ∧ outw w2 = outw w ∧ MoreI seed T tb gb key v w2.heap := by
  have hm : ∀ u, (hi (hk seed key) + u) % T.n < T.n := fun u => Nat.mod_lt _ H.ok.pos
  refine (probeI_any 124 [.pointer (some ⟨pb, 0, none⟩), .pointer (some ⟨hb, 0, none⟩), .pointer (some ⟨kb, 0, none⟩), .pointer (some ⟨vb, 0, none⟩)] tb gb T.n (hk seed key) (hk_lt _ _) H.ok.pos H.few (fun b => b = tb ∨ b = gb)
    (fun t h => TabAt (Value.int .i64) h tb gb seed T ∧ CellsAt h pb 0 [.pointer (some ⟨tb, 0, none⟩)] ∧ CellsAt h hb 0 [.int .u64 (hk seed key : Nat)] ∧ CellsAt h kb 0 [.string (bs key)] ∧ CellsAt h vb 0 [(Value.int .i64) v] ∧ ∀ u, u < t → ∀ i, i < 8 → T.by_ (8 * ((hi (hk seed key) + u) % T.n) + i) < 128)
    (fun t h => InsRI seed T tb gb ((hi (hk seed key) + t) % T.n) key v true h ∧ ∀ u, u < t → ∀ i, i < 8 → T.by_ (8 * ((hi (hk seed key) + u) % T.n) + i) < 128) w (by kernel_rfl)
    ⟨H, h1, h2, h3, h4, fun u hu => absurd hu (by omega)⟩ (fun t h hI => hI.1.hd.get (j := 1) rfl) ?_).mono ?_
  · rintro t ht w1 hf0 ⟨H1, a1, a2, a3, a4, a5⟩
    refine (ins1I_any seed T tb gb _ pb hb kb vb key v w1 (hm t) H1 a1 a2 a3 a4 n1 n2 n3 n4 n5 n6 n7 n8 n9 n0 m1 m2 m3 m4).mono ?_
    rintro e w2 ⟨ho, hf, b, rfl, hR⟩
    refine ⟨ho, hf, b, rfl, fun hb => by subst hb; exact ⟨hR, a5⟩, fun hb => ?_⟩
    rcases hR with ⟨h, _⟩ | ⟨_, r1, r2⟩
    · exact absurd h hb
    · refine ⟨r1, hf.cellsAt a1 (by rintro (e | e) <;> omega), hf.cellsAt a2 (by rintro (e | e) <;> omega), hf.cellsAt a3 (by rintro (e | e) <;> omega), hf.cellsAt a4 (by rintro (e | e) <;> omega), fun u hu => ?_⟩
      by_cases h : u < t
      · exact a5 u h
      · obtain rfl : u = t := by omega
        exact r2
  · rintro e w2 ⟨rfl, hf, ho, hq⟩
    refine ⟨rfl, hf, ho, ?_⟩
    rcases hq with ⟨_, _, _, a3, a4, a5⟩ | ⟨t, ht, hR, a5⟩
    · obtain ⟨j, hj, hb⟩ := T.free hroom
      obtain ⟨u, hu, e⟩ := cover (hi (hk seed key)) (show j / 8 < T.n by omega)
      have := a5 u hu (j % 8) (by omega)
      rw [e, show 8 * (j / 8) + j % 8 = j by omega] at this
      omega
    · exact moreI seed T tb gb t key v w2.heap w.heap H hno hkl ht hR a5
theorem insertI_any (seed : Int) (T : Tb Int) (tb gb : Nat) (key : Key) (v : Int) (w : World) (H : TabAt (Value.int .i64) w.heap tb gb seed T) (hno : ∀ x ∈ T.full, x.1 ≠ key) (hs : key.length ≤ 9223372036854775807) (hroom : T.full.length < 8 * T.n) :
    Calls Tryz.prog 94 #[.pointer (some ⟨tb, 0, none⟩), .string (bs key), (Value.int .i64) v] w fun e w' => e = .returned (.tuple #[]) ∧ E.Frame (fun b => b = tb ∨ b = gb) w.heap w'.heap ∧ outw w' = outw w ∧ MoreI seed T tb gb key v w'.heap := by
  refine begins (k94 {}) [.ptr (.at (.v 0) (.c 0)), .str (.v 0), .int .i64 (.v 9)] [(.v 0, .c 0, [.int .u64 (.v 0), .slice (.at (.v 1) (.c 0)) (.v 2) (.v 2), .int .i64 (.ofN (.v 3)), .int .i64 (.ofN (.v 4))])]
    { n := fun j => if j = 0 then tb else if j = 1 then gb else if j = 2 then T.n else if j = 3 then T.full.length else T.dels, i := fun j => if j = 9 then v else seed, p := fun _ => none, s := fun _ => key, h := fun _ => w.heap, o := outw w } 10 1000 rfl rfl rfl
    ⟨by simpa [NE.den, SV.den, IE.den, PE.den] using H.hd, trivial, trivial⟩ (by simp [SV.den, SE.den, NE.den, PE.den, IE.den]) ?_
  conv => arg 7; reduce
  simp only [VC.den, IE.den, NE.den, SE.den, SV.den, HE.den, PE.den, WS.den, WI.den, noneIn, List.map_cons, List.map_nil, Int.cast_ofNat_Int, reduceIte, Nat.reduceEqDiff, Env.setE, Env.setH, Env.setI, Env.setN, Env.setW]
  have htl := H.tl
  have hgl := H.gl
  refine ⟨?_, ?_⟩
  · intro w1 hw1 ho1
    have x0 := (((Ext.refl w.heap).push (.cells #[.pointer (some ⟨tb, 0, none⟩)] 96)).push (.cells #[.string (bs key)] 9)).push (.cells #[(Value.int .i64) v] 2)
    refine (Of_any seed key w1 hs).mono ?_
    rintro e1 v1 ⟨rfl, hx1, hp1⟩
    rw [hw1] at hx1
    rw [hk_cast]
    have hz1 := hx1.le
    simp only [Array.size_push] at hz1
    refine ⟨hp1.trans ho1, hx1, _, rfl, fun c1 c2 c3 c4 c5 w2 hw2 ho2 => ?_⟩
    have x2 := ((x0.trans hx1).push (.cells #[.int .u64 0] 22)).set (b := v1.heap.size) (by omega) 0 (.int .u64 (hk seed key : Nat))
    refine (iprobeI seed T tb gb w.heap.size v1.heap.size (w.heap.push (.cells #[.pointer (some ⟨tb, 0, none⟩)] 96)).size ((w.heap.push (.cells #[.pointer (some ⟨tb, 0, none⟩)] 96)).push (.cells #[.string (bs key)] 9)).size key v w2 (by rw [hw2]; exact H.ext x2) hno hs hroom (by rw [hw2]; exact c4) (by rw [hw2]; exact c1) (by rw [hw2]; exact c3) (by rw [hw2]; exact c2) (by first | omega | (simp only [Array.size_push]; omega)) (by first | omega | (simp only [Array.size_push]; omega)) (by first | omega | (simp only [Array.size_push]; omega)) (by first | omega | (simp only [Array.size_push]; omega)) (by first | omega | (simp only [Array.size_push]; omega)) (by first | omega | (simp only [Array.size_push]; omega)) (by first | omega | (simp only [Array.size_push]; omega)) (by first | omega | (simp only [Array.size_push]; omega)) (by first | omega | (simp only [Array.size_push]; omega)) (by first | omega | (simp only [Array.size_push]; omega)) (by first | omega | (simp only [Array.size_push]; omega)) (by first | omega | (simp only [Array.size_push]; omega)) (by first | omega | (simp only [Array.size_push]; omega)) (by first | omega | (simp only [Array.size_push]; omega))).mono ?_
    rintro e3 v3 ⟨rfl, hf3, hp3, hM⟩
    rw [hw2] at hf3
    refine ⟨hp3.trans ho2, _, hf3, trivial, rfl, fun _ w4 hw4 ho4 => ⟨trivial, ?_, ho4, by rw [hw4]; exact hM⟩⟩
    rw [hw4]
    exact (x2.frame (fun _ => False)).trans hf3 (fun _ h => h.elim) (fun _ _ h => h)
  · intro w1 hw1 ho1
    have x0 := (((Ext.refl w.heap).push (.cells #[.pointer (some ⟨tb, 0, none⟩)] 96)).push (.cells #[.string (bs key)] 9)).push (.cells #[(Value.int .i64) v] 2)
    refine (Of_any seed key w1 hs).mono ?_
    rintro e1 v1 ⟨rfl, hx1, hp1⟩
    rw [hw1] at hx1
    rw [hk_cast]
    have hz1 := hx1.le
    simp only [Array.size_push] at hz1
    refine ⟨hp1.trans ho1, hx1, _, rfl, fun c1 c2 c3 c4 c5 w2 hw2 ho2 => ?_⟩
    have x2 := ((x0.push (.cells #[.int .u64 0] 22)).trans hx1).set (b := (((w.heap.push (.cells #[.pointer (some ⟨tb, 0, none⟩)] 96)).push (.cells #[.string (bs key)] 9)).push (.cells #[(Value.int .i64) v] 2)).size) (by first | omega | (simp only [Array.size_push]; omega)) 0 (.int .u64 (hk seed key : Nat))
    refine (iprobeI seed T tb gb w.heap.size (((w.heap.push (.cells #[.pointer (some ⟨tb, 0, none⟩)] 96)).push (.cells #[.string (bs key)] 9)).push (.cells #[(Value.int .i64) v] 2)).size (w.heap.push (.cells #[.pointer (some ⟨tb, 0, none⟩)] 96)).size ((w.heap.push (.cells #[.pointer (some ⟨tb, 0, none⟩)] 96)).push (.cells #[.string (bs key)] 9)).size key v w2 (by rw [hw2]; exact H.ext x2) hno hs hroom (by rw [hw2]; exact c4) (by rw [hw2]; exact c1) (by rw [hw2]; exact c3) (by rw [hw2]; exact c2) (by first | omega | (simp only [Array.size_push]; omega)) (by first | omega | (simp only [Array.size_push]; omega)) (by first | omega | (simp only [Array.size_push]; omega)) (by first | omega | (simp only [Array.size_push]; omega)) (by first | omega | (simp only [Array.size_push]; omega)) (by first | omega | (simp only [Array.size_push]; omega)) (by first | omega | (simp only [Array.size_push]; omega)) (by first | omega | (simp only [Array.size_push]; omega)) (by first | omega | (simp only [Array.size_push]; omega)) (by first | omega | (simp only [Array.size_push]; omega)) (by first | omega | (simp only [Array.size_push]; omega)) (by first | omega | (simp only [Array.size_push]; omega)) (by first | omega | (simp only [Array.size_push]; omega)) (by first | omega | (simp only [Array.size_push]; omega))).mono ?_
    rintro e3 v3 ⟨rfl, hf3, hp3, hM⟩
    rw [hw2] at hf3
    refine ⟨hp3.trans ho2, _, hf3, trivial, rfl, fun _ w4 hw4 ho4 => ⟨trivial, ?_, ho4, by rw [hw4]; exact hM⟩⟩
    rw [hw4]
    exact (x2.frame (fun _ => False)).trans hf3 (fun _ h => h.elim) (fun _ _ h => h)
end Go.Proofs.YtkcjhabbgaaknaaGreat
/- All keys of some groups are put into a table (I). -/
namespace Go.Proofs.YtkcjhabbgaaknaaGreat
open E
set_option maxRecDepth 100000
set_option maxHeartbeats 4000000 in
theorem eachII_any (seed : Int) (To T0 : Tb Int) (tb gb go : Nat) (w : World) (hG : GrpAt (Value.int .i64) w.heap go To) (hTn : To.n ≤ 30) (hgo : go < w.heap.size) (hne : go ≠ tb) (hne2 : go ≠ gb) (hu : (To.full.map (·.1)).Nodup) (hkl : ∀ x ∈ To.full, x.1.length ≤ 9223372036854775807)
    (H : TabAt (Value.int .i64) w.heap tb gb seed T0) (h0 : T0.full = []) (hroom : To.full.length < 8 * T0.n) :
    Calls Tryz.prog 123 #[.slice (some ⟨go, 0, none⟩) To.n To.n, .func (.func 94) #[.pointer (some ⟨tb, 0, none⟩)] #[]] w fun e w' => e = .returned (.tuple #[]) ∧ E.Frame (fun b => b = tb ∨ b = gb) w.heap w'.heap ∧ outw w' = outw w ∧
      ∃ T' : Tb Int, TabAt (Value.int .i64) w'.heap tb gb seed T' ∧ T'.n = T0.n ∧ T'.full.Perm To.full := by
  refine begins (k123 {}) [.slice (.at (.v 0) (.c 0)) (.v 1) (.v 1), .fn (.func 94) [.ptr (.at (.v 2) (.c 0))] []] [] { n := fun j => if j = 0 then go else if j = 1 then To.n else tb, h := fun _ => w.heap, o := outw w } 3 1000 rfl rfl rfl trivial (by simp [SV.den, NE.den, PE.den]) ?_
  conv => arg 7; reduce
  simp only [VC.den, IE.den, NE.den, SV.den, HE.den, PE.den, WS.den, List.map_cons, List.map_nil, Int.cast_ofNat_Int, reduceIte, Nat.reduceEqDiff]
  intro _
  refine looping (k123 {}) [.slice (.at (.v 0) (.c 0)) (.v 1) (.v 1), .fn (.func 94) [.ptr (.at (.v 2) (.c 0))] [], .int .i64 (.ofN (.v 1)), .int .i64 (.ofN (.v 3))] []
    (fun y : Nat × Tb Int × Heap => { n := fun j => if j = 0 then go else if j = 1 then To.n else if j = 2 then tb else y.1, h := fun _ => y.2.2, o := outw w }) 4 1000
    (fun y => y.1 ≤ To.n ∧ E.Frame (fun b => b = tb ∨ b = gb) w.heap y.2.2 ∧ TabAt (Value.int .i64) y.2.2 tb gb seed y.2.1 ∧ y.2.1.n = T0.n ∧ y.2.1.full.Perm (at_ To.cell (8 * y.1))) (fun y => To.n - y.1) (0, T0, w.heap)
    ⟨Nat.zero_le _, E.Frame.refl _ _, H, rfl, by rw [h0]; exact List.Perm.refl _⟩ rfl (by simp [SV.den, NE.den, PE.den, IE.den]) rfl (fun _ => rfl) (fun _ _ => trivial) ?_
  rintro ⟨g, T, h⟩ ⟨hg, hf, HT, hn, hp⟩ N hN
  simp only at hg hf HT hn hp
  simp only [SV.den, PE.den, NE.den, IE.den, List.map_cons, List.map_nil, reduceIte, Nat.reduceEqDiff] at hN
  conv => arg 7; reduce
  simp only [VC.den, BE.prop, IE.den, NE.den, SE.den, SV.den, HE.den, PE.den, WS.den, List.map_cons, List.map_nil, Int.cast_ofNat_Int, reduceIte, Nat.reduceEqDiff, Env.setS, Env.setI]
  refine ⟨fun h1 => ?_, fun h1 _ w1 hw1 ho1 => ?_⟩
  · have hlt : g < To.n := by omega
    have hGh := hG.frame hf hgo (by rintro (e | e) <;> omega)
    refine ⟨h1, _, _, _, _, _, _, _, _, _, _, _, _, _, _, _, _, hGh.k g 0 hlt (by omega), hGh.v g 0 hlt (by omega), hGh.k g 1 hlt (by omega), hGh.v g 1 hlt (by omega), hGh.k g 2 hlt (by omega), hGh.v g 2 hlt (by omega), hGh.k g 3 hlt (by omega), hGh.v g 3 hlt (by omega), hGh.k g 4 hlt (by omega), hGh.v g 4 hlt (by omega), hGh.k g 5 hlt (by omega), hGh.v g 5 hlt (by omega), hGh.k g 6 hlt (by omega), hGh.v g 6 hlt (by omega), hGh.k g 7 hlt (by omega), hGh.v g 7 hlt (by omega), fun _ => ?_⟩
    refine loopingF (k123 {}) (fun y : Nat × Tb Int × Heap => [.slice (.at (.v 0) (.c 0)) (.v 1) (.v 1), .fn (.func 94) [.ptr (.at (.v 2) (.c 0))] [], .int .i64 (.ofN (.v 3)), .int .i64 (.ofN (.v 1)), .int .i64 (.ofN (.v 3)), .agg [.str (.v 0), .int .i64 (.v 20), .str (.v 1), .int .i64 (.v 21), .str (.v 2), .int .i64 (.v 22), .str (.v 3), .int .i64 (.v 23), .str (.v 4), .int .i64 (.v 24), .str (.v 5), .int .i64 (.v 25), .str (.v 6), .int .i64 (.v 26), .str (.v 7), .int .i64 (.v 27)], .int .i64 (.c y.1)]) []
      (fun y : Nat × Tb Int × Heap => { n := fun j => if j = 0 then go else if j = 1 then To.n else if j = 2 then tb else g, s := fun m => To.k (8 * g + m), i := fun m => (To.v (8 * g + (m - 20))), p := fun m => none, h := fun _ => y.2.2, o := outw w }) 30 1000
      (fun y => y.1 ≤ 8 ∧ E.Frame (fun b => b = tb ∨ b = gb) w.heap y.2.2 ∧ TabAt (Value.int .i64) y.2.2 tb gb seed y.2.1 ∧ y.2.1.n = T0.n ∧ y.2.1.full.Perm (at_ To.cell (8 * g + y.1))) (fun y => 8 - y.1) (0, T, h)
      ⟨Nat.zero_le _, hf, HT, hn, hp⟩ (fun _ _ => rfl) (by simp [SV.den, NE.den, PE.den, IE.den, SE.den]) rfl (fun _ => rfl) (fun _ _ => trivial) ?_
    rintro ⟨j, T1, h'⟩ ⟨hj, hf1, HT1, hn1, hp1⟩ N1 hN1
    simp only at hj hf1 HT1 hn1 hp1
    have hnF : ¬ (go = tb ∨ go = gb) := by rintro (e | e) <;> omega
    have hgo' : go < h'.size := Nat.lt_of_lt_of_le hgo hf1.le
    have htl := HT1.tl
    have hgl := HT1.gl
    obtain rfl | rfl | rfl | rfl | rfl | rfl | rfl | rfl | rfl : j = 0 ∨ j = 1 ∨ j = 2 ∨ j = 3 ∨ j = 4 ∨ j = 5 ∨ j = 6 ∨ j = 7 ∨ j = 8 := by omega
    all_goals
      dsimp only
      dsimp only at hN1
      simp only [SV.den, SE.den, PE.den, NE.den, IE.den, List.map_cons, List.map_nil, reduceIte, Nat.reduceEqDiff] at hN1
      conv => arg 7; reduce
      simp only [VC.den, BE.prop, IE.den, NE.den, SE.den, SV.den, HE.den, PE.den, WS.den, WI.den, noneIn, List.map_cons, List.map_nil, Int.cast_ofNat_Int, reduceIte, Nat.reduceEqDiff, Env.setE, Env.setH, Env.setI, Env.setN, Env.setW, inK_i64]
    · have x0 := (((Ext.refl h').push (.cells #[.string (bs (bytesOf [])), (Value.int .i64) (0 : Int)] 162)).set (Nat.le_refl _) 0 (.string (bs (To.k (8 * g + 0))))).set (Nat.le_refl _) 1 ((Value.int .i64) (To.v (8 * g + 0)))
      have hw0 := (hG.frame hf1 hgo hnF).ext x0 hgo'
      refine ⟨h1, _, hw0.w g hlt, ?_⟩
      intro w1 hw1 ho1
      refine (At_any (To.w g) 0 (by omega) w1).mono ?_
      rintro e1 v1 ⟨rfl, hx1, hp1'⟩
      rw [hw1] at hx1
      rw [← To.by_at g (show 0 < 8 by omega)]
      have hX := x0.trans hx1
      refine ⟨hp1'.trans ho1, hx1, _, rfl, fun hb => ?_, fun hb _ => ?_⟩
      · obtain ⟨s1, s2, s3, s4⟩ := each_step To (m := 8 * g + 0) (by omega) hu hkl (N := 8 * T1.n) (by rw [hn1]; exact hroom) (by omega) hp1
        intro w2 hw2 ho2
        refine (insertI_any seed T1 tb gb (To.k (8 * g + 0)) (To.v (8 * g + 0)) w2 (by rw [hw2]; exact HT1.ext hX) s1 s2 s3).mono ?_
        rintro e2 v2 ⟨rfl, hf2, hp2, T2, HT2, hn2, hpp⟩
        rw [hw2] at hf2
        refine ⟨hp2.trans ho2, _, hf2, ⟨by rintro (e | e) <;> omega, trivial⟩, rfl, fun _ => ?_⟩
        exact hN1 (1, T2, v2.heap) ⟨by simp only; omega, (hf1.trans (hX.frame (fun _ => False)) (fun _ h => h) (fun _ _ h => h.elim)).trans hf2 (fun _ h => h) (fun _ _ h => h), HT2, hn2.trans hn1, s4 _ hpp⟩ (by simp only; omega)
      · exact hN1 (1, T1, v1.heap) ⟨by simp only; omega, hf1.trans (hX.frame (fun _ => False)) (fun _ h => h) (fun _ _ h => h.elim), HT1.ext hX, hn1, each_skip To (m := 8 * g + 0) (by omega) hp1⟩ (by simp only; omega)
    · have x0 := (((Ext.refl h').push (.cells #[.string (bs (bytesOf [])), (Value.int .i64) (0 : Int)] 162)).set (Nat.le_refl _) 0 (.string (bs (To.k (8 * g + 1))))).set (Nat.le_refl _) 1 ((Value.int .i64) (To.v (8 * g + 1)))
      have hw0 := (hG.frame hf1 hgo hnF).ext x0 hgo'
      refine ⟨h1, _, hw0.w g hlt, ?_⟩
      intro w1 hw1 ho1
      refine (At_any (To.w g) 1 (by omega) w1).mono ?_
      rintro e1 v1 ⟨rfl, hx1, hp1'⟩
      rw [hw1] at hx1
      rw [← To.by_at g (show 1 < 8 by omega)]
      have hX := x0.trans hx1
      refine ⟨hp1'.trans ho1, hx1, _, rfl, fun hb => ?_, fun hb _ => ?_⟩
      · obtain ⟨s1, s2, s3, s4⟩ := each_step To (m := 8 * g + 1) (by omega) hu hkl (N := 8 * T1.n) (by rw [hn1]; exact hroom) (by omega) hp1
        intro w2 hw2 ho2
        refine (insertI_any seed T1 tb gb (To.k (8 * g + 1)) (To.v (8 * g + 1)) w2 (by rw [hw2]; exact HT1.ext hX) s1 s2 s3).mono ?_
        rintro e2 v2 ⟨rfl, hf2, hp2, T2, HT2, hn2, hpp⟩
        rw [hw2] at hf2
        refine ⟨hp2.trans ho2, _, hf2, ⟨by rintro (e | e) <;> omega, trivial⟩, rfl, fun _ => ?_⟩
        exact hN1 (2, T2, v2.heap) ⟨by simp only; omega, (hf1.trans (hX.frame (fun _ => False)) (fun _ h => h) (fun _ _ h => h.elim)).trans hf2 (fun _ h => h) (fun _ _ h => h), HT2, hn2.trans hn1, s4 _ hpp⟩ (by simp only; omega)
      · exact hN1 (2, T1, v1.heap) ⟨by simp only; omega, hf1.trans (hX.frame (fun _ => False)) (fun _ h => h) (fun _ _ h => h.elim), HT1.ext hX, hn1, each_skip To (m := 8 * g + 1) (by omega) hp1⟩ (by simp only; omega)
    · have x0 := (((Ext.refl h').push (.cells #[.string (bs (bytesOf [])), (Value.int .i64) (0 : Int)] 162)).set (Nat.le_refl _) 0 (.string (bs (To.k (8 * g + 2))))).set (Nat.le_refl _) 1 ((Value.int .i64) (To.v (8 * g + 2)))
      have hw0 := (hG.frame hf1 hgo hnF).ext x0 hgo'
      refine ⟨h1, _, hw0.w g hlt, ?_⟩
      intro w1 hw1 ho1
      refine (At_any (To.w g) 2 (by omega) w1).mono ?_
      rintro e1 v1 ⟨rfl, hx1, hp1'⟩
      rw [hw1] at hx1
      rw [← To.by_at g (show 2 < 8 by omega)]
      have hX := x0.trans hx1
      refine ⟨hp1'.trans ho1, hx1, _, rfl, fun hb => ?_, fun hb _ => ?_⟩
      · obtain ⟨s1, s2, s3, s4⟩ := each_step To (m := 8 * g + 2) (by omega) hu hkl (N := 8 * T1.n) (by rw [hn1]; exact hroom) (by omega) hp1
        intro w2 hw2 ho2
        refine (insertI_any seed T1 tb gb (To.k (8 * g + 2)) (To.v (8 * g + 2)) w2 (by rw [hw2]; exact HT1.ext hX) s1 s2 s3).mono ?_
        rintro e2 v2 ⟨rfl, hf2, hp2, T2, HT2, hn2, hpp⟩
        rw [hw2] at hf2
        refine ⟨hp2.trans ho2, _, hf2, ⟨by rintro (e | e) <;> omega, trivial⟩, rfl, fun _ => ?_⟩
        exact hN1 (3, T2, v2.heap) ⟨by simp only; omega, (hf1.trans (hX.frame (fun _ => False)) (fun _ h => h) (fun _ _ h => h.elim)).trans hf2 (fun _ h => h) (fun _ _ h => h), HT2, hn2.trans hn1, s4 _ hpp⟩ (by simp only; omega)
      · exact hN1 (3, T1, v1.heap) ⟨by simp only; omega, hf1.trans (hX.frame (fun _ => False)) (fun _ h => h) (fun _ _ h => h.elim), HT1.ext hX, hn1, each_skip To (m := 8 * g + 2) (by omega) hp1⟩ (by simp only; omega)
    · have x0 := (((Ext.refl h').push (.cells #[.string (bs (bytesOf [])), (Value.int .i64) (0 : Int)] 162)).set (Nat.le_refl _) 0 (.string (bs (To.k (8 * g + 3))))).set (Nat.le_refl _) 1 ((Value.int .i64) (To.v (8 * g + 3)))
      have hw0 := (hG.frame hf1 hgo hnF).ext x0 hgo'
      refine ⟨h1, _, hw0.w g hlt, ?_⟩
      intro w1 hw1 ho1
      refine (At_any (To.w g) 3 (by omega) w1).mono ?_
      rintro e1 v1 ⟨rfl, hx1, hp1'⟩
      rw [hw1] at hx1
      rw [← To.by_at g (show 3 < 8 by omega)]
      have hX := x0.trans hx1
      refine ⟨hp1'.trans ho1, hx1, _, rfl, fun hb => ?_, fun hb _ => ?_⟩
      · obtain ⟨s1, s2, s3, s4⟩ := each_step To (m := 8 * g + 3) (by omega) hu hkl (N := 8 * T1.n) (by rw [hn1]; exact hroom) (by omega) hp1
        intro w2 hw2 ho2
        refine (insertI_any seed T1 tb gb (To.k (8 * g + 3)) (To.v (8 * g + 3)) w2 (by rw [hw2]; exact HT1.ext hX) s1 s2 s3).mono ?_
        rintro e2 v2 ⟨rfl, hf2, hp2, T2, HT2, hn2, hpp⟩
        rw [hw2] at hf2
        refine ⟨hp2.trans ho2, _, hf2, ⟨by rintro (e | e) <;> omega, trivial⟩, rfl, fun _ => ?_⟩
        exact hN1 (4, T2, v2.heap) ⟨by simp only; omega, (hf1.trans (hX.frame (fun _ => False)) (fun _ h => h) (fun _ _ h => h.elim)).trans hf2 (fun _ h => h) (fun _ _ h => h), HT2, hn2.trans hn1, s4 _ hpp⟩ (by simp only; omega)
      · exact hN1 (4, T1, v1.heap) ⟨by simp only; omega, hf1.trans (hX.frame (fun _ => False)) (fun _ h => h) (fun _ _ h => h.elim), HT1.ext hX, hn1, each_skip To (m := 8 * g + 3) (by omega) hp1⟩ (by simp only; omega)
    · have x0 := (((Ext.refl h').push (.cells #[.string (bs (bytesOf [])), (Value.int .i64) (0 : Int)] 162)).set (Nat.le_refl _) 0 (.string (bs (To.k (8 * g + 4))))).set (Nat.le_refl _) 1 ((Value.int .i64) (To.v (8 * g + 4)))
      have hw0 := (hG.frame hf1 hgo hnF).ext x0 hgo'
      refine ⟨h1, _, hw0.w g hlt, ?_⟩
      intro w1 hw1 ho1
      refine (At_any (To.w g) 4 (by omega) w1).mono ?_
      rintro e1 v1 ⟨rfl, hx1, hp1'⟩
      rw [hw1] at hx1
      rw [← To.by_at g (show 4 < 8 by omega)]
      have hX := x0.trans hx1
      refine ⟨hp1'.trans ho1, hx1, _, rfl, fun hb => ?_, fun hb _ => ?_⟩
      · obtain ⟨s1, s2, s3, s4⟩ := each_step To (m := 8 * g + 4) (by omega) hu hkl (N := 8 * T1.n) (by rw [hn1]; exact hroom) (by omega) hp1
        intro w2 hw2 ho2
        refine (insertI_any seed T1 tb gb (To.k (8 * g + 4)) (To.v (8 * g + 4)) w2 (by rw [hw2]; exact HT1.ext hX) s1 s2 s3).mono ?_
        rintro e2 v2 ⟨rfl, hf2, hp2, T2, HT2, hn2, hpp⟩
        rw [hw2] at hf2
        refine ⟨hp2.trans ho2, _, hf2, ⟨by rintro (e | e) <;> omega, trivial⟩, rfl, fun _ => ?_⟩
        exact hN1 (5, T2, v2.heap) ⟨by simp only; omega, (hf1.trans (hX.frame (fun _ => False)) (fun _ h => h) (fun _ _ h => h.elim)).trans hf2 (fun _ h => h) (fun _ _ h => h), HT2, hn2.trans hn1, s4 _ hpp⟩ (by simp only; omega)
      · exact hN1 (5, T1, v1.heap) ⟨by simp only; omega, hf1.trans (hX.frame (fun _ => False)) (fun _ h => h) (fun _ _ h => h.elim), HT1.ext hX, hn1, each_skip To (m := 8 * g + 4) (by omega) hp1⟩ (by simp only; omega)
    · have x0 := (((Ext.refl h').push (.cells #[.string (bs (bytesOf [])), (Value.int .i64) (0 : Int)] 162)).set (Nat.le_refl _) 0 (.string (bs (To.k (8 * g + 5))))).set (Nat.le_refl _) 1 ((Value.int .i64) (To.v (8 * g + 5)))
      have hw0 := (hG.frame hf1 hgo hnF).ext x0 hgo'
      refine ⟨h1, _, hw0.w g hlt, ?_⟩
      intro w1 hw1 ho1
      refine (At_any (To.w g) 5 (by omega) w1).mono ?_
      rintro e1 v1 ⟨rfl, hx1, hp1'⟩
      rw [hw1] at hx1
      rw [← To.by_at g (show 5 < 8 by omega)]
      have hX := x0.trans hx1
      refine ⟨hp1'.trans ho1, hx1, _, rfl, fun hb => ?_, fun hb _ => ?_⟩
      · obtain ⟨s1, s2, s3, s4⟩ := each_step To (m := 8 * g + 5) (by omega) hu hkl (N := 8 * T1.n) (by rw [hn1]; exact hroom) (by omega) hp1
        intro w2 hw2 ho2
        refine (insertI_any seed T1 tb gb (To.k (8 * g + 5)) (To.v (8 * g + 5)) w2 (by rw [hw2]; exact HT1.ext hX) s1 s2 s3).mono ?_
        rintro e2 v2 ⟨rfl, hf2, hp2, T2, HT2, hn2, hpp⟩
        rw [hw2] at hf2
        refine ⟨hp2.trans ho2, _, hf2, ⟨by rintro (e | e) <;> omega, trivial⟩, rfl, fun _ => ?_⟩
        exact hN1 (6, T2, v2.heap) ⟨by simp only; omega, (hf1.trans (hX.frame (fun _ => False)) (fun _ h => h) (fun _ _ h => h.elim)).trans hf2 (fun _ h => h) (fun _ _ h => h), HT2, hn2.trans hn1, s4 _ hpp⟩ (by simp only; omega)
      · exact hN1 (6, T1, v1.heap) ⟨by simp only; omega, hf1.trans (hX.frame (fun _ => False)) (fun _ h => h) (fun _ _ h => h.elim), HT1.ext hX, hn1, each_skip To (m := 8 * g + 5) (by omega) hp1⟩ (by simp only; omega)
    · have x0 := (((Ext.refl h').push (.cells #[.string (bs (bytesOf [])), (Value.int .i64) (0 : Int)] 162)).set (Nat.le_refl _) 0 (.string (bs (To.k (8 * g + 6))))).set (Nat.le_refl _) 1 ((Value.int .i64) (To.v (8 * g + 6)))
      have hw0 := (hG.frame hf1 hgo hnF).ext x0 hgo'
      refine ⟨h1, _, hw0.w g hlt, ?_⟩
      intro w1 hw1 ho1
      refine (At_any (To.w g) 6 (by omega) w1).mono ?_
      rintro e1 v1 ⟨rfl, hx1, hp1'⟩
      rw [hw1] at hx1
      rw [← To.by_at g (show 6 < 8 by omega)]
      have hX := x0.trans hx1
      refine ⟨hp1'.trans ho1, hx1, _, rfl, fun hb => ?_, fun hb _ => ?_⟩
      · obtain ⟨s1, s2, s3, s4⟩ := each_step To (m := 8 * g + 6) (by omega) hu hkl (N := 8 * T1.n) (by rw [hn1]; exact hroom) (by omega) hp1
        intro w2 hw2 ho2
        refine (insertI_any seed T1 tb gb (To.k (8 * g + 6)) (To.v (8 * g + 6)) w2 (by rw [hw2]; exact HT1.ext hX) s1 s2 s3).mono ?_
        rintro e2 v2 ⟨rfl, hf2, hp2, T2, HT2, hn2, hpp⟩
        rw [hw2] at hf2
        refine ⟨hp2.trans ho2, _, hf2, ⟨by rintro (e | e) <;> omega, trivial⟩, rfl, fun _ => ?_⟩
        exact hN1 (7, T2, v2.heap) ⟨by simp only; omega, (hf1.trans (hX.frame (fun _ => False)) (fun _ h => h) (fun _ _ h => h.elim)).trans hf2 (fun _ h => h) (fun _ _ h => h), HT2, hn2.trans hn1, s4 _ hpp⟩ (by simp only; omega)
      · exact hN1 (7, T1, v1.heap) ⟨by simp only; omega, hf1.trans (hX.frame (fun _ => False)) (fun _ h => h) (fun _ _ h => h.elim), HT1.ext hX, hn1, each_skip To (m := 8 * g + 6) (by omega) hp1⟩ (by simp only; omega)
    · have x0 := (((Ext.refl h').push (.cells #[.string (bs (bytesOf [])), (Value.int .i64) (0 : Int)] 162)).set (Nat.le_refl _) 0 (.string (bs (To.k (8 * g + 7))))).set (Nat.le_refl _) 1 ((Value.int .i64) (To.v (8 * g + 7)))
      have hw0 := (hG.frame hf1 hgo hnF).ext x0 hgo'
      refine ⟨h1, _, hw0.w g hlt, ?_⟩
      intro w1 hw1 ho1
      refine (At_any (To.w g) 7 (by omega) w1).mono ?_
      rintro e1 v1 ⟨rfl, hx1, hp1'⟩
      rw [hw1] at hx1
      rw [← To.by_at g (show 7 < 8 by omega)]
      have hX := x0.trans hx1
      refine ⟨hp1'.trans ho1, hx1, _, rfl, fun hb => ?_, fun hb _ => ?_⟩
      · obtain ⟨s1, s2, s3, s4⟩ := each_step To (m := 8 * g + 7) (by omega) hu hkl (N := 8 * T1.n) (by rw [hn1]; exact hroom) (by omega) hp1
        intro w2 hw2 ho2
        refine (insertI_any seed T1 tb gb (To.k (8 * g + 7)) (To.v (8 * g + 7)) w2 (by rw [hw2]; exact HT1.ext hX) s1 s2 s3).mono ?_
        rintro e2 v2 ⟨rfl, hf2, hp2, T2, HT2, hn2, hpp⟩
        rw [hw2] at hf2
        refine ⟨hp2.trans ho2, _, hf2, ⟨by rintro (e | e) <;> omega, trivial⟩, rfl, fun _ => ?_⟩
        exact hN1 (8, T2, v2.heap) ⟨by simp only; omega, (hf1.trans (hX.frame (fun _ => False)) (fun _ h => h) (fun _ _ h => h.elim)).trans hf2 (fun _ h => h) (fun _ _ h => h), HT2, hn2.trans hn1, s4 _ hpp⟩ (by simp only; omega)
      · exact hN1 (8, T1, v1.heap) ⟨by simp only; omega, hf1.trans (hX.frame (fun _ => False)) (fun _ h => h) (fun _ _ h => h.elim), HT1.ext hX, hn1, each_skip To (m := 8 * g + 7) (by omega) hp1⟩ (by simp only; omega)
    · exact ⟨by omega, fun _ => hN (g + 1, T1, h') ⟨hlt, hf1, HT1, hn1, hp1⟩ (by simp only; omega)⟩
  · obtain rfl : g = To.n := by omega
    exact ⟨trivial, by rw [hw1]; exact hf, ho1, T, by rw [hw1]; exact HT, hn, hp⟩
theorem againI_any (seed : Int) (T : Tb Int) (tb gb n : Nat) (w : World) (H : TabAt (Value.int .i64) w.heap tb gb seed T) (hn : n ≤ 30) (h0 : 0 < n) (hroom : T.full.length < 8 * n) :
    Calls Tryz.prog 93 #[.pointer (some ⟨tb, 0, none⟩), .int .i64 (n : Nat)] w fun e w' => e = .returned (.tuple #[]) ∧ E.Frame (fun b => b = tb) w.heap w'.heap ∧ outw w' = outw w ∧
      ∃ gb' T', w.heap.size ≤ gb' ∧ TabAt (Value.int .i64) w'.heap tb gb' seed T' ∧ T'.n = n ∧ T'.full.Perm T.full := by
  refine begins (k93 {}) [.ptr (.at (.v 0) (.c 0)), .int .i64 (.ofN (.v 5))] [(.v 0, .c 0, [.int .u64 (.v 0), .slice (.at (.v 1) (.c 0)) (.v 2) (.v 2), .int .i64 (.ofN (.v 3)), .int .i64 (.ofN (.v 4))])]
    { n := fun j => if j = 0 then tb else if j = 1 then gb else if j = 2 then T.n else if j = 3 then T.full.length else if j = 4 then T.dels else n, i := fun _ => seed, h := fun _ => w.heap, o := outw w } 6 1000 rfl rfl rfl
    ⟨by simpa [NE.den, SV.den, IE.den, PE.den] using H.hd, trivial, trivial⟩ (by simp [SV.den, NE.den, PE.den, IE.den]) ?_
  conv => arg 7; reduce
  simp only [VC.den, IE.den, NE.den, SV.den, HE.den, PE.den, WS.den, WI.den, noneIn, List.map_cons, List.map_nil, Int.cast_ofNat_Int, reduceIte, Nat.reduceEqDiff, Env.setE, Env.setH, Env.setN, Env.setP, Env.setW]
  have htl := H.tl
  have hgl := H.gl
  intro w1 hw1 ho1
  refine (emptyI_any n hn w1).mono ?_
  rintro e1 v1 ⟨b, rfl, hb, hx1, hG, hp1⟩
  rw [hw1] at hb hx1
  refine ⟨hp1.trans ho1, hx1, _, _, _, rfl, fun hc w2 hw2 ho2 => ?_⟩
  have hbt : tb ≠ b := by omega
  have hbg : gb ≠ b := by omega
  have H0 : TabAt (Value.int .i64) w2.heap tb b seed (Tb.new n (0 : Int)) := by
    refine ⟨?_, ?_, hbt, Tb.new_ok n _ h0, hn, fun x hx => by rw [Tb.new_full] at hx; cases hx⟩
    · rw [hw2, Tb.new_full, Tb.new_dels]; exact hc
    · rw [hw2]; exact ((hG.ne hbt).ne hbt).ne hbt
  have hGo : GrpAt (Value.int .i64) w2.heap gb T := by
    rw [hw2]; exact (((H.gr.ext hx1 hgl).ne H.ne).ne H.ne).ne H.ne
  have hz := hx1.le
  refine (eachII_any seed T (Tb.new n (0 : Int)) tb b gb w2 hGo H.few (by rw [hw2]; simp only [size_setc]; omega) (fun e => H.ne e.symm) hbg H.ok.uniq H.kl H0 (Tb.new_full n _) hroom).mono ?_
  rintro e3 v3 ⟨rfl, hf3, hp3, T', HT', hn', hpm⟩
  rw [hw2] at hf3
  refine ⟨hp3.trans ho2, _, hf3, trivial, rfl, fun hf w4 hw4 ho4 => ⟨trivial, ?_, ho4, b, T', hb, by rw [hw4]; exact HT', hn', hpm⟩⟩
  rw [hw4]
  exact hf.mono fun k hk h => by
    simp only [or_false] at h
    omega
end Go.Proofs.YtkcjhabbgaaknaaGreat
/- A key is put to a table (I). -/
namespace Go.Proofs.YtkcjhabbgaaknaaGreat
open E
set_option maxRecDepth 100000
def PutRI (l : List (Key × Int)) (key : Key) (v : Int) (l' : List (Key × Int)) : Prop := (∃ u r, l.Perm ((key, u) :: r) ∧ l'.Perm ((key, v) :: r)) ∨ ((∀ x ∈ l, x.1 ≠ key) ∧ l'.Perm ((key, v) :: l))
theorem tPutI_any (seed : Int) (T : Tb Int) (tb gb : Nat) (key : Key) (v : Int) (w : World) (H : TabAt (Value.int .i64) w.heap tb gb seed T) (hs : key.length ≤ 9223372036854775807) (hfew : (∀ x ∈ T.full, x.1 ≠ key) → T.full.length ≤ 111) :
    Calls Tryz.prog 60 #[.pointer (some ⟨tb, 0, none⟩), .string (bs key), (Value.int .i64) v] w fun e w' => e = .returned (.int .i64 0) ∧ E.Frame (fun b => b = tb ∨ b = gb) w.heap w'.heap ∧ outw w' = outw w ∧
      ∃ gb' T', (gb' = gb ∨ w.heap.size ≤ gb') ∧ TabAt (Value.int .i64) w'.heap tb gb' seed T' ∧ PutRI T.full key v T'.full := by
  refine begins (k60 {}) [.ptr (.at (.v 0) (.c 0)), .str (.v 0), .int .i64 (.v 9)] [(.v 0, .c 0, [.int .u64 (.v 0), .slice (.at (.v 1) (.c 0)) (.v 2) (.v 2), .int .i64 (.ofN (.v 3)), .int .i64 (.ofN (.v 4))])]
    { n := fun j => if j = 0 then tb else if j = 1 then gb else if j = 2 then T.n else if j = 3 then T.full.length else T.dels, i := fun j => if j = 9 then v else seed, p := fun _ => none, s := fun _ => key, h := fun _ => w.heap, o := outw w } 10 1000 rfl rfl rfl
    ⟨by simpa [NE.den, SV.den, IE.den, PE.den] using H.hd, trivial, trivial⟩ (by simp [SV.den, SE.den, NE.den, PE.den, IE.den]) ?_
  conv => arg 7; reduce
  simp only [VC.den, BE.prop, IE.den, NE.den, SE.den, SV.den, HE.den, PE.den, WS.den, WI.den, noneIn, List.map_cons, List.map_nil, Int.cast_ofNat_Int, reduceIte, Nat.reduceEqDiff, Env.setE, Env.setH, Env.setI, Env.setN, Env.setP, Env.setW, inK_i64]
  have htl := H.tl
  have hgl := H.gl
  have hT := H.few
  have hpos := H.ok.pos
  have htg := H.ne
  have hdl := T.dels_le
  have hfl := T.full_le
  intro _ w1 hw1 ho1
  refine (findI_any seed T tb gb key w1 (by rw [hw1]; exact H) hs).mono ?_
  rintro e1 v1 ⟨p, i, rfl, hF, hx1, hp1⟩
  rw [hw1] at hx1
  have H1 := H.ext hx1
  refine ⟨hp1.trans ho1, hx1, p, i, rfl, fun hp => ?_, fun hp => ?_⟩
  · rcases hF with ⟨hF, _⟩ | ⟨g, k, hg, hk, rfl, rfl, hb, he⟩
    · exact absurd hF hp
    · have hj : 8 * g + k < 8 * T.n := by omega
      rw [Int.toNat_natCast]
      refine ⟨gb, g * 17, rfl, by omega, by omega, by omega, by rw [H1.gr.v g k hg hk]; rfl, H1.gr.z _ (by omega), fun hc hf w2 hw2 ho2 => ⟨trivial, ?_, ho2, gb, T.turn (8 * g + k) v, .inl rfl, ?_, .inl ?_⟩⟩
      · rw [hw2]; exact hf.mono fun b _ h => by simp only [or_false] at h; omega
      · obtain ⟨r, r1, r2⟩ := T.turn_full v hj hb
        refine ⟨?_, ?_, htg, T.turn_ok H.ok v hj hb, hT, fun x hx => ?_⟩
        · rw [hw2, show (T.turn (8 * g + k) v).full.length = T.full.length by rw [r1.length_eq, r2.length_eq]; rfl]; exact hc
        · rw [hw2]; exact H1.gr.setV hg hk v
        · rcases List.mem_cons.1 (r2.subset hx) with rfl | hx
          · show (T.k (8 * g + k)).length ≤ _
            rw [he]; exact hs
          · exact H.kl x (r1.symm.subset (List.mem_cons_of_mem _ hx))
      · obtain ⟨r, r1, r2⟩ := T.turn_full v hj hb
        rw [he] at r1 r2
        exact ⟨_, r, r1, r2⟩
  · have hno : ∀ x ∈ T.full, x.1 ≠ key := by
      rcases hF with ⟨_, hF⟩ | ⟨_, _, _, _, hF, _⟩
      · exact hF
      · exact absurd hF (fun e => hp (by rw [e]; simp))
    have hfew := hfew hno
    refine ⟨fun h => absurd h (by omega), fun _ => ⟨by omega, fun h7 => ⟨by omega, fun _ w2 hw2 ho2 => ?_⟩, fun h7 => ?_⟩⟩
    · rw [show (2 * (T.n : Int)) = ((2 * T.n : Nat) : Int) by omega]
      refine (againI_any seed T tb gb (2 * T.n) w2 (by rw [hw2]; exact H1) (by omega) (by have := H.ok.pos; omega) (by omega)).mono ?_
      rintro e2 v2 ⟨rfl, hf2, hp2, b', T2, hb', H2, hn2, hpm⟩
      rw [hw2] at hf2 hb'
      refine ⟨hp2.trans ho2, _, hf2, trivial, rfl, fun w3 hw3 ho3 => ?_⟩
      have hno2 : ∀ x ∈ T2.full, x.1 ≠ key := fun x hx => hno x (hpm.subset hx)
      refine (insertI_any seed T2 tb b' key v w3 (by rw [hw3]; exact H2) hno2 hs (by rw [hpm.length_eq, hn2]; omega)).mono ?_
      rintro e3 v3 ⟨rfl, hf3, hp3, T3, H3, _, hpp⟩
      rw [hw3] at hf3
      refine ⟨hp3.trans ho3, _, hf3, trivial, rfl, fun hf w4 hw4 ho4 => ⟨trivial, ?_, ho4, b', T3, .inr (Nat.le_trans hx1.le hb'), by rw [hw4]; exact H3, .inr ⟨hno, hpp.trans (hpm.cons _)⟩⟩⟩
      rw [hw4]
      have hz := hx1.le
      exact hf.mono fun k hk h => by
        simp only [or_false] at h
        omega
    · refine ⟨by omega, by omega, fun h8 _ w2 hw2 ho2 => ?_, fun h8 _ w2 hw2 ho2 => ?_⟩
      · refine (againI_any seed T tb gb T.n w2 (by rw [hw2]; exact H1) (by omega) (by have := H.ok.pos; omega) (by omega)).mono ?_
        rintro e2 v2 ⟨rfl, hf2, hp2, b', T2, hb', H2, hn2, hpm⟩
        rw [hw2] at hf2 hb'
        refine ⟨hp2.trans ho2, _, hf2, trivial, rfl, fun w3 hw3 ho3 => ?_⟩
        have hno2 : ∀ x ∈ T2.full, x.1 ≠ key := fun x hx => hno x (hpm.subset hx)
        refine (insertI_any seed T2 tb b' key v w3 (by rw [hw3]; exact H2) hno2 hs (by rw [hpm.length_eq, hn2]; omega)).mono ?_
        rintro e3 v3 ⟨rfl, hf3, hp3, T3, H3, _, hpp⟩
        rw [hw3] at hf3
        refine ⟨hp3.trans ho3, _, hf3, trivial, rfl, fun hf w4 hw4 ho4 => ⟨trivial, ?_, ho4, b', T3, .inr (Nat.le_trans hx1.le hb'), by rw [hw4]; exact H3, .inr ⟨hno, hpp.trans (hpm.cons _)⟩⟩⟩
        rw [hw4]
        have hz := hx1.le
        exact hf.mono fun k hk h => by
          simp only [or_false] at h
          omega
      · refine (insertI_any seed T tb gb key v w2 (by rw [hw2]; exact H1) hno hs (by omega)).mono ?_
        rintro e3 v3 ⟨rfl, hf3, hp3, T3, H3, _, hpp⟩
        rw [hw2] at hf3
        refine ⟨hp3.trans ho2, _, hf3, trivial, rfl, fun hf w4 hw4 ho4 => ⟨trivial, ?_, ho4, gb, T3, .inl rfl, by rw [hw4]; exact H3, .inr ⟨hno, hpp⟩⟩⟩
        rw [hw4]
        exact hf.mono fun k hk h => by
          simp only [or_false] at h
          omega
end Go.Proofs.YtkcjhabbgaaknaaGreat
/- A key is taken from a table (I). -/
namespace Go.Proofs.YtkcjhabbgaaknaaGreat
open E
set_option maxRecDepth 100000
def DelRI (l : List (Key × Int)) (key : Key) (b : Bool) (l' : List (Key × Int)) : Prop := (b = true ∧ ∃ u, l.Perm ((key, u) :: l')) ∨ (b = false ∧ (∀ x ∈ l, x.1 ≠ key) ∧ l' = l)
theorem tDeleteI_any (seed : Int) (T : Tb Int) (tb gb : Nat) (key : Key) (w : World) (H : TabAt (Value.int .i64) w.heap tb gb seed T) (hs : key.length ≤ 9223372036854775807) :
    Calls Tryz.prog 58 #[.pointer (some ⟨tb, 0, none⟩), .string (bs key)] w fun e w' => ∃ b, e = .returned (.bool b) ∧ E.Frame (fun b => b = tb ∨ b = gb) w.heap w'.heap ∧ outw w' = outw w ∧
      ∃ T', TabAt (Value.int .i64) w'.heap tb gb seed T' ∧ DelRI T.full key b T'.full := by
  refine begins (k58 {}) [.ptr (.at (.v 0) (.c 0)), .str (.v 0)] [(.v 0, .c 0, [.int .u64 (.v 0), .slice (.at (.v 1) (.c 0)) (.v 2) (.v 2), .int .i64 (.ofN (.v 3)), .int .i64 (.ofN (.v 4))])]
    { n := fun j => if j = 0 then tb else if j = 1 then gb else if j = 2 then T.n else if j = 3 then T.full.length else T.dels, i := fun _ => seed, s := fun _ => key, h := fun _ => w.heap, o := outw w } 5 1000 rfl rfl rfl
    ⟨by simpa [NE.den, SV.den, IE.den, PE.den] using H.hd, trivial, trivial⟩ (by simp [SV.den, SE.den, NE.den, PE.den]) ?_
  conv => arg 7; reduce
  simp only [VC.den, BE.prop, IE.den, NE.den, SE.den, SV.den, HE.den, PE.den, BE.den, WS.den, WI.den, List.map_cons, List.map_nil, Int.cast_ofNat_Int, reduceIte, Nat.reduceEqDiff, Env.setE, Env.setH, Env.setB, Env.setI, Env.setN, Env.setP, inK_i64]
  have htl := H.tl
  have hgl := H.gl
  have hT := H.few
  have htg := H.ne
  have hdl := T.dels_le
  have hfl := T.full_le
  intro _ w1 hw1 ho1
  refine (findI_any seed T tb gb key w1 (by rw [hw1]; exact H) hs).mono ?_
  rintro e1 v1 ⟨p, i, rfl, hF, hx1, hp1⟩
  rw [hw1] at hx1
  have H1 := H.ext hx1
  refine ⟨hp1.trans ho1, hx1, p, i, rfl, fun hp hc hf w2 hw2 ho2 => ?_, fun hp => ?_⟩
  · rcases hF with ⟨_, hF⟩ | ⟨_, _, _, _, hF, _⟩
    · exact ⟨false, rfl, by rw [hw2]; exact hx1.frame _, ho2, T, by rw [hw2]; exact H1, .inr ⟨rfl, hF, rfl⟩⟩
    · rw [hF] at hp; cases hp
  · rcases hF with ⟨hF, _⟩ | ⟨g, k, hg, hk, rfl, rfl, hb, he⟩
    · exact absurd hF hp
    · have hj : 8 * g + k < 8 * T.n := by omega
      refine ⟨gb, g * 17, rfl, _, H1.gr.w g hg, ?_⟩
      intro w2 hw2 ho2
      refine (HasEmpty_any (T.w g) _).mono ?_
      rintro e2 v2 ⟨rfl, hx2, hp2⟩
      rw [hw2] at hx2
      refine ⟨hp2.trans ho2, hx2, ?_⟩
      have H2 := H1.ext hx2
      refine ⟨_, rfl, fun hE => ?_, fun hE => ⟨by omega, ?_⟩⟩
      · have hG := H2.gr
        have hdel := T.del_full (c := 128) [] (0 : Int) hj (by decide) (by decide) hb
        have hdd := T.put_dels (c := 128) [] (0 : Int) hj (by decide)
        have hlen := hdel.length_eq
        simp only [List.length_cons] at hlen
        rw [if_neg (show ¬ T.by_ (8 * g + k) = 254 by omega)] at hdd
        refine ⟨_, hG.w g hg, ?_⟩
        intro w3 hw3 ho3
        refine (Set_any (T.w g) k 128 hk (by decide) _).mono ?_
        rintro e3 v3 ⟨rfl, hx3, hp3⟩
        rw [hw3] at hx3
        refine ⟨hp3.trans ho3, hx3, ?_⟩
        have hG4 := hG.ext hx3 (get_lt (hG.w g hg))
        have hA := hG4.setW hg (putB (T.w g) k 128)
        have hB := hA.setK hg hk []
        have hD := hB.setV hg hk (0 : Int)
        have eput : T.put (8 * g + k) 128 [] (0 : Int) = { n := T.n, w := upd T.w g (putB (T.w g) k 128), k := upd T.k (8 * g + k) [], v := upd T.v (8 * g + k) (0 : Int) } := by
          unfold Tb.put; rw [show (8 * g + k) / 8 = g by omega, show (8 * g + k) % 8 = k by omega]
        rw [Int.toNat_natCast, show bytesOf [] = ([] : List UInt8) from rfl]
        refine ⟨_, rfl, by omega, by rw [hG4.w g hg]; rfl, hG4.z _ (by omega), by omega, by omega, by omega, by rw [hA.k g k hg hk]; rfl, hA.z _ (by show _ < T.n * 17; omega), by rw [hB.v g k hg hk]; rfl, hB.z _ (by show _ < T.n * 17; omega), by omega, fun ct hf w5 hw5 ho5 => ⟨true, rfl, ?_, ho5, T.put (8 * g + k) 128 [] (0 : Int), ⟨?_, ?_, htg, T.del_ok H.ok [] (0 : Int) hj hb (.inr ⟨rfl, fun h => (tight_iff T _).1 h (by rw [show (8 * g + k) / 8 = g by omega]; exact hE)⟩), hT, fun x hx => H.kl x (hdel.symm.subset (List.mem_cons_of_mem _ hx))⟩, .inl ⟨rfl, _, by rw [← he]; exact hdel⟩⟩⟩
        · rw [hw5]; exact hf.mono fun b _ h => by simp only [or_false] at h; omega
        · rw [hw5, hdd, T.put_n, show (((T.put (8 * g + k) 128 [] (0 : Int)).full.length : Nat) : Int) = (T.full.length : Int) - 1 by omega]
          simpa using ct
        · rw [hw5, eput]; exact hD.ne htg
      · have hG := H2.gr.ne (b := tb) (o := 3) (x := .int .i64 ((T.dels : Int) + 1)) htg
        have hdel := T.del_full (c := 254) [] (0 : Int) hj (by decide) (by decide) hb
        have hdd := T.put_dels (c := 254) [] (0 : Int) hj (by decide)
        have hlen := hdel.length_eq
        simp only [List.length_cons] at hlen
        rw [if_neg (show ¬ T.by_ (8 * g + k) = 254 by omega)] at hdd
        refine ⟨_, hG.w g hg, ?_⟩
        intro w3 hw3 ho3
        refine (Set_any (T.w g) k 254 hk (by decide) _).mono ?_
        rintro e3 v3 ⟨rfl, hx3, hp3⟩
        rw [hw3] at hx3
        refine ⟨hp3.trans ho3, hx3, ?_⟩
        have hG4 := hG.ext hx3 (get_lt (hG.w g hg))
        have hA := hG4.setW hg (putB (T.w g) k 254)
        have hB := hA.setK hg hk []
        have hD := hB.setV hg hk (0 : Int)
        have eput : T.put (8 * g + k) 254 [] (0 : Int) = { n := T.n, w := upd T.w g (putB (T.w g) k 254), k := upd T.k (8 * g + k) [], v := upd T.v (8 * g + k) (0 : Int) } := by
          unfold Tb.put; rw [show (8 * g + k) / 8 = g by omega, show (8 * g + k) % 8 = k by omega]
        rw [Int.toNat_natCast, show bytesOf [] = ([] : List UInt8) from rfl]
        refine ⟨_, rfl, by omega, by rw [hG4.w g hg]; rfl, hG4.z _ (by omega), by omega, by omega, by omega, by rw [hA.k g k hg hk]; rfl, hA.z _ (by show _ < T.n * 17; omega), by rw [hB.v g k hg hk]; rfl, hB.z _ (by show _ < T.n * 17; omega), by omega, fun ct hf w5 hw5 ho5 => ⟨true, rfl, ?_, ho5, T.put (8 * g + k) 254 [] (0 : Int), ⟨?_, ?_, htg, T.del_ok H.ok [] (0 : Int) hj hb (.inl rfl), hT, fun x hx => H.kl x (hdel.symm.subset (List.mem_cons_of_mem _ hx))⟩, .inl ⟨rfl, _, by rw [← he]; exact hdel⟩⟩⟩
        · rw [hw5]; exact hf.mono fun b _ h => by simp only [or_false] at h; omega
        · rw [hw5, hdd, T.put_n, show (((T.put (8 * g + k) 254 [] (0 : Int)).full.length : Nat) : Int) = (T.full.length : Int) - 1 by omega]
          simpa using ct
        · rw [hw5, eput]; exact hD.ne htg
end Go.Proofs.YtkcjhabbgaaknaaGreat
