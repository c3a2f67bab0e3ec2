import Derived.Test.YtjffhomcgpigpaaDoorB1
/- The reference's Check. -/
namespace Go.Proofs.YtjffhomcgpigpaaDoor
open E
set_option maxRecDepth 100000
abbrev q28 : List Nat := [1, 1, 1, 1]
abbrev o28 : Opts := { cuts := [q28] }
abbrev zero5 : List Value := [.string (bs (bytesOf [])), .int .i64 0, .int .i64 0, .bool false, .int .i64 0]
theorem fr_ext {w0 h h' : Heap} {cb : Nat} (hx : Ext w0 h) (hcb : w0.size ≤ cb) (hf : E.Frame (fun x => x = cb ∨ False) h h') : Ext w0 h' :=
  ((hx.frame (fun n => n = cb)).trans (H := fun n => n = cb) hf (fun _ h => h) (fun _ _ h => h.elim id (fun h => h.elim))).ext fun n hn e => by omega
theorem rret (args : List (List UInt8)) (w : World) (nm : List UInt8) (n : Int) (h h' : Heap) (cb : Nat) (hv : verdict args = (Cd.none, nm, n)) (hx : Ext w.heap h) (hcb : w.heap.size ≤ cb) (hf : E.Frame (fun x => x = cb ∨ False) h h') (w3 : World) (hw3 : w3.heap = h') (ho3 : outw w3 = outw w) :
    RetX (.tuple #[(verdict args).1.a, .string (bs (verdict args).2.1), .int .i64 (verdict args).2.2]) w.heap (outw w) (.returned (.tuple #[.agg #[.string (bs (bytesOf [])), .int .i64 0, .int .i64 0, .bool false, .int .i64 0], .string (bs nm), .int .i64 n])) w3 := by
  rw [hv]
  exact ⟨rfl, by rw [hw3]; exact fr_ext hx hcb hf, ho3⟩
theorem odd_iff (s : List UInt8) (n : Nat) : oddW s n = true ↔ (s = bytesOf [109, 115, 101, 116] ∧ (n : Int).tmod 2 = 0) ∨ (s = bytesOf [104, 115, 101, 116] ∧ (n : Int).tmod 2 = 1) := by
  have e1 : bytesOf [109, 115, 101, 116] = msetB := rfl
  have e2 : bytesOf [104, 115, 101, 116] = hsetB := rfl
  have d0 := dec01 n 2 0
  have d1 := dec01 n 2 1
  have hne : msetB ≠ hsetB := by decide
  have t2 : ((2 : Nat) : Int) = 2 := rfl
  have t0 : ((0 : Nat) : Int) = 0 := rfl
  have t1 : ((1 : Nat) : Int) = 1 := rfl
  rw [t2, t0] at d0
  rw [t2, t1] at d1
  rw [e1, e2]; unfold oddW; rw [← d0, ← d1]
  by_cases h1 : s = msetB
  · rw [if_pos h1]; subst h1; simp [hne]
  · rw [if_neg h1]
    by_cases h2 : s = hsetB
    · rw [if_pos h2]; simp [h2]
      intro h; exact absurd h (Ne.symm hne)
    · rw [if_neg h2]; simp [h1, h2]
theorem rCheck_loop (args : List (List UInt8)) (x y cap cb db : Nat) (nm : List UInt8) (c : Cd) (w : World) (h : Heap) (hn : args.length ≤ 9223372036854775807) (_hs : ∀ x ∈ args, x.length ≤ 9223372036854775807)
    (hv : verdict args = if args.any isLong = true then (Cd.none, nm, 11) else (c, nm, 0)) (hx : Ext w.heap h) (hr : StrRow h (some ⟨x, y, none⟩) args) (hcb : w.heap.size ≤ cb) (hd : cb ≠ db) (hc : CellsAt h cb 0 zero5) (hdc : CellsAt h db 0 c.v) :
    AtLoop Tryd.prog (c28 o28) Tryd.f28 (RetX (.tuple #[(verdict args).1.a, .string (bs (verdict args).2.1), .int .i64 (verdict args).2.2]) w.heap (outw w)) [0, 0, 1, 0, 1, 1, 1, 1, 1, 1, 1, 1, 1] [.blk 0, .seq [1, 1, 1, 1, 1, 1, 1, 1, 1, 1]] [.slice (some ⟨x, y, none⟩) args.length cap, .pointer (some ⟨cb, 0, none⟩), .string (bs nm), .pointer (some ⟨db, 0, none⟩), .int .i64 args.length, .int .i64 0] h (outw w) := by
  refine looping (k28 o28) [.slice (.at (.v 0) (.v 1)) (.v 2) (.v 3), .ptr (.at (.v 4) (.c 0)), .str (.v 0), .ptr (.at (.v 5) (.c 0)), .int .i64 (.ofN (.v 2)), .int .i64 (.ofN (.v 6))]
    [(.v 4, .c 0, [.str (.lit []), .int .i64 (.c 0), .int .i64 (.c 0), .bool (.c false), .int .i64 (.c 0)]), (.v 5, .c 0, [.str (.v 1), .int .i64 (.v 0), .int .i64 (.v 1), .bool (.v 0), .int .i64 (.v 2)])]
    (fun i : Nat => { n := fun j => if j = 0 then x else if j = 1 then y else if j = 2 then args.length else if j = 3 then cap else if j = 4 then cb else if j = 5 then db else i, s := fun j => if j = 0 then nm else c.name, i := fun j => if j = 0 then c.least else if j = 1 then c.most else c.group, b := fun _ => c.write, h := fun _ => h, o := outw w }) 7 1000
    (fun i => i ≤ args.length ∧ ∀ j, (hj : j < i) → (hl : j < args.length) → isLong args[j] = false) (fun i => args.length - i) 0 ⟨Nat.zero_le _, fun j hj => by simp at hj⟩ rfl (by simp [SV.den, PE.den, IE.den, NE.den, SE.den]) rfl (fun _ => rfl) (fun _ _ => ?_) ?_
  · exact ⟨by simpa [NE.den, SV.den, SE.den, IE.den, BE.den, zero5] using hc, ⟨by simpa [NE.den] using hd, trivial⟩, by simpa [NE.den, SV.den, SE.den, IE.den, BE.den, Cd.v] using hdc, trivial, trivial⟩
  · rintro i ⟨hi, hno⟩ N hN
    simp only [SV.den, SE.den, PE.den, NE.den, IE.den, List.map_cons, List.map_nil, reduceIte, Nat.reduceEqDiff] at hN
    conv => arg 7; reduce
    simp only [VC.den, BE.prop, IE.den, NE.den, SE.den, SV.den, HE.den, PE.den, BE.den, WS.den, WI.den, List.map_cons, List.map_nil, Int.cast_ofNat_Int, reduceIte, Nat.reduceEqDiff, Env.setS, inK_i64]
    refine ⟨fun h1 => ?_, fun h1 => ?_⟩
    · have hlt : i < args.length := by omega
      obtain ⟨_, _, e2, g1⟩ := hr.at hlt
      injection e2 with e2; injection e2 with e2 e3; subst e2 e3
      refine ⟨h1, _, g1, fun h2 _ _ hf w3 hw3 ho3 => ?_, fun h2 => ⟨by omega, fun _ _ _ => ?_⟩⟩
      · refine rret args w _ 11 h _ cb (hv.trans (if_pos ?_)) hx hcb hf w3 hw3 ho3
        exact List.any_eq_true.2 ⟨args[i], List.getElem_mem hlt, by unfold isLong; exact decide_eq_true (by omega)⟩
      · have := hN (i + 1) ⟨hlt, fun j hj hl => ?_⟩ (by omega)
        · exact this
        · by_cases e : j < i
          · exact hno j e hl
          · have : j = i := by omega
            subst this
            unfold isLong; exact decide_eq_false (by omega)
    · have e : verdict args = (c, nm, 0) := hv.trans (if_neg fun h => by
        obtain ⟨s, hm, hl⟩ := List.any_eq_true.1 h
        obtain ⟨j, hj, rfl⟩ := List.getElem_of_mem hm
        rw [hno j (by omega) hj] at hl; cases hl)
      intro _ _ hf w3 hw3 ho3
      rw [e]
      exact ⟨rfl, by rw [hw3]; exact fr_ext hx hcb hf, ho3⟩
theorem rCheck_cut (args : List (List UInt8)) (a : List UInt8) (x y cap cb : Nat) (w : World) (h : Heap) (ha : args[0]? = some a) (hn : args.length ≤ 9223372036854775807) (hs : ∀ x ∈ args, x.length ≤ 9223372036854775807)
    (hx : Ext w.heap h) (hr : StrRow h (some ⟨x, y, none⟩) args) (hcb : w.heap.size ≤ cb) (hc : CellsAt h cb 0 zero5) :
    AtCut Tryd.prog (c28 o28) Tryd.f28 (RetX (.tuple #[(verdict args).1.a, .string (bs (verdict args).2.1), .int .i64 (verdict args).2.2]) w.heap (outw w)) q28 [] [.slice (some ⟨x, y, none⟩) args.length cap, .pointer (some ⟨cb, 0, none⟩), .string (bs (a.take 64))] h (outw w) := by
  refine cutting (k28 o28) [.slice (.at (.v 0) (.v 1)) (.v 2) (.v 3), .ptr (.at (.v 4) (.c 0)), .str (.v 0)] [(.v 4, .c 0, [.str (.lit []), .int .i64 (.c 0), .int .i64 (.c 0), .bool (.c false), .int .i64 (.c 0)])]
    { n := fun j => if j = 0 then x else if j = 1 then y else if j = 2 then args.length else if j = 3 then cap else cb, s := fun _ => a.take 64, h := fun _ => h, o := outw w } 5 1000
    rfl (by simp [SV.den, PE.den, NE.den, SE.den]) rfl rfl ⟨by simpa [NE.den, SV.den, SE.den, IE.den, BE.den, Cd.v, zero5] using hc, trivial, trivial⟩ ?_
  conv => arg 7; reduce
  simp only [VC.den, BE.prop, IE.den, NE.den, SE.den, SV.den, HE.den, PE.den, BE.den, WS.den, WI.den, List.map_cons, List.map_nil, Int.cast_ofNat_Int, reduceIte, Nat.reduceEqDiff, Env.setE, Env.setH, Env.setB, Env.setS, Env.setI, Env.setN]
  obtain ⟨h0, he⟩ := List.getElem?_eq_some_iff.1 ha
  have hal : a.length ≤ 9223372036854775807 := hs a (by rw [← he]; exact List.getElem_mem h0)
  intro w1 hw1 ho1
  refine (rLower_any (a.take 64) _ (by simp; omega)).mono ?_
  rintro e1 v1 ⟨rfl, hx1, hp1⟩
  rw [hw1] at hx1
  refine ⟨hp1.trans ho1, hx1, ?_⟩
  obtain ⟨_, _, e2, g1⟩ := (hr.ext hx1).at (i := 0) h0
  injection e2 with e2; injection e2 with e2 e3; subst e2 e3
  rw [he] at g1
  refine ⟨_, rfl, by omega, _, g1, ?_⟩
  intro w2 hw2 ho2
  refine (rLookup_any a _ hal).mono ?_
  rintro e2 v2 ⟨rfl, hx2, hp2⟩
  rw [hw2] at hx2
  refine ⟨hp2.trans ho2, hx2, ?_⟩
  have xx := hx.trans (hx1.trans hx2)
  have v3 : (look a).2 = false → verdict args = (Cd.none, lower (a.take 64), 3) := by
    obtain ⟨a', rest, rfl⟩ : ∃ a r, args = a :: r := List.exists_cons_of_ne_nil (fun e => by rw [e] at h0; exact absurd h0 (by simp))
    injection ha with ha; subst ha
    intro h; unfold verdict; simp only; rw [if_pos h]
  have vx : ¬ (look a).2 = false → ¬ (args.length : Int) < (look a).1.least → ¬ (look a).1.most < (args.length : Int) → ¬ oddW (look a).1.name args.length = true → verdict args = if args.any isLong = true then (Cd.none, lower (a.take 64), 11) else ((look a).1, lower (a.take 64), 0) := by
    obtain ⟨a', rest, rfl⟩ : ∃ a r, args = a :: r := List.exists_cons_of_ne_nil (fun e => by rw [e] at h0; exact absurd h0 (by simp))
    injection ha with ha; subst ha
    intro h1 h2 h3 h4
    unfold verdict; simp only; rw [if_neg h1, if_neg (fun h => h.elim h2 fun h => h.elim h3 h4)]
  have v2' : ¬ (look a).2 = false → ((args.length : Int) < (look a).1.least ∨ (look a).1.most < (args.length : Int) ∨ oddW (look a).1.name args.length = true) → verdict args = (Cd.none, lower (a.take 64), 2) := by
    obtain ⟨a', rest, rfl⟩ : ∃ a r, args = a :: r := List.exists_cons_of_ne_nil (fun e => by rw [e] at h0; exact absurd h0 (by simp))
    injection ha with ha; subst ha
    intro h1 h2
    unfold verdict; simp only; rw [if_neg h1, if_pos h2]
  have hcb' : w.heap.size ≤ cb := hcb
  refine ⟨_, _, _, _, _, _, rfl, fun h2 hc' hf w3 hw3 ho3 => ?_, fun h2 => ⟨fun h3 hc' hf w3 hw3 ho3 => ?_, fun h3 => ⟨fun h4 hc' hf w3 hw3 ho3 => ?_, fun h4 => ⟨fun h5 hc' hf w3 hw3 ho3 => ?_, fun h5 => ⟨fun h6 hc' hf w3 hw3 ho3 => ?_, fun h6 hd' hc' hf => ?_⟩⟩⟩⟩⟩
  · exact rret args w _ 3 h _ cb (v3 (by simpa using h2)) hx hcb hf w3 hw3 ho3
  · exact rret args w _ 2 h _ cb (v2' (by simpa using h2) (.inl h3)) hx hcb hf w3 hw3 ho3
  · exact rret args w _ 2 h _ cb (v2' (by simpa using h2) (.inr (.inl h4))) hx hcb hf w3 hw3 ho3
  · exact rret args w _ 2 h _ cb (v2' (by simpa using h2) (.inr (.inr ((odd_iff _ _).2 (.inl h5))))) hx hcb hf w3 hw3 ho3
  · exact rret args w _ 2 h _ cb (v2' (by simpa using h2) (.inr (.inr ((odd_iff _ _).2 (.inr h6))))) hx hcb hf w3 hw3 ho3
  · have hod : ¬ oddW (look a).1.name args.length = true := fun h => ((odd_iff _ _).1 h).elim h5 h6
    refine rCheck_loop args x y cap cb v2.heap.size _ (look a).1 w _ hn hs (vx (by simpa using h2) h3 h4 hod) ?_ ?_ hcb ?_ hc' hd'
    · exact hx.trans hf.none
    · exact hr.ext hf.none
    · have := hc.1; have := (hx1.trans hx2).le; omega
theorem rCheck_any (args : List (List UInt8)) (p : Option Addr) (cap : Nat) (w : World) (hr : StrRow w.heap p args) (hn : args.length ≤ 9223372036854775807) (hs : ∀ x ∈ args, x.length ≤ 9223372036854775807) :
    Calls Tryd.prog 28 #[.slice p args.length cap] w (RetX (.tuple #[(verdict args).1.a, .string (bs (verdict args).2.1), .int .i64 (verdict args).2.2]) w.heap (outw w)) := by
  refine begins (k28 o28) [.slice (.v 0) (.v 0) (.v 1)] [] { p := fun _ => p, n := fun j => if j = 0 then args.length else cap, h := fun _ => w.heap, o := outw w } 2 1000 rfl rfl rfl trivial (by simp [SV.den, PE.den, NE.den]) ?_
  conv => arg 7; reduce
  simp only [VC.den, BE.prop, IE.den, NE.den, SE.den, SV.den, HE.den, PE.den, BE.den, WS.den, List.map_cons, List.map_nil, Int.cast_ofNat_Int, reduceIte, Nat.reduceEqDiff, Env.setS, Env.setN]
  refine ⟨fun h1 => ?_, fun h1 => ?_⟩
  · have : args = [] := List.length_eq_zero_iff.1 (by omega)
    subst this
    exact (fun hf wr hwr hor => ⟨rfl, by rw [hwr]; exact hf.none, hor⟩)
  · obtain ⟨a, rest, rfl⟩ : ∃ a r, args = a :: r := List.exists_cons_of_ne_nil (fun e => h1 (by rw [e]; rfl))
    have ha : a.length ≤ 9223372036854775807 := hs a (by simp)
    have hr0 := StrRow.ext hr (ext_push w.heap (.cells #[.string (bs (bytesOf [])), .int .i64 0, .int .i64 0, .bool false, .int .i64 0] 32))
    obtain ⟨x, y, rfl, g0⟩ := hr0.at (i := 0) (by simp)
    have e0 : (a :: rest)[0] = a := rfl
    rw [e0] at g0
    have len0 : (0 : Int) < ((a :: rest).length : Int) := by simp only [List.length_cons]; omega
    refine ⟨x, y, rfl, len0, _, g0, ?_⟩
    have key : ∀ h', w.heap.push (.cells #[.string (bs (bytesOf [])), .int .i64 0, .int .i64 0, .bool false, .int .i64 0] 32) = h' → CellsAt h' w.heap.size 0 zero5 → AtCut Tryd.prog (c28 o28) Tryd.f28 (RetX (.tuple #[(verdict (a :: rest)).1.a, .string (bs (verdict (a :: rest)).2.1), .int .i64 (verdict (a :: rest)).2.2]) w.heap (outw w)) q28 [] [.slice (some ⟨x, y, none⟩) (a :: rest).length cap, .pointer (some ⟨w.heap.size, 0, none⟩), .string (bs (a.take 64))] h' (outw w) := fun h' e hc => by
      subst e
      exact rCheck_cut (a :: rest) a x y cap w.heap.size w _ rfl hn hs (ext_push _ _) hr0 (Nat.le_refl _) hc
    refine ⟨fun h2 => ⟨by omega, fun hc _ => key _ rfl hc⟩, fun h2 hc _ => ?_⟩
    have e : a.take 64 = a := List.take_of_length_le (by omega)
    rw [e] at key
    exact key _ rfl hc
end Go.Proofs.YtjffhomcgpigpaaDoor
