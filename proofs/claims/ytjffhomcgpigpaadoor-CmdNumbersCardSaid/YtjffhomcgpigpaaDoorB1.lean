import Derived.Test.YtjffhomcgpigpaaDoorB0
/- Check, the program's and the reference's. -/
namespace Go.Proofs.YtjffhomcgpigpaaDoor
open E
set_option maxRecDepth 100000
def isLong (s : List UInt8) : Bool := decide (4096 < s.length)
def verdict (args : List (List UInt8)) : Cd × List UInt8 × Int :=
  match args with
  | [] => (Cd.none, [], 3)
  | a :: _ =>
    if (look a).2 = false then (Cd.none, lower (a.take 64), 3)
    else if (args.length : Int) < (look a).1.least ∨ (look a).1.most < args.length ∨ oddW (look a).1.name args.length = true then (Cd.none, lower (a.take 64), 2)
    else if args.any isLong = true then (Cd.none, lower (a.take 64), 11)
    else ((look a).1, lower (a.take 64), 0)
theorem New_at (s : List UInt8) (n : Int) (hn : n ≠ 0) (w : World) :
    Calls Tryd.prog 29 #[.string (bs s), .int .i64 n] w fun e w' => ∃ b, e = .returned (.iface 70 (.pointer (some ⟨b, 0, none⟩))) ∧ w.heap.size ≤ b ∧ CellsAt w'.heap b 0 [.string (bs s), .iface 46 (.int .i64 n)] ∧ Ext w.heap w'.heap ∧ outw w' = outw w := by
  refine begins (k29 {}) [.str (.v 0), .int .i64 (.v 0)] [] { s := fun _ => s, i := fun _ => n, h := fun _ => w.heap, o := outw w } 1 1000 rfl rfl rfl trivial (by simp [SV.den, SE.den, IE.den]) ?_
  conv => arg 7; reduce
  simp only [VC.den, BE.prop, IE.den, NE.den, SE.den, SV.den, HE.den, PE.den, WS.den, List.map_cons, List.map_nil, Int.cast_ofNat_Int, reduceIte, Env.setN]
  refine ⟨fun h => absurd h hn, fun _ hf w1 hw1 ho1 => ⟨_, rfl, Nat.le_refl _, ?_, by rw [hw1]; exact hf.none, ho1⟩⟩
  rw [hw1]
  exact CellsAt.made w.heap [.string (bs s), .iface 46 (.int .i64 n)] 73
abbrev zeroed (h : Heap) (b : Nat) : Heap := setc (setc (setc (setc (setc h b 0 (.string (bs (bytesOf [])))) b 1 (.int .i64 0)) b 2 (.int .i64 0)) b 3 (.bool false)) b 4 (.int .i64 0)
theorem cells_zeroed {h : Heap} {b b' : Nat} {vs : List Value} (H : CellsAt h b 0 vs) (hne : b' ≠ b) : CellsAt (zeroed h b') b 0 vs :=
  ((((H.ne hne _ _).ne hne _ _).ne hne _ _).ne hne _ _).ne hne _ _
theorem flt (args : List (List UInt8)) (w w1 : World) (n : Int) (nm : List UInt8) (hv : verdict args = (Cd.none, nm, n)) (hn : n ≠ 0) (h : Heap) (hb : w.heap.size < h.size) (hw1 : w1.heap = h) (ho1 : outw w1 = outw w) :
    Calls Tryd.prog 29 #[.string (bs nm), .int .i64 n] w1 fun e w' => outw w' = outw w ∧ Ext h w'.heap ∧ ∃ x, e = .returned (ifcVal x) ∧ (E.Frame (fun _ => False) w.heap (zeroed w'.heap w.heap.size) → ∀ w2 : World, w2.heap = zeroed w'.heap w.heap.size → outw w2 = outw w →
      ∃ v, Ending.returned (.tuple #[.agg #[.string (bs (bytesOf [])), .int .i64 0, .int .i64 0, .bool false, .int .i64 0], ifcVal x]) = .returned (.tuple #[(verdict args).1.a, v]) ∧ ((verdict args).2.2 = 0 ∧ v = .nilIface ∨ (verdict args).2.2 ≠ 0 ∧ IsFault w2.heap v (verdict args).2.1 (verdict args).2.2) ∧ Ext w.heap w2.heap ∧ outw w2 = outw w) := by
  refine (New_at nm n hn _).mono ?_
  rintro e1 v1 ⟨b, rfl, hb1, hc, hx1, hp1⟩
  rw [hw1] at hx1 hb1
  refine ⟨hp1.trans ho1, hx1, some (70, _), rfl, fun hf wr hwr hor => ?_⟩
  rw [hv]
  refine ⟨_, rfl, .inr ⟨hn, b, rfl, ?_⟩, by rw [hwr]; exact hf.none, hor⟩
  rw [hwr]; exact cells_zeroed hc (by omega)
theorem Check_any (args : List (List UInt8)) (p : Option Addr) (cap : Nat) (w : World) (hr : StrRow w.heap p args) (hn : args.length ≤ 9223372036854775807) (hs : ∀ x ∈ args, x.length ≤ 9223372036854775807) :
    Calls Tryd.prog 16 #[.slice p args.length cap] w fun e w' => ∃ v, e = .returned (.tuple #[(verdict args).1.a, v]) ∧ ((verdict args).2.2 = 0 ∧ v = .nilIface ∨ (verdict args).2.2 ≠ 0 ∧ IsFault w'.heap v (verdict args).2.1 (verdict args).2.2) ∧ Ext w.heap w'.heap ∧ outw w' = outw w := by
  refine begins (k16 {}) [.slice (.v 0) (.v 0) (.v 1)] [] { p := fun _ => p, n := fun j => if j = 0 then args.length else cap, h := fun _ => w.heap, o := outw w } 2 1000 rfl rfl rfl trivial (by simp [SV.den, PE.den, NE.den]) ?_
  conv => arg 7; reduce
  simp only [VC.den, BE.prop, IE.den, NE.den, SE.den, SV.den, HE.den, PE.den, BE.den, WS.den, List.map_cons, List.map_nil, Int.cast_ofNat_Int, reduceIte, Nat.reduceEqDiff, Env.setE, Env.setH, Env.setB, Env.setS, Env.setI, Env.setN, Env.setF]
  refine ⟨fun h1 => ?_, fun h1 => ?_⟩
  · have : args = [] := List.length_eq_zero_iff.1 (by omega)
    subst this
    intro w1 hw1 ho1
    exact flt [] w w1 3 [] rfl (by decide) _ (by simp) hw1 ho1
  · obtain ⟨a, rest, rfl⟩ : ∃ a r, args = a :: r := List.exists_cons_of_ne_nil (fun e => h1 (by rw [e]; rfl))
    have ha : a.length ≤ 9223372036854775807 := hs a (by simp)
    have hr0 := StrRow.ext hr (ext_push w.heap (.cells #[.string (bs (bytesOf [])), .int .i64 0, .int .i64 0, .bool false, .int .i64 0] 29))
    obtain ⟨x, y, rfl, g0⟩ := hr0.at (i := 0) (by simp)
    refine ⟨x, y, rfl, by simp only [List.length_cons]; omega, _, g0, by simp only [List.length_cons]; omega, _, g0, ?_⟩
    have e0 : (a :: rest)[0] = a := rfl
    rw [e0]
    refine ⟨by omega, by omega, ?_⟩
    have e1 : a.take (min (a.length : Int) 64).toNat = a.take 64 := by
      by_cases h : a.length ≤ 64
      · rw [List.take_of_length_le (by omega), List.take_of_length_le h]
      · congr 1; omega
    rw [e1]
    intro w1 hw1 ho1
    refine (Lower_any (a.take 64) _ (by simp; omega)).mono ?_
    rintro e1 v1 ⟨rfl, hx1, hp1⟩
    rw [hw1] at hx1
    refine ⟨hp1.trans ho1, hx1, ?_⟩
    obtain ⟨_, _, e2, g1⟩ := (hr0.ext hx1).at (i := 0) (by simp)
    injection e2 with e2; injection e2 with e2 e3; subst e2 e3
    refine ⟨_, rfl, by simp only [List.length_cons]; omega, _, g1, ?_⟩
    rw [e0]
    intro w2 hw2 ho2
    refine (Lookup_any a _ ha).mono ?_
    rintro e2 v2 ⟨rfl, hx2, hp2⟩
    rw [hw2] at hx2
    refine ⟨hp2.trans ho2, hx2, ?_⟩
    have hws : w.heap.size < v2.heap.size := by
      have := hx1.le; have := hx2.le; simp at *; omega
    have hX : Ext v2.heap (boxed v2.heap (look a).1) := box_ext _ _
    have hrx : StrRow (boxed v2.heap (look a).1) (some ⟨x, y, none⟩) (a :: rest) := ((hr0.ext hx1).ext hx2).ext hX
    have hbx : w.heap.size < (boxed v2.heap (look a).1).size := Nat.lt_of_lt_of_le hws hX.le
    unfold boxed at hX hrx hbx
    have v3 : (look a).2 = false → verdict (a :: rest) = (Cd.none, lower (a.take 64), 3) := fun h => by unfold verdict; simp only; rw [if_pos h]
    have vx : ¬ (look a).2 = false → ¬ ((a :: rest).length : Int) < (look a).1.least → ¬ (look a).1.most < ((a :: rest).length : Int) → ¬ oddW (look a).1.name (a :: rest).length = true → verdict (a :: rest) = if (a :: rest).any isLong = true then (Cd.none, lower (a.take 64), 11) else ((look a).1, lower (a.take 64), 0) := fun h1 h2 h3 h4 => by
      unfold verdict; simp only; rw [if_neg h1, if_neg (fun h => h.elim h2 fun h => h.elim h3 h4)]
    have v2' : ¬ (look a).2 = false → (((a :: rest).length : Int) < (look a).1.least ∨ (look a).1.most < ((a :: rest).length : Int) ∨ oddW (look a).1.name (a :: rest).length = true) → verdict (a :: rest) = (Cd.none, lower (a.take 64), 2) := fun h1 h2 => by
      unfold verdict; simp only; rw [if_neg h1, if_pos h2]
    refine ⟨_, _, _, _, _, _, rfl, fun h2 w3 hw3 ho3 => ?_, fun h2 => ⟨fun h3 w3 hw3 ho3 => ?_, fun h3 => ⟨fun h4 w3 hw3 ho3 => ?_, fun h4 => ?_⟩⟩⟩
    · exact flt _ w w3 3 _ (v3 (by simpa using h2)) (by decide) _ hbx hw3 ho3
    · exact flt _ w w3 2 _ (v2' (by simpa using h2) (.inl h3)) (by decide) _ hbx hw3 ho3
    · exact flt _ w w3 2 _ (v2' (by simpa using h2) (.inr (.inl h4))) (by decide) _ hbx hw3 ho3
    ·
      intro w3 hw3 ho3
      refine (odd_any _ _ _).mono ?_
      rintro e3 v3 ⟨rfl, hx3, hp3⟩
      rw [hw3] at hx3
      refine ⟨hp3.trans ho3, hx3, ?_⟩
      refine ⟨_, rfl, fun h5 w4 hw4 ho4 => ?_, fun h5 => ?_⟩
      · exact flt _ w w4 2 _ (v2' (by simpa using h2) (.inr (.inr h5))) (by decide) _ (Nat.lt_of_lt_of_le hbx hx3.le) hw4 ho4
      · intro w4 hw4 ho4
        refine (hasLong_any (a :: rest) _ cap _ (by rw [hw4]; exact hrx.ext hx3) hn).mono ?_
        rintro e4 v4 ⟨rfl, hx4, hp4⟩
        rw [hw4] at hx4
        refine ⟨hp4.trans ho4, hx4, _, rfl, fun h6 w5 hw5 ho5 => ?_, fun h6 hf wr hwr hor => ?_⟩
        · have h6' : (a :: rest).any isLong = true := h6
          exact flt _ w w5 11 _ ((vx (by simpa using h2) h3 h4 h5).trans (if_pos h6')) (by decide) _ (Nat.lt_of_lt_of_le hbx (hx3.trans hx4).le) hw5 ho5
        · have h6' : ¬ (a :: rest).any isLong = true := h6
          have e := (vx (by simpa using h2) h3 h4 h5).trans (if_neg h6')
          rw [e]
          exact ⟨_, rfl, .inl ⟨rfl, rfl⟩, by rw [hwr]; exact hf.none, hor⟩
end Go.Proofs.YtjffhomcgpigpaaDoor
