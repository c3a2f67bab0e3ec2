import Derived.Test.YtkcjhabbgaaknaaGreatSBU
import Derived.Test.YtkcjhabbgaaknaaGreatSA
import Derived.Test.YtkcjhabbgaaknaaGreatSCU
/- All keys of some groups are handed on (U): whatever the closure. -/
namespace Go.Proofs.YtkcjhabbgaaknaaGreat
open E
set_option maxRecDepth 100000
set_option maxHeartbeats 4000000 in
theorem eachGU_any (f : Nat) (cs : List Value) (To : Tb Int) (go : Nat) (I : Nat → Heap → Prop) (w : World) (hen : enters Tryz.prog f = true) (hTn : To.n ≤ 30) (h0 : I 0 w.heap)
    (hG : ∀ m h, I m h → GrpAt (Value.int .u64) h go To) (hgo : ∀ m h, I m h → go < h.size) (hX : ∀ m h h', I m h → Ext h h' → I m h')
    (hskip : ∀ m h, m < 8 * To.n → ¬ To.by_ m < 128 → I m h → I (m + 1) h)
    (hclo : ∀ m h, m < 8 * To.n → To.by_ m < 128 → I m h → ∀ w1 : World, Ext h w1.heap → Calls Tryz.prog f (.string (bs (To.k m)) :: (Value.int .u64) (To.v m) :: cs).toArray w1 fun e w2 => outw w2 = outw w1 ∧ e = .returned (.tuple #[]) ∧ ∃ F, E.Frame F w1.heap w2.heap ∧ (∀ b, F b → b < h.size) ∧ I (m + 1) w2.heap) :
    Calls Tryz.prog 134 #[.slice (some ⟨go, 0, none⟩) To.n To.n, cloVal (some (f, cs))] w fun e w' => e = .returned (.tuple #[]) ∧ outw w' = outw w ∧ I (8 * To.n) w'.heap := by
  refine begins (k134 { pclo := false }) [.slice (.at (.v 0) (.c 0)) (.v 1) (.v 1), .clo 0] [] { n := fun j => if j = 0 then go else To.n, c := fun _ => some (f, cs), h := fun _ => w.heap, o := outw w } 3 1000 rfl rfl rfl trivial (by simp [SV.den, NE.den, PE.den]) ?_
  conv => arg 7; reduce
  simp only [VC.den, IE.den, NE.den, SV.den, HE.den, PE.den, WS.den, List.map_cons, List.map_nil, Int.cast_ofNat_Int, reduceIte, Nat.reduceEqDiff]
  intro _
  refine looping (k134 { pclo := false }) [.slice (.at (.v 0) (.c 0)) (.v 1) (.v 1), .clo 0, .int .i64 (.ofN (.v 1)), .int .i64 (.ofN (.v 3))] []
    (fun y : Nat × Heap => { n := fun j => if j = 0 then go else if j = 1 then To.n else y.1, c := fun _ => some (f, cs), h := fun _ => y.2, o := outw w }) 4 1000
    (fun y => y.1 ≤ To.n ∧ I (8 * y.1) y.2) (fun y => To.n - y.1) (0, w.heap)
    ⟨Nat.zero_le _, h0⟩ rfl (by simp [SV.den, NE.den, PE.den, IE.den]) rfl (fun _ => rfl) (fun _ _ => trivial) ?_
  rintro ⟨g, h⟩ ⟨hg, hI⟩ N hN
  simp only at hg hI
  simp only [SV.den, PE.den, NE.den, IE.den, List.map_cons, List.map_nil, reduceIte, Nat.reduceEqDiff] at hN
  conv => arg 7; reduce
  simp only [VC.den, BE.prop, IE.den, NE.den, SE.den, SV.den, HE.den, PE.den, WS.den, List.map_cons, List.map_nil, Int.cast_ofNat_Int, reduceIte, Nat.reduceEqDiff, Env.setS, Env.setI]
  refine ⟨fun h1 => ?_, fun h1 _ w1 hw1 ho1 => ?_⟩
  · have hlt : g < To.n := by omega
    have hGh := hG _ _ hI
    refine ⟨h1, _, _, _, _, _, _, _, _, _, _, _, _, _, _, _, _, hGh.k g 0 hlt (by omega), hGh.v g 0 hlt (by omega), hGh.k g 1 hlt (by omega), hGh.v g 1 hlt (by omega), hGh.k g 2 hlt (by omega), hGh.v g 2 hlt (by omega), hGh.k g 3 hlt (by omega), hGh.v g 3 hlt (by omega), hGh.k g 4 hlt (by omega), hGh.v g 4 hlt (by omega), hGh.k g 5 hlt (by omega), hGh.v g 5 hlt (by omega), hGh.k g 6 hlt (by omega), hGh.v g 6 hlt (by omega), hGh.k g 7 hlt (by omega), hGh.v g 7 hlt (by omega), fun _ => ?_⟩
    refine loopingF (k134 { pclo := false }) (fun y : Nat × Heap => [.slice (.at (.v 0) (.c 0)) (.v 1) (.v 1), .clo 0, .int .i64 (.ofN (.v 3)), .int .i64 (.ofN (.v 1)), .int .i64 (.ofN (.v 3)), .agg [.str (.v 0), .int .u64 (.v 20), .str (.v 1), .int .u64 (.v 21), .str (.v 2), .int .u64 (.v 22), .str (.v 3), .int .u64 (.v 23), .str (.v 4), .int .u64 (.v 24), .str (.v 5), .int .u64 (.v 25), .str (.v 6), .int .u64 (.v 26), .str (.v 7), .int .u64 (.v 27)], .int .i64 (.c y.1)]) []
      (fun y : Nat × Heap => { n := fun j => if j = 0 then go else if j = 1 then To.n else g, s := fun m => To.k (8 * g + m), i := fun m => (To.v (8 * g + (m - 20))), p := fun m => none, c := fun _ => some (f, cs), h := fun _ => y.2, o := outw w }) 30 1000
      (fun y => y.1 ≤ 8 ∧ I (8 * g + y.1) y.2) (fun y => 8 - y.1) (0, h)
      ⟨Nat.zero_le _, hI⟩ (fun _ _ => rfl) (by simp [SV.den, NE.den, PE.den, IE.den, SE.den]) rfl (fun _ => rfl) (fun _ _ => trivial) ?_
    rintro ⟨j, h'⟩ ⟨hj, hI1⟩ N1 hN1
    simp only at hj hI1
    have hgo' := hgo _ _ hI1
    obtain rfl | rfl | rfl | rfl | rfl | rfl | rfl | rfl | rfl : j = 0 ∨ j = 1 ∨ j = 2 ∨ j = 3 ∨ j = 4 ∨ j = 5 ∨ j = 6 ∨ j = 7 ∨ j = 8 := by omega
    all_goals
      dsimp only
      dsimp only at hN1
      simp only [SV.den, SE.den, PE.den, NE.den, IE.den, List.map_cons, List.map_nil, reduceIte, Nat.reduceEqDiff] at hN1
      conv => arg 7; reduce
      simp only [VC.den, BE.prop, IE.den, NE.den, SE.den, SV.den, HE.den, PE.den, WS.den, WI.den, noneIn, List.map_cons, List.map_nil, List.cons_append, List.nil_append, Int.cast_ofNat_Int, reduceIte, Nat.reduceEqDiff, Env.setE, Env.setH, Env.setI, Env.setN, Env.setW, inK_i64]
    · have x0 := (((Ext.refl h').push (.cells #[.string (bs (bytesOf [])), (Value.int .u64) (0 : Int)] 177)).set (Nat.le_refl _) 0 (.string (bs (To.k (8 * g + 0))))).set (Nat.le_refl _) 1 ((Value.int .u64) (To.v (8 * g + 0)))
      have hw0 := (hG _ _ hI1).ext x0 hgo'
      refine ⟨h1, _, hw0.w g hlt, ?_⟩
      intro w1 hw1 ho1
      refine (At_any (To.w g) 0 (by omega) w1).mono ?_
      rintro e1 v1 ⟨rfl, hx1, hp1'⟩
      rw [hw1] at hx1
      rw [← To.by_at g (show 0 < 8 by omega)]
      have hX1 := x0.trans hx1
      refine ⟨hp1'.trans ho1, hx1, _, rfl, fun hb => ?_, fun hb _ => ?_⟩
      · refine ⟨f, cs, rfl, hen, fun w2 hw2 ho2 => ?_⟩
        refine (hclo (8 * g + 0) h' (by omega) (by first | omega | (simp only [Nat.add_zero] at hb ⊢; omega)) hI1 w2 (by rw [hw2]; exact hX1)).mono ?_
        rintro e2 v2 ⟨ho', rfl, F, hF, hF2, hI2⟩
        rw [hw2] at hF
        refine ⟨ho'.trans ho2, F, hF, ⟨fun h => by have := hF2 _ h; omega, trivial⟩, rfl, fun _ => ?_⟩
        exact hN1 (1, v2.heap) ⟨by simp only; omega, hI2⟩ (by simp only; omega)
      · exact hN1 (1, v1.heap) ⟨by simp only; omega, hskip (8 * g + 0) _ (by omega) (by first | omega | (simp only [Nat.add_zero] at hb ⊢; omega)) (hX _ _ _ hI1 hX1)⟩ (by simp only; omega)
    · have x0 := (((Ext.refl h').push (.cells #[.string (bs (bytesOf [])), (Value.int .u64) (0 : Int)] 177)).set (Nat.le_refl _) 0 (.string (bs (To.k (8 * g + 1))))).set (Nat.le_refl _) 1 ((Value.int .u64) (To.v (8 * g + 1)))
      have hw0 := (hG _ _ hI1).ext x0 hgo'
      refine ⟨h1, _, hw0.w g hlt, ?_⟩
      intro w1 hw1 ho1
      refine (At_any (To.w g) 1 (by omega) w1).mono ?_
      rintro e1 v1 ⟨rfl, hx1, hp1'⟩
      rw [hw1] at hx1
      rw [← To.by_at g (show 1 < 8 by omega)]
      have hX1 := x0.trans hx1
      refine ⟨hp1'.trans ho1, hx1, _, rfl, fun hb => ?_, fun hb _ => ?_⟩
      · refine ⟨f, cs, rfl, hen, fun w2 hw2 ho2 => ?_⟩
        refine (hclo (8 * g + 1) h' (by omega) (by first | omega | (simp only [Nat.add_zero] at hb ⊢; omega)) hI1 w2 (by rw [hw2]; exact hX1)).mono ?_
        rintro e2 v2 ⟨ho', rfl, F, hF, hF2, hI2⟩
        rw [hw2] at hF
        refine ⟨ho'.trans ho2, F, hF, ⟨fun h => by have := hF2 _ h; omega, trivial⟩, rfl, fun _ => ?_⟩
        exact hN1 (2, v2.heap) ⟨by simp only; omega, hI2⟩ (by simp only; omega)
      · exact hN1 (2, v1.heap) ⟨by simp only; omega, hskip (8 * g + 1) _ (by omega) (by first | omega | (simp only [Nat.add_zero] at hb ⊢; omega)) (hX _ _ _ hI1 hX1)⟩ (by simp only; omega)
    · have x0 := (((Ext.refl h').push (.cells #[.string (bs (bytesOf [])), (Value.int .u64) (0 : Int)] 177)).set (Nat.le_refl _) 0 (.string (bs (To.k (8 * g + 2))))).set (Nat.le_refl _) 1 ((Value.int .u64) (To.v (8 * g + 2)))
      have hw0 := (hG _ _ hI1).ext x0 hgo'
      refine ⟨h1, _, hw0.w g hlt, ?_⟩
      intro w1 hw1 ho1
      refine (At_any (To.w g) 2 (by omega) w1).mono ?_
      rintro e1 v1 ⟨rfl, hx1, hp1'⟩
      rw [hw1] at hx1
      rw [← To.by_at g (show 2 < 8 by omega)]
      have hX1 := x0.trans hx1
      refine ⟨hp1'.trans ho1, hx1, _, rfl, fun hb => ?_, fun hb _ => ?_⟩
      · refine ⟨f, cs, rfl, hen, fun w2 hw2 ho2 => ?_⟩
        refine (hclo (8 * g + 2) h' (by omega) (by first | omega | (simp only [Nat.add_zero] at hb ⊢; omega)) hI1 w2 (by rw [hw2]; exact hX1)).mono ?_
        rintro e2 v2 ⟨ho', rfl, F, hF, hF2, hI2⟩
        rw [hw2] at hF
        refine ⟨ho'.trans ho2, F, hF, ⟨fun h => by have := hF2 _ h; omega, trivial⟩, rfl, fun _ => ?_⟩
        exact hN1 (3, v2.heap) ⟨by simp only; omega, hI2⟩ (by simp only; omega)
      · exact hN1 (3, v1.heap) ⟨by simp only; omega, hskip (8 * g + 2) _ (by omega) (by first | omega | (simp only [Nat.add_zero] at hb ⊢; omega)) (hX _ _ _ hI1 hX1)⟩ (by simp only; omega)
    · have x0 := (((Ext.refl h').push (.cells #[.string (bs (bytesOf [])), (Value.int .u64) (0 : Int)] 177)).set (Nat.le_refl _) 0 (.string (bs (To.k (8 * g + 3))))).set (Nat.le_refl _) 1 ((Value.int .u64) (To.v (8 * g + 3)))
      have hw0 := (hG _ _ hI1).ext x0 hgo'
      refine ⟨h1, _, hw0.w g hlt, ?_⟩
      intro w1 hw1 ho1
      refine (At_any (To.w g) 3 (by omega) w1).mono ?_
      rintro e1 v1 ⟨rfl, hx1, hp1'⟩
      rw [hw1] at hx1
      rw [← To.by_at g (show 3 < 8 by omega)]
      have hX1 := x0.trans hx1
      refine ⟨hp1'.trans ho1, hx1, _, rfl, fun hb => ?_, fun hb _ => ?_⟩
      · refine ⟨f, cs, rfl, hen, fun w2 hw2 ho2 => ?_⟩
        refine (hclo (8 * g + 3) h' (by omega) (by first | omega | (simp only [Nat.add_zero] at hb ⊢; omega)) hI1 w2 (by rw [hw2]; exact hX1)).mono ?_
        rintro e2 v2 ⟨ho', rfl, F, hF, hF2, hI2⟩
        rw [hw2] at hF
        refine ⟨ho'.trans ho2, F, hF, ⟨fun h => by have := hF2 _ h; omega, trivial⟩, rfl, fun _ => ?_⟩
        exact hN1 (4, v2.heap) ⟨by simp only; omega, hI2⟩ (by simp only; omega)
      · exact hN1 (4, v1.heap) ⟨by simp only; omega, hskip (8 * g + 3) _ (by omega) (by first | omega | (simp only [Nat.add_zero] at hb ⊢; omega)) (hX _ _ _ hI1 hX1)⟩ (by simp only; omega)
    · have x0 := (((Ext.refl h').push (.cells #[.string (bs (bytesOf [])), (Value.int .u64) (0 : Int)] 177)).set (Nat.le_refl _) 0 (.string (bs (To.k (8 * g + 4))))).set (Nat.le_refl _) 1 ((Value.int .u64) (To.v (8 * g + 4)))
      have hw0 := (hG _ _ hI1).ext x0 hgo'
      refine ⟨h1, _, hw0.w g hlt, ?_⟩
      intro w1 hw1 ho1
      refine (At_any (To.w g) 4 (by omega) w1).mono ?_
      rintro e1 v1 ⟨rfl, hx1, hp1'⟩
      rw [hw1] at hx1
      rw [← To.by_at g (show 4 < 8 by omega)]
      have hX1 := x0.trans hx1
      refine ⟨hp1'.trans ho1, hx1, _, rfl, fun hb => ?_, fun hb _ => ?_⟩
      · refine ⟨f, cs, rfl, hen, fun w2 hw2 ho2 => ?_⟩
        refine (hclo (8 * g + 4) h' (by omega) (by first | omega | (simp only [Nat.add_zero] at hb ⊢; omega)) hI1 w2 (by rw [hw2]; exact hX1)).mono ?_
        rintro e2 v2 ⟨ho', rfl, F, hF, hF2, hI2⟩
        rw [hw2] at hF
        refine ⟨ho'.trans ho2, F, hF, ⟨fun h => by have := hF2 _ h; omega, trivial⟩, rfl, fun _ => ?_⟩
        exact hN1 (5, v2.heap) ⟨by simp only; omega, hI2⟩ (by simp only; omega)
      · exact hN1 (5, v1.heap) ⟨by simp only; omega, hskip (8 * g + 4) _ (by omega) (by first | omega | (simp only [Nat.add_zero] at hb ⊢; omega)) (hX _ _ _ hI1 hX1)⟩ (by simp only; omega)
    · have x0 := (((Ext.refl h').push (.cells #[.string (bs (bytesOf [])), (Value.int .u64) (0 : Int)] 177)).set (Nat.le_refl _) 0 (.string (bs (To.k (8 * g + 5))))).set (Nat.le_refl _) 1 ((Value.int .u64) (To.v (8 * g + 5)))
      have hw0 := (hG _ _ hI1).ext x0 hgo'
      refine ⟨h1, _, hw0.w g hlt, ?_⟩
      intro w1 hw1 ho1
      refine (At_any (To.w g) 5 (by omega) w1).mono ?_
      rintro e1 v1 ⟨rfl, hx1, hp1'⟩
      rw [hw1] at hx1
      rw [← To.by_at g (show 5 < 8 by omega)]
      have hX1 := x0.trans hx1
      refine ⟨hp1'.trans ho1, hx1, _, rfl, fun hb => ?_, fun hb _ => ?_⟩
      · refine ⟨f, cs, rfl, hen, fun w2 hw2 ho2 => ?_⟩
        refine (hclo (8 * g + 5) h' (by omega) (by first | omega | (simp only [Nat.add_zero] at hb ⊢; omega)) hI1 w2 (by rw [hw2]; exact hX1)).mono ?_
        rintro e2 v2 ⟨ho', rfl, F, hF, hF2, hI2⟩
        rw [hw2] at hF
        refine ⟨ho'.trans ho2, F, hF, ⟨fun h => by have := hF2 _ h; omega, trivial⟩, rfl, fun _ => ?_⟩
        exact hN1 (6, v2.heap) ⟨by simp only; omega, hI2⟩ (by simp only; omega)
      · exact hN1 (6, v1.heap) ⟨by simp only; omega, hskip (8 * g + 5) _ (by omega) (by first | omega | (simp only [Nat.add_zero] at hb ⊢; omega)) (hX _ _ _ hI1 hX1)⟩ (by simp only; omega)
    · have x0 := (((Ext.refl h').push (.cells #[.string (bs (bytesOf [])), (Value.int .u64) (0 : Int)] 177)).set (Nat.le_refl _) 0 (.string (bs (To.k (8 * g + 6))))).set (Nat.le_refl _) 1 ((Value.int .u64) (To.v (8 * g + 6)))
      have hw0 := (hG _ _ hI1).ext x0 hgo'
      refine ⟨h1, _, hw0.w g hlt, ?_⟩
      intro w1 hw1 ho1
      refine (At_any (To.w g) 6 (by omega) w1).mono ?_
      rintro e1 v1 ⟨rfl, hx1, hp1'⟩
      rw [hw1] at hx1
      rw [← To.by_at g (show 6 < 8 by omega)]
      have hX1 := x0.trans hx1
      refine ⟨hp1'.trans ho1, hx1, _, rfl, fun hb => ?_, fun hb _ => ?_⟩
      · refine ⟨f, cs, rfl, hen, fun w2 hw2 ho2 => ?_⟩
        refine (hclo (8 * g + 6) h' (by omega) (by first | omega | (simp only [Nat.add_zero] at hb ⊢; omega)) hI1 w2 (by rw [hw2]; exact hX1)).mono ?_
        rintro e2 v2 ⟨ho', rfl, F, hF, hF2, hI2⟩
        rw [hw2] at hF
        refine ⟨ho'.trans ho2, F, hF, ⟨fun h => by have := hF2 _ h; omega, trivial⟩, rfl, fun _ => ?_⟩
        exact hN1 (7, v2.heap) ⟨by simp only; omega, hI2⟩ (by simp only; omega)
      · exact hN1 (7, v1.heap) ⟨by simp only; omega, hskip (8 * g + 6) _ (by omega) (by first | omega | (simp only [Nat.add_zero] at hb ⊢; omega)) (hX _ _ _ hI1 hX1)⟩ (by simp only; omega)
    · have x0 := (((Ext.refl h').push (.cells #[.string (bs (bytesOf [])), (Value.int .u64) (0 : Int)] 177)).set (Nat.le_refl _) 0 (.string (bs (To.k (8 * g + 7))))).set (Nat.le_refl _) 1 ((Value.int .u64) (To.v (8 * g + 7)))
      have hw0 := (hG _ _ hI1).ext x0 hgo'
      refine ⟨h1, _, hw0.w g hlt, ?_⟩
      intro w1 hw1 ho1
      refine (At_any (To.w g) 7 (by omega) w1).mono ?_
      rintro e1 v1 ⟨rfl, hx1, hp1'⟩
      rw [hw1] at hx1
      rw [← To.by_at g (show 7 < 8 by omega)]
      have hX1 := x0.trans hx1
      refine ⟨hp1'.trans ho1, hx1, _, rfl, fun hb => ?_, fun hb _ => ?_⟩
      · refine ⟨f, cs, rfl, hen, fun w2 hw2 ho2 => ?_⟩
        refine (hclo (8 * g + 7) h' (by omega) (by first | omega | (simp only [Nat.add_zero] at hb ⊢; omega)) hI1 w2 (by rw [hw2]; exact hX1)).mono ?_
        rintro e2 v2 ⟨ho', rfl, F, hF, hF2, hI2⟩
        rw [hw2] at hF
        refine ⟨ho'.trans ho2, F, hF, ⟨fun h => by have := hF2 _ h; omega, trivial⟩, rfl, fun _ => ?_⟩
        exact hN1 (8, v2.heap) ⟨by simp only; omega, hI2⟩ (by simp only; omega)
      · exact hN1 (8, v1.heap) ⟨by simp only; omega, hskip (8 * g + 7) _ (by omega) (by first | omega | (simp only [Nat.add_zero] at hb ⊢; omega)) (hX _ _ _ hI1 hX1)⟩ (by simp only; omega)
    · exact ⟨by omega, fun _ => hN (g + 1, h') ⟨hlt, hI1⟩ (by simp only; omega)⟩
  · obtain rfl : g = To.n := by omega
    exact ⟨trivial, ho1, by rw [hw1]; exact hI⟩
end Go.Proofs.YtkcjhabbgaaknaaGreat
/- A table is split (U). -/
namespace Go.Proofs.YtkcjhabbgaaknaaGreat
open E
set_option maxRecDepth 100000


theorem split1U_any (seed : Int) (d bb pb lb tA gA tB gB to_ go : Nat) (TA TB To : Tb Int) (key : Key) (v : Int) (w : World) (hd : d < 16) (hs : key.length ≤ 9223372036854775807)
    (h1 : CellsAt w.heap bb 0 [.int .i64 (d : Nat)]) (h2 : CellsAt w.heap pb 0 [.pointer (some ⟨to_, 0, none⟩)]) (h3 : CellsAt w.heap lb 0 [.pointer (some ⟨tA, 0, none⟩), .pointer (some ⟨tB, 0, none⟩)])
    (HO : TabAt (Value.int .u64) w.heap to_ go seed To) (HA : TabAt (Value.int .u64) w.heap tA gA seed TA) (HB : TabAt (Value.int .u64) w.heap tB gB seed TB) (n1 : bb ≠ pb) (n2 : bb ≠ lb) (n3 : pb ≠ lb) (nF : ∀ b ∈ [bb, pb, lb], b ∉ [tA, gA, tB, gB])
    (hA : TA.full.length ≤ 111) (hB : TB.full.length ≤ 111) :
    Calls Tryz.prog 136 #[.string (bs key), (Value.int .u64) v, .pointer (some ⟨bb, 0, none⟩), .pointer (some ⟨pb, 0, none⟩), .pointer (some ⟨lb, 0, none⟩)] w fun e w' => e = .returned (.tuple #[]) ∧ outw w' = outw w ∧
      E.Frame (fun b => (side d (hk seed key) = 0 ∧ (b = tA ∨ b = gA)) ∨ (side d (hk seed key) = 1 ∧ (b = tB ∨ b = gB))) w.heap w'.heap ∧
      (side d (hk seed key) = 0 → ∃ gb' T', (gb' = gA ∨ w.heap.size ≤ gb') ∧ TabAt (Value.int .u64) w'.heap tA gb' seed T' ∧ PutRU TA.full key v T'.full) ∧
      (side d (hk seed key) = 1 → ∃ gb' T', (gb' = gB ∨ w.heap.size ≤ gb') ∧ TabAt (Value.int .u64) w'.heap tB gb' seed T' ∧ PutRU TB.full key v T'.full) := by
  refine begins (k136 {}) [.str (.v 0), .int .u64 (.v 9), .ptr (.at (.v 0) (.c 0)), .ptr (.at (.v 1) (.c 0)), .ptr (.at (.v 2) (.c 0))]
    [(.v 0, .c 0, [.int .i64 (.ofN (.v 3))]), (.v 1, .c 0, [.ptr (.at (.v 4) (.c 0))]), (.v 2, .c 0, [.ptr (.at (.v 5) (.c 0)), .ptr (.at (.v 6) (.c 0))])]
    { n := fun j => if j = 0 then bb else if j = 1 then pb else if j = 2 then lb else if j = 3 then d else if j = 4 then to_ else if j = 5 then tA else tB, i := fun _ => v, p := fun _ => none, s := fun _ => key, h := fun _ => w.heap, o := outw w } 10 1000 rfl rfl rfl
    ⟨by simpa [NE.den, SV.den, IE.den] using h1, ⟨by simpa [NE.den] using n1, by simpa [NE.den] using n2, trivial⟩, by simpa [NE.den, SV.den, PE.den] using h2, ⟨by simpa [NE.den] using n3, trivial⟩, by simpa [NE.den, SV.den, PE.den] using h3, trivial, trivial⟩
    (by simp [SV.den, SE.den, NE.den, PE.den, IE.den]) ?_
  conv => arg 7; reduce
  simp only [VC.den, BE.prop, IE.den, NE.den, SE.den, SV.den, HE.den, PE.den, WS.den, WI.den, noneIn, List.map_cons, List.map_nil, Int.cast_ofNat_Int, reduceIte, Nat.reduceEqDiff, Env.setE, Env.setH, Env.setI, Env.setP, Env.setW]
  simp only [List.mem_cons, List.not_mem_nil, or_false, forall_eq_or_imp, forall_eq, not_or] at nF
  refine ⟨fun _ => ⟨_, HO.hd.at0 (j := 0) rfl, fun w1 hw1 ho1 => ?_⟩, fun h => absurd (by omega) h⟩
  refine (Of_any seed key w1 hs).mono ?_
  rintro e1 v1 ⟨rfl, hx1, hp1⟩
  rw [hw1] at hx1
  rw [hk_cast]
  have hb : E.intBits .and .u64 (((hk seed key : Nat) : Int).fdiv (2 ^ d)) 1 = ((side d (hk seed key) : Nat) : Int) := by
    rw [show ((2 : Int) ^ d) = ((2 ^ d : Nat) : Int) from (Int.natCast_pow 2 d).symm, fdiv_nat]
    exact and_low (d := 1) (Nat.lt_of_le_of_lt (Nat.div_le_self _ _) (hk_lt _ _)) (by decide)
  have hs2 : side d (hk seed key) = 0 ∨ side d (hk seed key) = 1 := by unfold side; omega
  refine ⟨hp1.trans ho1, hx1, _, rfl, by omega, ?_⟩
  rw [hb, Int.toNat_natCast]
  refine ⟨by omega, by omega, ?_⟩
  generalize side d (hk seed key) = sd at *
  rcases hs2 with h0 | h0
  · refine ⟨some ⟨tA, 0, none⟩, by rw [h0]; exact (hx1.cellsAt h3).at0 (j := 0) rfl, fun w2 hw2 ho2 => ?_⟩
    refine (tPutU_any seed TA tA gA key v w2 (by rw [hw2]; exact HA.ext hx1) hs (fun _ => hA)).mono ?_
    rintro e2 v2 ⟨rfl, hf2, hp2, gb', T', hgb, HT', hR⟩
    rw [hw2] at hf2 hgb
    have hz := hx1.le
    refine ⟨hp2.trans ho2, _, hf2, ⟨by rintro (e | e) <;> omega, by rintro (e | e) <;> omega, by rintro (e | e) <;> omega, trivial⟩, _, rfl, fun _ _ _ hf w3 hw3 ho3 => ⟨trivial, ho3, ?_, fun _ => ⟨gb', T', by omega, ?_, hR⟩, fun h => by omega⟩⟩
    · rw [hw3]; exact hf.mono fun b _ h => by simp only [or_false] at h; omega
    · rw [hw3]; exact HT'
  · refine ⟨some ⟨tB, 0, none⟩, by rw [h0]; exact (hx1.cellsAt h3).at0 (j := 1) rfl, fun w2 hw2 ho2 => ?_⟩
    refine (tPutU_any seed TB tB gB key v w2 (by rw [hw2]; exact HB.ext hx1) hs (fun _ => hB)).mono ?_
    rintro e2 v2 ⟨rfl, hf2, hp2, gb', T', hgb, HT', hR⟩
    rw [hw2] at hf2 hgb
    have hz := hx1.le
    refine ⟨hp2.trans ho2, _, hf2, ⟨by rintro (e | e) <;> omega, by rintro (e | e) <;> omega, by rintro (e | e) <;> omega, trivial⟩, _, rfl, fun _ _ _ hf w3 hw3 ho3 => ⟨trivial, ho3, ?_, fun h => by omega, fun _ => ⟨gb', T', by omega, ?_, hR⟩⟩⟩
    · rw [hw3]; exact hf.mono fun b _ h => by simp only [or_false] at h; omega
    · rw [hw3]; exact HT'
end Go.Proofs.YtkcjhabbgaaknaaGreat
/- A table is split: all its keys (U). -/
namespace Go.Proofs.YtkcjhabbgaaknaaGreat
open E
set_option maxRecDepth 100000
def onSideU (seed : Int) (d s : Nat) (x : Key × Int) : Bool := decide (side d (hk seed x.1) = s)
theorem cell_newU (To : Tb Int) {m : Nat} (hm : m < 8 * To.n) (hu : (To.full.map (·.1)).Nodup) (hb : To.by_ m < 128) :
    (∀ x ∈ at_ To.cell m, x.1 ≠ To.k m) ∧ (To.k m, To.v m) ∈ To.full ∧ (at_ To.cell m).length < To.full.length ∧ at_ To.cell (m + 1) = at_ To.cell m ++ [(To.k m, To.v m)] := by
  have e : at_ To.cell (m + 1) = at_ To.cell m ++ [(To.k m, To.v m)] := by rw [at_succ, To.cell_some hb]; rfl
  obtain ⟨r, hr⟩ := at_prefix To.cell (show m + 1 ≤ 8 * To.n by omega)
  have hr' : To.full = at_ To.cell m ++ [(To.k m, To.v m)] ++ r := by rw [← e]; exact hr
  refine ⟨fun x hx ex => ?_, by rw [hr']; simp, by rw [hr']; simp only [List.length_append, List.length_cons, List.length_nil]; omega, e⟩
  rw [hr', List.map_append, List.map_append] at hu
  exact (List.nodup_append.1 (List.nodup_append.1 hu).1).2.2 x.1 (List.mem_map_of_mem hx) (To.k m) (by simp) ex
theorem put_newU {l l' : List (Key × Int)} {key : Key} {v : Int} (H : PutRU l key v l') (hno : ∀ x ∈ l, x.1 ≠ key) : l'.Perm ((key, v) :: l) := by
  rcases H with ⟨u, r, a, _⟩ | ⟨_, b⟩
  · exact absurd rfl (hno _ (a.symm.subset List.mem_cons_self))
  · exact b
/-- How far a split has come. -/
structure SplIU (w0 : Heap) (seed : Int) (d bb pb lb tA tB to_ go : Nat) (To : Tb Int) (m : Nat) (h : Heap) : Prop where
  x : Ext w0 h
  c1 : CellsAt h bb 0 [.int .i64 (d : Nat)]
  c2 : CellsAt h pb 0 [.pointer (some ⟨to_, 0, none⟩)]
  c3 : CellsAt h lb 0 [.pointer (some ⟨tA, 0, none⟩), .pointer (some ⟨tB, 0, none⟩)]
  o : TabAt (Value.int .u64) h to_ go seed To
  ab : ∃ gA gB TA TB, TabAt (Value.int .u64) h tA gA seed TA ∧ TabAt (Value.int .u64) h tB gB seed TB ∧ TA.full.Perm ((at_ To.cell m).filter (onSideU seed d 0)) ∧ TB.full.Perm ((at_ To.cell m).filter (onSideU seed d 1)) ∧
    [tA, gA, tB, gB].Nodup ∧ (∀ b ∈ [bb, pb, lb, to_, go], b ∉ [tA, gA, tB, gB]) ∧ ∀ b ∈ [tA, gA, tB, gB], w0.size ≤ b
theorem splIU_ext {w0 h h' : Heap} {seed : Int} {d bb pb lb tA tB to_ go : Nat} {To : Tb Int} {m : Nat} (H : SplIU w0 seed d bb pb lb tA tB to_ go To m h) (hx : Ext h h') : SplIU w0 seed d bb pb lb tA tB to_ go To m h' := by
  obtain ⟨gA, gB, TA, TB, a1, a2, a3⟩ := H.ab
  exact ⟨H.x.trans hx, hx.cellsAt H.c1, hx.cellsAt H.c2, hx.cellsAt H.c3, H.o.ext hx, gA, gB, TA, TB, a1.ext hx, a2.ext hx, a3⟩
theorem splIU_step {w0 h : Heap} {seed : Int} {d bb pb lb tA tB to_ go : Nat} {To : Tb Int} {m : Nat} (hd : d < 16) (n1 : bb ≠ pb) (n2 : bb ≠ lb) (n3 : pb ≠ lb) (hT : To.full.length ≤ 112) (hm : m < 8 * To.n) (hb : To.by_ m < 128)
    (H : SplIU w0 seed d bb pb lb tA tB to_ go To m h) (w1 : World) (hx : Ext h w1.heap) :
    Calls Tryz.prog 136 (.string (bs (To.k m)) :: (Value.int .u64) (To.v m) :: [.pointer (some ⟨bb, 0, none⟩), .pointer (some ⟨pb, 0, none⟩), .pointer (some ⟨lb, 0, none⟩)]).toArray w1 fun e w2 => outw w2 = outw w1 ∧ e = .returned (.tuple #[]) ∧ ∃ F, E.Frame F w1.heap w2.heap ∧ (∀ b, F b → b < h.size) ∧ SplIU w0 seed d bb pb lb tA tB to_ go To (m + 1) w2.heap := by
  obtain ⟨q1, q2, q3, q4⟩ := cell_newU To hm H.o.ok.uniq hb
  have H1 := splIU_ext H hx
  obtain ⟨gA, gB, TA, TB, a1, a2, a3, a4, a5, a6, a7⟩ := H.ab
  have hl1 : ∀ s, ((at_ To.cell m).filter (onSideU seed d s)).length ≤ 111 := fun s => by
    have := List.length_filter_le (onSideU seed d s) (at_ To.cell m)
    omega
  have hno : ∀ s x, x ∈ (at_ To.cell m).filter (onSideU seed d s) → x.1 ≠ To.k m := fun s x h => q1 x (List.mem_filter.1 h).1
  have e1 := a1.tl; have e2 := a1.gl; have e3 := a2.tl; have e4 := a2.gl
  have e5 := H.c1.1; have e6 := H.c2.1; have e7 := H.c3.1; have e8 := H.o.tl; have e9 := H.o.gl
  have hz := hx.le
  have hz0 := H.x.le
  simp only [List.mem_cons, List.not_mem_nil, or_false, forall_eq_or_imp, forall_eq, not_or, List.nodup_cons, List.nodup_nil, and_true, not_false_eq_true] at a5 a6 a7
  obtain ⟨⟨p1, p2, p3⟩, ⟨p4, p5⟩, p6⟩ := a5
  obtain ⟨⟨b1, b2, b3, b4⟩, ⟨b5, b6, b7, b8⟩, ⟨b9, b10, b11, b12⟩, ⟨b13, b14, b15, b16⟩, b17, b18, b19, b20⟩ := a6
  obtain ⟨d1, d2, d3, d4⟩ := a7
  refine (split1U_any seed d bb pb lb tA gA tB gB to_ go TA TB To (To.k m) (To.v m) w1 hd (H.o.kl _ q2) H1.c1 H1.c2 H1.c3 H1.o (a1.ext hx) (a2.ext hx) n1 n2 n3
    (by
      simp only [List.mem_cons, List.not_mem_nil, or_false, forall_eq_or_imp, forall_eq, not_or]
      exact ⟨⟨b1, b2, b3, b4⟩, ⟨b5, b6, b7, b8⟩, b9, b10, b11, b12⟩)
    (by rw [a3.length_eq]; exact hl1 0) (by rw [a4.length_eq]; exact hl1 1)).mono ?_
  rintro e w2 ⟨rfl, ho, hf, hA, hB⟩
  have hF : ∀ b, ¬ b = tA → ¬ b = gA → ¬ b = tB → ¬ b = gB → ¬ ((side d (hk seed (To.k m)) = 0 ∧ (b = tA ∨ b = gA)) ∨ (side d (hk seed (To.k m)) = 1 ∧ (b = tB ∨ b = gB))) := by
    rintro b h1 h2 h3 h4 (⟨_, h | h⟩ | ⟨_, h | h⟩)
    · exact h1 h
    · exact h2 h
    · exact h3 h
    · exact h4 h
  refine ⟨ho, rfl, _, hf, ?_, ?_⟩
  · rintro b (⟨_, rfl | rfl⟩ | ⟨_, rfl | rfl⟩) <;> assumption
  have hx2 : Ext w0 w2.heap := ((H.x.trans hx).frame (fun _ => False) |>.trans (H := fun b => w0.size ≤ b) hf (fun _ h => h.elim) (by rintro b _ (⟨_, rfl | rfl⟩ | ⟨_, rfl | rfl⟩) <;> assumption)).ext fun n hn h => Nat.not_lt.2 h hn
  have k1 := hf.cellsAt H1.c1 (hF _ b1 b2 b3 b4)
  have k2 := hf.cellsAt H1.c2 (hF _ b5 b6 b7 b8)
  have k3 := hf.cellsAt H1.c3 (hF _ b9 b10 b11 b12)
  have k4 := H1.o.frame hf (hF _ b13 b14 b15 b16) (hF _ b17 b18 b19 b20)
  have hfil : ∀ s, (at_ To.cell (m + 1)).filter (onSideU seed d s) = (at_ To.cell m).filter (onSideU seed d s) ++ if side d (hk seed (To.k m)) = s then [(To.k m, To.v m)] else [] := fun s => by
    rw [q4, List.filter_append, List.filter_cons]
    unfold onSideU
    by_cases h : side d (hk seed (To.k m)) = s <;> simp [h]
  rcases side_two d (hk seed (To.k m)) with h0 | h0
  · obtain ⟨gb', T', hg, HT', hR⟩ := hA h0
    have g1 : ∀ b, b < h.size → ¬ b = gA → ¬ b = gb' := fun b hb hn e => by rcases hg with hg | hg <;> omega
    have g2 : w0.size ≤ gb' := by rcases hg with hg | hg <;> omega
    refine ⟨hx2, k1, k2, k3, k4, gb', gB, T', TB, HT', (a2.ext hx).frame hf ?_ ?_, ?_, ?_, ?_, ?_, ?_⟩
    · rintro (⟨_, h | h⟩ | ⟨h, _⟩)
      · exact p2 h.symm
      · exact p4 h.symm
      · rw [h0] at h; cases h
    · rintro (⟨_, h | h⟩ | ⟨h, _⟩)
      · exact p3 h.symm
      · exact p5 h.symm
      · rw [h0] at h; cases h
    · rw [hfil, if_pos h0]
      exact (put_newU hR fun x hx' => hno 0 x (a3.subset hx')).trans (((a3.cons _)).trans (List.perm_append_comm (l₁ := [(To.k m, To.v m)])))
    · rw [hfil, if_neg (by rw [h0]; decide), List.append_nil]; exact a4
    · simp only [List.mem_cons, List.not_mem_nil, or_false, not_or, List.nodup_cons, List.nodup_nil, and_true, not_false_eq_true]
      exact ⟨⟨g1 _ e1 p1, p2, p3⟩, ⟨fun e => g1 _ e3 (fun e => p4 e.symm) e.symm, fun e => g1 _ e4 (fun e => p5 e.symm) e.symm⟩, p6⟩
    · simp only [List.mem_cons, List.not_mem_nil, or_false, forall_eq_or_imp, forall_eq, not_or]
      exact ⟨⟨b1, g1 _ e5 b2, b3, b4⟩, ⟨b5, g1 _ e6 b6, b7, b8⟩, ⟨b9, g1 _ e7 b10, b11, b12⟩, ⟨b13, g1 _ e8 b14, b15, b16⟩, b17, g1 _ e9 b18, b19, b20⟩
    · simp only [List.mem_cons, List.not_mem_nil, or_false, forall_eq_or_imp, forall_eq]
      exact ⟨d1, g2, d3, d4⟩
  · obtain ⟨gb', T', hg, HT', hR⟩ := hB h0
    have g1 : ∀ b, b < h.size → ¬ b = gB → ¬ b = gb' := fun b hb hn e => by rcases hg with hg | hg <;> omega
    have g2 : w0.size ≤ gb' := by rcases hg with hg | hg <;> omega
    refine ⟨hx2, k1, k2, k3, k4, gA, gb', TA, T', (a1.ext hx).frame hf ?_ ?_, HT', ?_, ?_, ?_, ?_, ?_⟩
    · rintro (⟨h, _⟩ | ⟨_, h | h⟩)
      · rw [h0] at h; cases h
      · exact p2 h
      · exact p3 h
    · rintro (⟨h, _⟩ | ⟨_, h | h⟩)
      · rw [h0] at h; cases h
      · exact p4 h
      · exact p5 h
    · rw [hfil, if_neg (by rw [h0]; decide), List.append_nil]; exact a3
    · rw [hfil, if_pos h0]
      exact (put_newU hR fun x hx' => hno 1 x (a4.subset hx')).trans (((a4.cons _)).trans (List.perm_append_comm (l₁ := [(To.k m, To.v m)])))
    · simp only [List.mem_cons, List.not_mem_nil, or_false, not_or, List.nodup_cons, List.nodup_nil, and_true, not_false_eq_true]
      exact ⟨⟨p1, p2, g1 _ e1 p3⟩, ⟨p4, g1 _ e2 p5⟩, g1 _ e3 p6⟩
    · simp only [List.mem_cons, List.not_mem_nil, or_false, forall_eq_or_imp, forall_eq, not_or]
      exact ⟨⟨b1, b2, b3, g1 _ e5 b4⟩, ⟨b5, b6, b7, g1 _ e6 b8⟩, ⟨b9, b10, b11, g1 _ e7 b12⟩, ⟨b13, b14, b15, g1 _ e8 b16⟩, b17, b18, b19, g1 _ e9 b20⟩
    · simp only [List.mem_cons, List.not_mem_nil, or_false, forall_eq_or_imp, forall_eq]
      exact ⟨d1, d2, d3, g2⟩
theorem TabAt.offU {h : Heap} {tb gb : Nat} {seed : Int} {T : Tb Int} (H : TabAt (Value.int .u64) h tb gb seed T) {b : Nat} (o : Nat) (v : Value) (h1 : b ≠ tb) (h2 : b ≠ gb) : TabAt (Value.int .u64) (setc h b o v) tb gb seed T :=
  H.frame (E.Frame.set (E.Frame.refl (fun x => x = b) _) (b := b) (fun _ => rfl) o v) (fun e => h1 e.symm) (fun e => h2 e.symm)
theorem split_tailU (w w3 : World) (seed : Int) (d bb pb lb tA tB tb gb : Nat) (T : Tb Int) (hd : d < 16) (n1 : bb ≠ pb) (n2 : bb ≠ lb) (n3 : pb ≠ lb) (hT : T.full.length ≤ 112) (H : SplIU w.heap seed d bb pb lb tA tB tb gb T 0 w3.heap) :
    Calls Tryz.prog 134 #[.slice (some ⟨gb, 0, none⟩) T.n T.n, .func (.func 136) #[] #[.pointer (some ⟨bb, 0, none⟩), .pointer (some ⟨pb, 0, none⟩), .pointer (some ⟨lb, 0, none⟩)]] w3 fun e v => e = .returned (.tuple #[]) ∧ outw v = outw w3 ∧ E.Frame (fun b => w.heap.size ≤ b) w3.heap v.heap ∧ SplIU w.heap seed d bb pb lb tA tB tb gb T (8 * T.n) v.heap := by
  refine (eachGU_any 136 [.pointer (some ⟨bb, 0, none⟩), .pointer (some ⟨pb, 0, none⟩), .pointer (some ⟨lb, 0, none⟩)] T gb (fun m h => SplIU w.heap seed d bb pb lb tA tB tb gb T m h ∧ w3.heap.size ≤ h.size) w3 (by kernel_rfl) H.o.few ⟨H, Nat.le_refl _⟩ (fun m h hI => hI.1.o.gr) (fun m h hI => hI.1.o.gl) (fun m h h' hI hx => ⟨splIU_ext hI.1 hx, Nat.le_trans hI.2 hx.le⟩) ?_ ?_).mono ?_
  · rintro m h hm hb ⟨hI, hz⟩
    have e : at_ T.cell (m + 1) = at_ T.cell m := by rw [at_succ, T.cell_none hb]; simp
    obtain ⟨gA, gB, TA, TB, a1, a2, a3, a4, a5⟩ := hI.ab
    exact ⟨⟨hI.x, hI.c1, hI.c2, hI.c3, hI.o, gA, gB, TA, TB, a1, a2, by rw [e]; exact a3, by rw [e]; exact a4, a5⟩, hz⟩
  · rintro m h hm hb ⟨hI, hz⟩ w1 hx
    refine (splIU_step hd n1 n2 n3 hT hm hb hI w1 hx).mono ?_
    rintro e w2 ⟨ho, rfl, F, hF, hF2, hI2⟩
    exact ⟨ho, rfl, F, hF, hF2, hI2, Nat.le_trans hz (Nat.le_trans hx.le hF.le)⟩
  · rintro e v ⟨rfl, ho, hI, hz⟩
    refine ⟨rfl, ho, ⟨hz, fun b hb hn => ?_⟩, hI⟩
    have hb' : b < w.heap.size := Nat.lt_of_not_le hn
    rw [hI.x.old b hb', H.x.old b hb']
theorem splI0U {w0 h3 : Heap} {seed : Int} {d bb pb lb tA gA tB gB tb gb : Nat} {T : Tb Int} (hx : Ext w0 h3) (c1 : CellsAt h3 bb 0 [.int .i64 (d : Nat)]) (c2 : CellsAt h3 pb 0 [.pointer (some ⟨tb, 0, none⟩)]) (c3 : CellsAt h3 lb 0 [.pointer (some ⟨tA, 0, none⟩), .pointer (some ⟨tB, 0, none⟩)])
    (ho : TabAt (Value.int .u64) h3 tb gb seed T) (hA : TabAt (Value.int .u64) h3 tA gA seed (Tb.new 1 (0 : Int))) (hB : TabAt (Value.int .u64) h3 tB gB seed (Tb.new 1 (0 : Int))) (hn : [tA, gA, tB, gB].Nodup) (h5 : ∀ b ∈ [bb, pb, lb, tb, gb], b ∉ [tA, gA, tB, gB]) (h6 : ∀ b ∈ [tA, gA, tB, gB], w0.size ≤ b) : SplIU w0 seed d bb pb lb tA tB tb gb T 0 h3 :=
  ⟨hx, c1, c2, c3, ho, gA, gB, _, _, hA, hB, by rw [Tb.new_full]; exact List.Perm.refl _, by rw [Tb.new_full]; exact List.Perm.refl _, hn, h5, h6⟩
theorem tSplitU_any (seed : Int) (d tb gb : Nat) (T : Tb Int) (w : World) (hd : d < 16) (H : TabAt (Value.int .u64) w.heap tb gb seed T) (hT : T.full.length ≤ 112) :
    Calls Tryz.prog 122 #[.pointer (some ⟨tb, 0, none⟩), .int .i64 (d : Nat)] w fun e w' => ∃ tA tB gA gB TA TB, e = .returned (.tuple #[.pointer (some ⟨tA, 0, none⟩), .pointer (some ⟨tB, 0, none⟩)]) ∧ Ext w.heap w'.heap ∧ outw w' = outw w ∧
      TabAt (Value.int .u64) w'.heap tA gA seed TA ∧ TabAt (Value.int .u64) w'.heap tB gB seed TB ∧ TA.full.Perm (T.full.filter (onSideU seed d 0)) ∧ TB.full.Perm (T.full.filter (onSideU seed d 1)) ∧
      [tA, gA, tB, gB].Nodup ∧ ∀ b ∈ [tA, gA, tB, gB], w.heap.size ≤ b := by
  refine begins (k122 {}) [.ptr (.at (.v 0) (.c 0)), .int .i64 (.ofN (.v 1))] [(.v 0, .c 0, [.int .u64 (.v 0), .slice (.at (.v 2) (.c 0)) (.v 3) (.v 3), .int .i64 (.ofN (.v 4)), .int .i64 (.ofN (.v 5))])]
    { n := fun j => if j = 0 then tb else if j = 1 then d else if j = 2 then gb else if j = 3 then T.n else if j = 4 then T.full.length else T.dels, i := fun _ => seed, h := fun _ => w.heap, o := outw w } 6 1000 rfl rfl rfl
    ⟨by simpa [NE.den, SV.den, IE.den, PE.den] using H.hd, trivial, trivial⟩ (by simp [SV.den, NE.den, PE.den, IE.den]) ?_
  conv => arg 7; reduce
  simp only [VC.den, IE.den, NE.den, SV.den, HE.den, PE.den, WS.den, WI.den, noneIn, List.map_cons, List.map_nil, reduceIte, Nat.reduceEqDiff, Env.setE, Env.setH, Env.setN, Env.setP, Env.setW]
  have htl := H.tl
  have hgl := H.gl
  have tail : ∀ (h3 : Heap) (tA tB lb : Nat), (w.heap.push (.cells #[.pointer (some ⟨tb, 0, none⟩)] 105)).size ≠ lb → w.heap.size ≠ lb → SplIU w.heap seed d (w.heap.push (.cells #[.pointer (some ⟨tb, 0, none⟩)] 105)).size w.heap.size lb tA tB tb gb T 0 h3 → ∀ w3 : World, w3.heap = h3 → outw w3 = outw w →
      Calls Tryz.prog 134 #[.slice (some ⟨gb, 0, none⟩) T.n T.n, .func (.func 136) #[] #[.pointer (some ⟨(w.heap.push (.cells #[.pointer (some ⟨tb, 0, none⟩)] 105)).size, 0, none⟩), .pointer (some ⟨w.heap.size, 0, none⟩), .pointer (some ⟨lb, 0, none⟩)]] w3 fun e w' => outw w' = outw w ∧ ∃ F, E.Frame F h3 w'.heap ∧ (¬ F tb ∧ True) ∧ e = .returned (.tuple #[]) ∧
        ∃ x, E.get w'.heap lb 0 = some (.pointer x) ∧ ∃ y, E.get w'.heap lb 1 = some (.pointer y) ∧ ∀ w4 : World, w4.heap = w'.heap → outw w4 = outw w → ∃ tA tB gA gB TA TB, Ending.returned (.tuple #[.pointer x, .pointer y]) = .returned (.tuple #[.pointer (some ⟨tA, 0, none⟩), .pointer (some ⟨tB, 0, none⟩)]) ∧ Ext w.heap w4.heap ∧ outw w4 = outw w ∧
      TabAt (Value.int .u64) w4.heap tA gA seed TA ∧ TabAt (Value.int .u64) w4.heap tB gB seed TB ∧ TA.full.Perm (T.full.filter (onSideU seed d 0)) ∧ TB.full.Perm (T.full.filter (onSideU seed d 1)) ∧
      [tA, gA, tB, gB].Nodup ∧ ∀ b ∈ [tA, gA, tB, gB], w.heap.size ≤ b := by
    intro h3 tA tB lb n2 n3 hS w3 hw3 ho3
    refine (split_tailU w w3 seed d _ _ lb tA tB tb gb T hd (by rw [Array.size_push]; omega) n2 n3 hT (by rw [hw3]; exact hS)).mono ?_
    rintro e v ⟨rfl, ho, hf, hI⟩
    rw [hw3] at hf
    refine ⟨ho.trans ho3, _, hf, ⟨by omega, trivial⟩, rfl, _, hI.c3.at0 (j := 0) rfl, _, hI.c3.at0 (j := 1) rfl, fun w4 hw4 ho4 => ?_⟩
    obtain ⟨gA, gB, TA, TB, a1, a2, a3, a4, a5, a6, a7⟩ := hI.ab
    exact ⟨tA, tB, gA, gB, TA, TB, rfl, by rw [hw4]; exact hI.x, ho4, by rw [hw4]; exact a1, by rw [hw4]; exact a2, a3, a4, a5, a7⟩
  refine ⟨?_, ?_⟩
  · intro w1 hw1 ho1
    refine (tNewU_any seed w1).mono ?_
    rintro e1 v1 ⟨tA, gA, rfl, htA, hgA, hx1, HA, hp1⟩
    rw [hw1] at htA hgA hx1
    have hx0 := (ext_push w.heap (.cells #[.pointer (some ⟨tb, 0, none⟩)] 105)).trans ((ext_push _ (.cells #[.int .i64 (d : Nat)] 3)).trans hx1)
    have l1 := HA.tl; have l2 := HA.gl; have l3 := HA.ne
    simp only [Array.size_push] at htA hgA
    refine ⟨hp1.trans ho1, hx1, _, rfl, ?_, ?_⟩
    · intro w2 hw2 ho2
      refine (tNewU_any seed w2).mono ?_
      rintro e2 v2 ⟨tB, gB, rfl, htB, hgB, hx2, HB, hp2⟩
      rw [hw2] at htB hgB hx2
      have m1 := HB.tl; have m2 := HB.gl; have m3 := HB.ne
      have hz1 := hx1.le; have hz2 := hx2.le
      simp only [Array.size_push] at hz1
      refine ⟨hp2.trans ho2, hx2, _, rfl, fun c3 c1 c2 w3 hw3 ho3 => ?_⟩
      have xx := (((Ext.refl v2.heap).push (.cells #[.pointer none, .pointer none] 225)).set (b := v2.heap.size) (Nat.le_refl _) 0 (.pointer (some ⟨tA, 0, none⟩))).set (b := v2.heap.size) (Nat.le_refl _) 1 (.pointer (some ⟨tB, 0, none⟩))
      refine (tail _ tA tB _ (by simp only [Array.size_push]; omega) (by omega) (splI0U ((hx0.trans hx2).trans xx) c1 c2 c3 (H.ext ((hx0.trans hx2).trans xx)) (HA.ext (hx2.trans xx)) (HB.ext xx) (by simp only [List.mem_cons, List.not_mem_nil, or_false, not_or, List.nodup_cons, List.nodup_nil, and_true, not_false_eq_true]; omega) (by simp only [List.mem_cons, List.not_mem_nil, or_false, forall_eq_or_imp, forall_eq, not_or, Array.size_push]; omega) (by simp only [List.mem_cons, List.not_mem_nil, or_false, forall_eq_or_imp, forall_eq]; omega)) w3 hw3 ho3).mono ?_
      rintro e v ⟨g1, F, g2, g3, g4, x, g5, y, g6, g7⟩
      exact ⟨g1, F, g2, g3, g4, x, g5, y, g6, fun _ _ => g7⟩
    · intro w2 hw2 ho2
      refine (tNewU_any seed w2).mono ?_
      rintro e2 v2 ⟨tB, gB, rfl, htB, hgB, hx2, HB, hp2⟩
      rw [hw2] at htB hgB hx2
      have m1 := HB.tl; have m2 := HB.gl; have m3 := HB.ne
      have hz1 := hx1.le; have hz2 := hx2.le
      simp only [Array.size_push] at hz1 hz2 htB hgB
      refine ⟨hp2.trans ho2, hx2, _, rfl, fun c3 c1 c2 w3 hw3 ho3 => ?_⟩
      have xx := (((ext_push v1.heap (.cells #[.pointer none, .pointer none] 225)).trans hx2).set (b := v1.heap.size) (Nat.le_refl _) 0 (.pointer (some ⟨tA, 0, none⟩))).set (b := v1.heap.size) (Nat.le_refl _) 1 (.pointer (some ⟨tB, 0, none⟩))
      refine (tail _ tA tB _ (by simp only [Array.size_push]; omega) (by omega) (splI0U (hx0.trans xx) c1 c2 c3 (H.ext (hx0.trans xx)) (HA.ext xx) ((HB.offU _ _ (by omega) (by omega)).offU _ _ (by omega) (by omega)) (by simp only [List.mem_cons, List.not_mem_nil, or_false, not_or, List.nodup_cons, List.nodup_nil, and_true, not_false_eq_true]; omega) (by simp only [List.mem_cons, List.not_mem_nil, or_false, forall_eq_or_imp, forall_eq, not_or, Array.size_push]; omega) (by simp only [List.mem_cons, List.not_mem_nil, or_false, forall_eq_or_imp, forall_eq]; omega)) w3 hw3 ho3).mono ?_
      rintro e v ⟨g1, F, g2, g3, g4, x, g5, y, g6, g7⟩
      exact ⟨g1, F, g2, g3, g4, x, g5, y, g6, fun _ _ => g7⟩
  · intro w1 hw1 ho1
    refine (tNewU_any seed w1).mono ?_
    rintro e1 v1 ⟨tA, gA, rfl, htA, hgA, hx1, HA, hp1⟩
    rw [hw1] at htA hgA hx1
    have hx0 := (ext_push w.heap (.cells #[.pointer (some ⟨tb, 0, none⟩)] 105)).trans ((ext_push _ (.cells #[.int .i64 (d : Nat)] 3)).trans ((ext_push _ (.cells #[.pointer none, .pointer none] 225)).trans hx1))
    have l1 := HA.tl; have l2 := HA.gl; have l3 := HA.ne
    simp only [Array.size_push] at htA hgA
    refine ⟨hp1.trans ho1, hx1, _, rfl, ?_⟩
    intro w2 hw2 ho2
    refine (tNewU_any seed w2).mono ?_
    rintro e2 v2 ⟨tB, gB, rfl, htB, hgB, hx2, HB, hp2⟩
    rw [hw2] at htB hgB hx2
    have m1 := HB.tl; have m2 := HB.gl; have m3 := HB.ne
    have hz1 := hx1.le; have hz2 := hx2.le
    simp only [Array.size_push] at hz1
    refine ⟨hp2.trans ho2, hx2, _, rfl, fun c3 c1 c2 w3 hw3 ho3 => ?_⟩
    have xx := (((hx0.trans hx2)).set (b := ((w.heap.push (.cells #[.pointer (some ⟨tb, 0, none⟩)] 105)).push (.cells #[.int .i64 (d : Nat)] 3)).size) (by simp only [Array.size_push]; omega) 0 (.pointer (some ⟨tA, 0, none⟩))).set (b := ((w.heap.push (.cells #[.pointer (some ⟨tb, 0, none⟩)] 105)).push (.cells #[.int .i64 (d : Nat)] 3)).size) (by simp only [Array.size_push]; omega) 1 (.pointer (some ⟨tB, 0, none⟩))
    refine (tail _ tA tB _ (by simp only [Array.size_push]; omega) (by simp only [Array.size_push]; omega) (splI0U xx c1 c2 c3 (H.ext xx) (((HA.ext hx2).offU _ _ (by simp only [Array.size_push]; omega) (by simp only [Array.size_push]; omega)).offU _ _ (by simp only [Array.size_push]; omega) (by simp only [Array.size_push]; omega)) ((HB.offU _ _ (by simp only [Array.size_push]; omega) (by simp only [Array.size_push]; omega)).offU _ _ (by simp only [Array.size_push]; omega) (by simp only [Array.size_push]; omega)) (by simp only [List.mem_cons, List.not_mem_nil, or_false, not_or, List.nodup_cons, List.nodup_nil, and_true, not_false_eq_true]; omega) (by simp only [List.mem_cons, List.not_mem_nil, or_false, forall_eq_or_imp, forall_eq, not_or, Array.size_push]; omega) (by simp only [List.mem_cons, List.not_mem_nil, or_false, forall_eq_or_imp, forall_eq]; omega)) w3 hw3 ho3).mono ?_
    rintro e v ⟨g1, F, g2, g3, g4, x, g5, y, g6, g7⟩
    exact ⟨g1, F, g2, g3, g4, x, g5, y, g6, fun _ _ => g7⟩
end Go.Proofs.YtkcjhabbgaaknaaGreat
/- A dict of several nodes: a hash's node, what is found in it, whether it has room (U). -/
namespace Go.Proofs.YtkcjhabbgaaknaaGreat
open E
set_option maxRecDepth 100000
theorem placeXU_any {S : Nat → Prop} {d db D C : Nat} {seed : Int} {M : List (Key × Int)} {nd : Nat → Nd Int} (x : Nat) (hx : x < 2 ^ 64) (w : World) (H : DirAt (Value.int .u64) w.heap S d db D C seed M nd) :
    Calls Tryz.prog 70 #[.pointer (some ⟨d, 0, none⟩), .int .u64 (x : Nat)] w (RetX (.pointer (some ⟨(nd (x % 2 ^ D)).b, 0, none⟩)) w.heap (outw w)) := by
  refine begins (k70 {}) [.ptr (.at (.v 0) (.c 0)), .int .u64 (.ofN (.v 3))] [(.v 0, .c 0, [.int .u64 (.v 0), .int .i64 (.ofN (.v 5)), .slice (.at (.v 1) (.c 0)) (.v 6) (.v 2), .int .i64 (.ofN (.v 4))])]
    { n := fun j => if j = 0 then d else if j = 1 then db else if j = 2 then C else if j = 3 then x else if j = 4 then M.length else if j = 5 then D else 2 ^ D, i := fun _ => seed, h := fun _ => w.heap, o := outw w } 7 1000 rfl rfl rfl
    ⟨by simpa [NE.den, SV.den, IE.den, PE.den] using H.dc, trivial, trivial⟩ (by simp [SV.den, IE.den, NE.den, PE.den]) ?_
  conv => arg 7; reduce
  simp only [VC.den, BE.prop, IE.den, NE.den, SV.den, HE.den, PE.den, WS.den, List.map_cons, List.map_nil, Int.cast_ofNat_Int, reduceIte, Nat.reduceEqDiff, Env.setE, Env.setH, Env.setI, Env.setP]
  have hd := H.d14
  have hm := H.at_lt x
  intro w1 hw1 ho1
  refine (Low_gen x D hx (by omega) _).mono ?_
  rintro e1 v1 ⟨rfl, hx1, hp1⟩
  rw [hw1] at hx1
  refine ⟨hp1.trans ho1, hx1, ?_⟩
  refine ⟨_, rfl, by omega, by omega, some ⟨(nd (x % 2 ^ D)).b, 0, none⟩, ?_, fun _ => ?_⟩
  · rw [Int.toNat_natCast]; exact (hx1.cellsAt H.bc).at0 (dirC_get nd hm)
  exact (fun hf wr hwr hor => ⟨rfl, by rw [hwr]; exact hf.none, hor⟩)
theorem nfindXU_any (nb lb tb gb dep : Nat) (seed : Int) (T : Tb Int) (key : Key) (w : World) (hs : key.length ≤ 9223372036854775807) (hnl : nb ≠ lb)
    (hn : CellsAt w.heap nb 0 [.int .i64 (dep : Nat), .slice (some ⟨lb, 0, none⟩) 1 1]) (hl : CellsAt w.heap lb 0 [.pointer (some ⟨tb, 0, none⟩)]) (HT : TabAt (Value.int .u64) w.heap tb gb seed T) :
    Calls Tryz.prog 71 #[.pointer (some ⟨nb, 0, none⟩), .string (bs key)] w fun e w' => ∃ p : Option Addr, e = .returned (.pointer p) ∧ ((p = some ⟨tb, 0, none⟩ ∧ ∃ v, (key, v) ∈ T.full) ∨ (p = none ∧ ∀ x ∈ T.full, x.1 ≠ key)) ∧ Ext w.heap w'.heap ∧ outw w' = outw w := by
  refine begins (k71 {}) [.ptr (.at (.v 0) (.c 0)), .str (.v 0)] [(.v 0, .c 0, [.int .i64 (.ofN (.v 3)), .slice (.at (.v 1) (.c 0)) (.c 1) (.c 1)]), (.v 1, .c 0, [.ptr (.at (.v 2) (.c 0))])]
    { n := fun j => if j = 0 then nb else if j = 1 then lb else if j = 2 then tb else dep, s := fun _ => key, h := fun _ => w.heap, o := outw w } 4 1000 rfl rfl rfl
    ⟨by simpa [NE.den, SV.den, IE.den, PE.den] using hn, ⟨by simpa [NE.den] using hnl, trivial⟩, by simpa [NE.den, SV.den, PE.den] using hl, trivial, trivial⟩ (by simp [SV.den, NE.den, PE.den, SE.den]) ?_
  conv => arg 7; reduce
  simp only [VC.den, IE.den, NE.den, SE.den, SV.den, HE.den, PE.den, WS.den, List.map_cons, List.map_nil, Int.cast_ofNat_Int, reduceIte, Nat.reduceEqDiff]
  intro _ _ _
  refine looping (k71 {}) [.str (.v 0), .slice (.at (.v 1) (.c 0)) (.c 1) (.c 1), .int .i64 (.c 1), .int .i64 (.ofN (.v 3))] []
    (fun y : Nat × Heap => { n := fun j => if j = 1 then lb else y.1, s := fun _ => key, h := fun _ => y.2, o := outw w }) 4 1000
    (fun y => y.1 ≤ 1 ∧ Ext w.heap y.2 ∧ (y.1 = 1 → ∀ x ∈ T.full, x.1 ≠ key)) (fun y => 1 - y.1) (0, w.heap) ⟨by simp, Ext.refl _, fun h => absurd h (by simp)⟩ rfl (by simp [SV.den, IE.den, NE.den, PE.den, SE.den]) rfl (fun _ => rfl) (fun _ _ => trivial) ?_
  rintro ⟨i, h⟩ ⟨hi, hx, hno⟩ N hN
  simp only at hi hx hno
  simp only [SV.den, SE.den, PE.den, NE.den, IE.den, List.map_cons, List.map_nil, reduceIte, Nat.reduceEqDiff] at hN
  conv => arg 7; reduce
  simp only [VC.den, BE.prop, IE.den, NE.den, SE.den, SV.den, HE.den, PE.den, BE.den, WS.den, List.map_cons, List.map_nil, Int.cast_ofNat_Int, reduceIte, Nat.reduceEqDiff, Env.setE, Env.setH, Env.setB, Env.setI, Env.setP, inK_i64]
  refine ⟨fun h1 => ?_, fun h1 _ w1 hw1 ho1 => ?_⟩
  · obtain rfl : i = 0 := by omega
    refine ⟨h1, _, (hx.cellsAt hl).at0 (j := 0) rfl, fun w1 hw1 ho1 => ?_⟩
    refine (tGetU_any seed T tb gb key w1 (by rw [hw1]; exact HT.ext hx) hs).mono ?_
    rintro e1 v1 ⟨v, ok, rfl, hH, hx1, hp1⟩
    rw [hw1] at hx1
    refine ⟨hp1.trans ho1, hx1, v, ok, rfl, fun hok _ w2 hw2 ho2 => ?_, fun hok => ⟨by omega, fun _ => ?_⟩⟩
    · rcases hH with ⟨_, hH⟩ | ⟨hH, _⟩
      · exact ⟨_, rfl, .inl ⟨rfl, v, hH⟩, by rw [hw2]; exact hx.trans hx1, ho2⟩
      · rw [hok] at hH; cases hH
    · rcases hH with ⟨hH, _⟩ | ⟨_, _, hH⟩
      · exact absurd hH hok
      · exact hN (1, v1.heap) ⟨Nat.le_refl _, hx.trans hx1, fun _ => hH⟩ (by simp)
  · exact ⟨none, rfl, .inr ⟨rfl, hno (by omega)⟩, by rw [hw1]; exact hx, ho1⟩
theorem roomXU_any (nb lb tb gb dep : Nat) (seed : Int) (T : Tb Int) (w : World) (hnl : nb ≠ lb)
    (hn : CellsAt w.heap nb 0 [.int .i64 (dep : Nat), .slice (some ⟨lb, 0, none⟩) 1 1]) (hl : CellsAt w.heap lb 0 [.pointer (some ⟨tb, 0, none⟩)]) (HT : TabAt (Value.int .u64) w.heap tb gb seed T) :
    Calls Tryz.prog 91 #[.pointer (some ⟨nb, 0, none⟩)] w fun e w' => e = .returned (.pointer (if T.full.length < 112 then some ⟨tb, 0, none⟩ else none)) ∧ Ext w.heap w'.heap ∧ outw w' = outw w := by
  refine begins (k91 {}) [.ptr (.at (.v 0) (.c 0))] [(.v 0, .c 0, [.int .i64 (.ofN (.v 3)), .slice (.at (.v 1) (.c 0)) (.c 1) (.c 1)]), (.v 1, .c 0, [.ptr (.at (.v 2) (.c 0))])]
    { n := fun j => if j = 0 then nb else if j = 1 then lb else if j = 2 then tb else dep, h := fun _ => w.heap, o := outw w } 4 1000 rfl rfl rfl
    ⟨by simpa [NE.den, SV.den, IE.den, PE.den] using hn, ⟨by simpa [NE.den] using hnl, trivial⟩, by simpa [NE.den, SV.den, PE.den] using hl, trivial, trivial⟩ (by simp [SV.den, NE.den, PE.den]) ?_
  conv => arg 7; reduce
  simp only [VC.den, IE.den, NE.den, SV.den, HE.den, PE.den, WS.den, List.map_cons, List.map_nil, Int.cast_ofNat_Int, reduceIte, Nat.reduceEqDiff]
  intro _ _ _
  refine looping (k91 {}) [.slice (.at (.v 1) (.c 0)) (.c 1) (.c 1), .int .i64 (.c 1), .int .i64 (.ofN (.v 3))] []
    (fun y : Nat × Heap => { n := fun j => if j = 1 then lb else y.1, h := fun _ => y.2, o := outw w }) 4 1000
    (fun y => y.1 ≤ 1 ∧ Ext w.heap y.2 ∧ (y.1 = 1 → ¬ T.full.length < 112)) (fun y => 1 - y.1) (0, w.heap) ⟨by simp, Ext.refl _, fun h => absurd h (by simp)⟩ rfl (by simp [SV.den, IE.den, NE.den, PE.den]) rfl (fun _ => rfl) (fun _ _ => trivial) ?_
  rintro ⟨i, h⟩ ⟨hi, hx, hno⟩ N hN
  simp only at hi hx hno
  simp only [SV.den, PE.den, NE.den, IE.den, List.map_cons, List.map_nil, reduceIte, Nat.reduceEqDiff] at hN
  conv => arg 7; reduce
  simp only [VC.den, BE.prop, IE.den, NE.den, SV.den, HE.den, PE.den, WS.den, List.map_cons, List.map_nil, Int.cast_ofNat_Int, reduceIte, Nat.reduceEqDiff, Env.setE, Env.setH, Env.setI, Env.setP, inK_i64]
  refine ⟨fun h1 => ?_, fun h1 _ w1 hw1 ho1 => ?_⟩
  · obtain rfl : i = 0 := by omega
    refine ⟨h1, _, (hx.cellsAt hl).at0 (j := 0) rfl, fun w1 hw1 ho1 => ?_⟩
    refine (tLenU_any seed T tb gb w1 (by rw [hw1]; exact HT.ext hx)).mono ?_
    rintro e1 v1 ⟨rfl, hx1, hp1⟩
    rw [hw1] at hx1
    refine ⟨hp1.trans ho1, hx1, _, rfl, fun hok _ w2 hw2 ho2 => ?_, fun hok => ⟨by omega, fun _ => ?_⟩⟩
    · rw [if_pos (by omega)]; exact ⟨rfl, by rw [hw2]; exact hx.trans hx1, ho2⟩
    · exact hN (1, v1.heap) ⟨Nat.le_refl _, hx.trans hx1, fun _ => by omega⟩ (by simp)
  · rw [if_neg (hno (by omega))]; exact ⟨rfl, by rw [hw1]; exact hx, ho1⟩
theorem has_dirU {h : Heap} {S : Nat → Prop} {d db D C : Nat} {seed : Int} {M : List (Key × Int)} {nd : Nat → Nd Int} (H : DirAt (Value.int .u64) h S d db D C seed M nd) {key : Key} {v : Int} {ok : Bool} (hH : HasU (nd (hk seed key % 2 ^ D)).T.full key v ok) : HasU M key v ok := by
  rcases hH with ⟨a, b⟩ | ⟨a, b, c⟩
  · exact .inl ⟨a, (H.cont (key, v)).2 b⟩
  · refine .inr ⟨a, b, fun x hx e => ?_⟩
    have := (H.cont x).1 hx
    rw [e] at this
    exact c x this e
theorem no_dirU {h : Heap} {S : Nat → Prop} {d db D C : Nat} {seed : Int} {M : List (Key × Int)} {nd : Nat → Nd Int} (H : DirAt (Value.int .u64) h S d db D C seed M nd) {key : Key} : (∀ x ∈ (nd (hk seed key % 2 ^ D)).T.full, x.1 ≠ key) ↔ ∀ x ∈ M, x.1 ≠ key := by
  constructor
  · intro hn x hx e
    have := (H.cont x).1 hx
    rw [e] at this
    exact hn x this e
  · intro hn x hx e
    refine hn x ((H.cont x).2 ?_) e
    rw [e]; exact hx
theorem dGetXU_any {S : Nat → Prop} {d db D C : Nat} {seed : Int} {M : List (Key × Int)} {nd : Nat → Nd Int} (key : Key) (w : World) (H : DirAt (Value.int .u64) w.heap S d db D C seed M nd) (hs : key.length ≤ 9223372036854775807) :
    Calls Tryz.prog 42 #[.pointer (some ⟨d, 0, none⟩), .string (bs key)] w fun e w' => ∃ v ok, e = .returned (.tuple #[(Value.int .u64) v, .bool ok]) ∧ HasU M key v ok ∧ Ext w.heap w'.heap ∧ outw w' = outw w := by
  refine begins (k42 {}) [.ptr (.at (.v 0) (.c 0)), .str (.v 0)] [(.v 0, .c 0, [.int .u64 (.v 0), .int .i64 (.ofN (.v 5)), .slice (.at (.v 1) (.c 0)) (.v 6) (.v 2), .int .i64 (.ofN (.v 4))])]
    { n := fun j => if j = 0 then d else if j = 1 then db else if j = 2 then C else if j = 4 then M.length else if j = 5 then D else 2 ^ D, i := fun _ => seed, s := fun _ => key, h := fun _ => w.heap, o := outw w } 7 1000 rfl rfl rfl
    ⟨by simpa [NE.den, SV.den, IE.den, PE.den] using H.dc, trivial, trivial⟩ (by simp [SV.den, NE.den, PE.den, SE.den]) ?_
  conv => arg 7; reduce
  simp only [VC.den, BE.prop, IE.den, NE.den, SE.den, SV.den, HE.den, PE.den, BE.den, WS.den, List.map_cons, List.map_nil, Int.cast_ofNat_Int, reduceIte, Nat.reduceEqDiff, Env.setE, Env.setH, Env.setB, Env.setI, Env.setP]
  have hN := H.node _ (H.at_lt (hk seed key))
  have hne := hN.ne
  simp only [Nd.bl, List.nodup_cons, List.mem_cons, List.not_mem_nil, or_false, not_or, List.nodup_nil, and_true, not_false_eq_true] at hne
  intro w1 hw1 ho1
  refine (Of_any seed key w1 hs).mono ?_
  rintro e1 v1 ⟨rfl, hx1, hp1⟩
  rw [hw1] at hx1
  rw [hk_cast]
  refine ⟨hp1.trans ho1, hx1, _, rfl, fun _ w2 hw2 ho2 => ?_⟩
  refine (placeXU_any (hk seed key) (hk_lt _ _) w2 (by rw [hw2]; exact H.ext hx1)).mono ?_
  rintro e2 v2 ⟨rfl, hx2, hp2⟩
  rw [hw2] at hx2
  refine ⟨hp2.trans ho2, hx2, _, rfl, fun w3 hw3 ho3 => ?_⟩
  have hX2 := hx1.trans hx2
  refine (nfindXU_any _ _ _ _ _ seed _ key w3 hs hne.1.1 (by rw [hw3]; exact hX2.cellsAt hN.nc) (by rw [hw3]; exact hX2.cellsAt hN.lc) (by rw [hw3]; exact hN.tab.ext hX2)).mono ?_
  rintro e3 v3 ⟨p, rfl, hP, hx3, hp3⟩
  rw [hw3] at hx3
  have hX3 := hX2.trans hx3
  refine ⟨hp3.trans ho3, hx3, p, rfl, fun hpn w4 hw4 ho4 => ?_, fun hpn _ hf w4 hw4 ho4 => ?_⟩
  · rcases hP with ⟨rfl, _⟩ | ⟨h, _⟩
    · refine (tGetU_any seed _ _ _ key w4 (by rw [hw4]; exact hN.tab.ext hX3) hs).mono ?_
      rintro e4 v4 ⟨v, ok, rfl, hH, hx4, hp4⟩
      rw [hw4] at hx4
      exact ⟨hp4.trans ho4, hx4, v, ok, rfl, fun _ hf w5 hw5 ho5 => ⟨v, ok, rfl, has_dirU H hH, by rw [hw5]; exact hf.none, ho5⟩⟩
    · exact absurd h hpn
  · rcases hP with ⟨h, _⟩ | ⟨_, h⟩
    · exact absurd (by rw [h]; simp) hpn
    · exact ⟨(0 : Int), false, rfl, .inr ⟨rfl, rfl, (no_dirU H).1 h⟩, by rw [hw4]; exact hf.none, ho4⟩
end Go.Proofs.YtkcjhabbgaaknaaGreat
/- A node of a dict is split: its places in the directory (U). -/
namespace Go.Proofs.YtkcjhabbgaaknaaGreat
open E
set_option maxRecDepth 100000
abbrev oSU : Opts := { cuts := [[1], [1, 1, 1]], tell := true }
/-- A row of pointers. -/
def ptrU (f : Nat → Nat) (n : Nat) : List Value := (List.range n).map fun i => .pointer (some ⟨f i, 0, none⟩)
theorem ptrU_get (f : Nat → Nat) {n i : Nat} (hi : i < n) : (ptrU f n)[i]? = some (.pointer (some ⟨f i, 0, none⟩)) := by simp [ptrU, hi]
theorem ptrU_congr {f g : Nat → Nat} {n : Nat} (h : ∀ i, i < n → f i = g i) : ptrU f n = ptrU g n := by
  unfold ptrU
  exact List.map_congr_left fun i hi => by rw [h i (List.mem_range.1 hi)]
theorem ptrU_len (f : Nat → Nat) (n : Nat) : (ptrU f n).length = n := by simp [ptrU]
theorem ptrU_set (f : Nat → Nat) (n t v : Nat) : (ptrU f n).set t (.pointer (some ⟨v, 0, none⟩)) = ptrU (fun j => if j = t then v else f j) n := by
  apply List.ext_getElem
  · simp [ptrU]
  · intro i h1 h2
    simp only [ptrU, List.length_set, List.length_map, List.length_range] at h1
    by_cases e : i = t
    · subst e; simp [ptrU]
    · simp [ptrU, e, List.getElem_set_ne (Ne.symm e)]
theorem and1U (x : Nat) : E.intBits .and .i64 (x : Int) 1 = ((x % 2 : Nat) : Int) := by
  have h1 : BitVec.ofInt IntKind.i64.bits ((x : Nat) : Int) = BitVec.ofNat 64 x := BitVec.ofInt_natCast _ _
  have h2 : BitVec.ofInt IntKind.i64.bits (1 : Int) = BitVec.ofNat 64 1 := BitVec.ofInt_natCast 64 1
  have h3 : (BitVec.ofNat 64 x &&& BitVec.ofNat 64 1).toNat = x % 2 := by
    rw [BitVec.toNat_and, BitVec.toNat_ofNat, BitVec.toNat_ofNat, Nat.mod_eq_of_lt (show 1 < 2 ^ 64 by decide), Nat.and_one_is_mod]
    omega
  unfold E.intBits
  simp only [h1, h2]
  show IntKind.i64.wrap (((BitVec.ofNat 64 x &&& BitVec.ofNat 64 1).toNat : Nat) : Int) = _
  rw [h3]
  exact wrap_of_in (by show inK .i64 _; rw [inK_i64]; omega)
theorem splitLU (R : Ending → World → Prop) (o : Os × Array (Nat × ByteArray)) (h : Heap) (d db nb ar bA bB D C n dep lb : Nat) (seed : Int) (f : Nat → Nat) (rest : List Value) (hD : D ≤ 15) (hd : dep < 15)
    (dc : CellsAt h d 0 [.int .u64 seed, .int .i64 (D : Nat), .slice (some ⟨db, 0, none⟩) (2 ^ D) C, .int .i64 (n : Nat)]) (bc : CellsAt h db 0 (ptrU f (2 ^ D) ++ rest))
    (nc : CellsAt h nb 0 [.int .i64 (dep : Nat), .slice (some ⟨lb, 0, none⟩) 1 1]) (ac : CellsAt h ar 0 [.pointer (some ⟨bA, 0, none⟩), .pointer (some ⟨bB, 0, none⟩)])
    (hpl : ∀ j, j < 2 ^ D → PlainB h (f j)) (hpn : PlainB h nb) (n1 : d ≠ db) (n2 : d ≠ nb) (n3 : d ≠ ar) (n4 : nb ≠ ar) (n5 : nb ≠ db) (n6 : ar ≠ db) (n7 : ∀ j, j < 2 ^ D → f j ≠ db)
    (fin : ∀ h', E.Frame (fun b => b = db) h h' → CellsAt h' db 0 (ptrU (fun j => if f j = nb then (if side dep j = 0 then bA else bB) else f j) (2 ^ D) ++ rest) → ∀ w : World, w.heap = h' → outw w = o → R (.returned (.tuple #[])) w) :
    AtCut Tryz.prog (c92 oSU) Tryz.f92 R [1, 1, 1] [] [.pointer (some ⟨d, 0, none⟩), .pointer (some ⟨nb, 0, none⟩), .pointer (some ⟨ar, 0, none⟩)] h o := by
  refine cutting (k92 oSU) [.ptr (.at (.v 0) (.c 0)), .ptr (.at (.v 1) (.c 0)), .ptr (.at (.v 2) (.c 0))]
    [(.v 0, .c 0, [.int .u64 (.v 0), .int .i64 (.ofN (.v 3)), .slice (.at (.v 4) (.c 0)) (.v 5) (.v 6), .int .i64 (.ofN (.v 7))]), (.v 1, .c 0, [.int .i64 (.ofN (.v 8)), .slice (.at (.v 9) (.c 0)) (.c 1) (.c 1)]), (.v 2, .c 0, [.ptr (.at (.v 10) (.c 0)), .ptr (.at (.v 11) (.c 0))])]
    { n := fun j => if j = 0 then d else if j = 1 then nb else if j = 2 then ar else if j = 3 then D else if j = 4 then db else if j = 5 then 2 ^ D else if j = 6 then C else if j = 7 then n else if j = 8 then dep else if j = 9 then lb else if j = 10 then bA else bB, i := fun _ => seed, h := fun _ => h, o := o } 12 1000
    rfl (by simp [SV.den, PE.den, NE.den]) rfl rfl ⟨by simpa [NE.den, SV.den, IE.den, PE.den] using dc, ⟨by simpa [NE.den] using n2, by simpa [NE.den] using n3, trivial⟩, by simpa [NE.den, SV.den, IE.den, PE.den] using nc, ⟨by simpa [NE.den] using n4, trivial⟩, by simpa [NE.den, SV.den, IE.den, PE.den] using ac, trivial, trivial⟩ ?_
  conv => arg 7; reduce
  simp only [VC.den, IE.den, NE.den, SV.den, HE.den, PE.den, WS.den, List.map_cons, List.map_nil, Int.cast_ofNat_Int, reduceIte, Nat.reduceEqDiff]
  intro _ _ _ _
  refine looping (k92 oSU) [.ptr (.at (.v 0) (.c 0)), .ptr (.at (.v 1) (.c 0)), .ptr (.at (.v 2) (.c 0)), .slice (.at (.v 4) (.c 0)) (.v 5) (.v 6), .int .i64 (.ofN (.v 5)), .int .i64 (.ofN (.v 12))]
    [(.v 0, .c 0, [.int .u64 (.v 0), .int .i64 (.ofN (.v 3)), .slice (.at (.v 4) (.c 0)) (.v 5) (.v 6), .int .i64 (.ofN (.v 7))]), (.v 1, .c 0, [.int .i64 (.ofN (.v 8)), .slice (.at (.v 9) (.c 0)) (.c 1) (.c 1)]), (.v 2, .c 0, [.ptr (.at (.v 10) (.c 0)), .ptr (.at (.v 11) (.c 0))])]
    (fun y : Nat × Heap => { n := fun j => if j = 0 then d else if j = 1 then nb else if j = 2 then ar else if j = 3 then D else if j = 4 then db else if j = 5 then 2 ^ D else if j = 6 then C else if j = 7 then n else if j = 8 then dep else if j = 9 then lb else if j = 10 then bA else if j = 11 then bB else y.1, i := fun _ => seed, h := fun _ => y.2, o := o }) 13 1000
    (fun y => y.1 ≤ 2 ^ D ∧ E.Frame (fun b => b = db) h y.2 ∧ CellsAt y.2 db 0 (ptrU (fun j => if j < y.1 then (if f j = nb then (if side dep j = 0 then bA else bB) else f j) else f j) (2 ^ D) ++ rest)) (fun y => 2 ^ D - y.1) (0, h) ⟨Nat.zero_le _, E.Frame.refl _ _, by simpa using bc⟩
    rfl (by simp [SV.den, PE.den, IE.den, NE.den]) rfl (fun _ => rfl)
    (fun y hy => ⟨by simpa [NE.den, SV.den, IE.den, PE.den] using hy.2.1.cellsAt dc n1, ⟨by simpa [NE.den] using n2, by simpa [NE.den] using n3, trivial⟩, by simpa [NE.den, SV.den, IE.den, PE.den] using hy.2.1.cellsAt nc n5, ⟨by simpa [NE.den] using n4, trivial⟩, by simpa [NE.den, SV.den, IE.den, PE.den] using hy.2.1.cellsAt ac n6, trivial, trivial⟩) ?_
  rintro ⟨t, h'⟩ ⟨ht, hf, hc⟩ N hN
  simp only at ht hf hc
  simp only [SV.den, PE.den, NE.den, IE.den, List.map_cons, List.map_nil, reduceIte, Nat.reduceEqDiff] at hN
  conv => arg 7; reduce
  simp only [VC.den, BE.prop, IE.den, NE.den, SV.den, HE.den, PE.den, WS.den, WI.den, List.map_cons, List.map_nil, Int.cast_ofNat_Int, reduceIte, Nat.reduceEqDiff, Env.setB, Env.setP, inK_i64]
  have h2D : 2 ^ D ≤ 2 ^ 15 := Nat.pow_le_pow_right (by decide) hD
  refine ⟨fun h1 => ?_, fun h1 _ _ _ hf0 w1 hw1 ho1 => ?_⟩
  · have hlt : t < 2 ^ D := Int.ofNat_lt.1 h1
    have g0 := hc.at0 (show (_ ++ rest)[t]? = _ from by rw [List.getElem?_append_left (by rw [ptrU_len]; exact hlt)]; exact ptrU_get _ hlt)
    rw [if_neg (Nat.lt_irrefl t)] at g0
    have hbit : E.intBits .and .i64 ((t : Int).fdiv (2 ^ dep)) 1 = ((side dep t : Nat) : Int) := by
      rw [show ((2 : Int) ^ dep) = ((2 ^ dep : Nat) : Int) from (Int.natCast_pow 2 dep).symm, fdiv_nat, and1U]; rfl
    have hs2 := side_two dep t
    refine ⟨h1, _, g0, decide (f t = nb), ?_, fun hr => ?_, fun hr => ⟨by omega, fun _ _ _ _ => ?_⟩⟩
    · by_cases e : f t = nb
      · exact .inr (.inr ⟨_, _, rfl, rfl, .inl ⟨by rw [e], by simp [e]⟩⟩)
      · exact .inr (.inr ⟨_, _, rfl, rfl, .inr ⟨by simp, by simp [e], (hpl t hlt).same (hf.old _ (hpl t hlt).lt (n7 t hlt)), hpn.same (hf.old _ hpn.lt n5)⟩⟩)
    · have hft : f t = nb := by simpa using hr
      rw [hbit, Int.toNat_natCast]
      have g1 := hf.cellsAt ac n6
      have hw := hc.wr0 (j := t) (by rw [List.length_append, ptrU_len]; omega)
      have key : ∀ v : Nat, v = (if side dep t = 0 then bA else bB) → CellsAt (setc h' db t (.pointer (some ⟨v, 0, none⟩))) db 0 (ptrU (fun j => if j < t + 1 then (if f j = nb then (if side dep j = 0 then bA else bB) else f j) else f j) (2 ^ D) ++ rest) := by
        intro v hv
        have := hc.set0 t (.pointer (some ⟨v, 0, none⟩))
        rw [List.set_append_left _ _ (by rw [ptrU_len]; exact hlt), ptrU_set] at this
        rw [ptrU_congr (g := fun j => if j = t then v else if j < t then (if f j = nb then (if side dep j = 0 then bA else bB) else f j) else f j) fun j hj => ?_]
        · exact this
        · by_cases e : j = t
          · subst e; simp [hft, hv]
          · by_cases e2 : j < t
            · simp [e, e2, show j < t + 1 by omega]
            · simp [e, e2, show ¬ j < t + 1 by omega]
      rcases hs2 with h0 | h0
      · refine ⟨by omega, by omega, by omega, some ⟨bA, 0, none⟩, by rw [h0]; exact g1.at0 (j := 0) rfl, h1, by omega, by omega, by omega, hw.1, hw.2, by omega, fun _ _ _ _ => ?_⟩
        exact hN (t + 1, _) ⟨hlt, hf.set (b := db) (fun _ => rfl) _ _, key bA (by rw [if_pos h0])⟩ (by simp only; omega)
      · refine ⟨by omega, by omega, by omega, some ⟨bB, 0, none⟩, by rw [h0]; exact g1.at0 (j := 1) rfl, h1, by omega, by omega, by omega, hw.1, hw.2, by omega, fun _ _ _ _ => ?_⟩
        exact hN (t + 1, _) ⟨hlt, hf.set (b := db) (fun _ => rfl) _ _, key bB (by rw [if_neg (by omega)])⟩ (by simp only; omega)
    · have hft : ¬ f t = nb := by simpa using hr
      refine hN (t + 1, h') ⟨hlt, hf, ?_⟩ (by simp only; omega)
      rw [ptrU_congr (g := fun j => if j < t then (if f j = nb then (if side dep j = 0 then bA else bB) else f j) else f j) fun j hj => ?_]
      · exact hc
      · by_cases e : j = t
        · subst e; simp [hft]
        · by_cases e2 : j < t
          · simp [e2, show j < t + 1 by omega]
          · simp [e2, show ¬ j < t + 1 by omega]
  · have : t = 2 ^ D := Nat.le_antisymm ht (Nat.le_of_not_lt fun h => h1 (Int.ofNat_lt.2 h))
    subst this
    refine fin h' hf ?_ w1 hw1 ho1
    rw [ptrU_congr (g := fun j => if j < 2 ^ D then (if f j = nb then (if side dep j = 0 then bA else bB) else f j) else f j) fun j hj => by rw [if_pos hj]]
    exact hc
end Go.Proofs.YtkcjhabbgaaknaaGreat
/- A node of a dict is split: its tables and nodes (U). -/
namespace Go.Proofs.YtkcjhabbgaaknaaGreat
open E
set_option maxRecDepth 100000
theorem splitCU (R : Ending → World → Prop) (o : Os × Array (Nat × ByteArray)) {h h1 hh : Heap} {S : Nat → Prop} {d db D C : Nat} {seed : Int} {M : List (Key × Int)} {nd : Nat → Nd Int} (H : DirAt (Value.int .u64) h S d db D C seed M nd) (i : Nat) (hi : i < 2 ^ D) (hdep : (nd i).dep < D)
    {tA gA tB gB : Nat} {TA TB : Tb Int} (HA : TabAt (Value.int .u64) h1 tA gA seed TA) (HB : TabAt (Value.int .u64) h1 tB gB seed TB) (pA : TA.full.Perm ((nd i).T.full.filter (onSideU seed (nd i).dep 0))) (pB : TB.full.Perm ((nd i).T.full.filter (onSideU seed (nd i).dep 1)))
    (hnd : [tA, gA, tB, gB].Nodup) (hnew : ∀ b ∈ [tA, gA, tB, gB], h.size ≤ b) (hx0 : Ext h h1)
    (fin : ∀ h' nd', E.Frame S h h' → DirAt (Value.int .u64) h' (grow S h h') d db D C seed M nd' → (∀ x, x % 2 ^ D % 2 ^ (nd i).dep = i % 2 ^ (nd i).dep → (nd' (x % 2 ^ D)).dep = (nd i).dep + 1) → ∀ w : World, w.heap = h' → outw w = o → R (.returned (.tuple #[])) w)
    {ar bA lA bB lB : Nat} (hx : Ext h1 hh) (cr : CellsAt hh ar 0 [.pointer (some ⟨bA, 0, none⟩), .pointer (some ⟨bB, 0, none⟩)]) (ca : CellsAt hh bA 0 [.int .i64 (((nd i).dep : Int) + 1), .slice (some ⟨lA, 0, none⟩) 1 1]) (cb : CellsAt hh bB 0 [.int .i64 (((nd i).dep : Int) + 1), .slice (some ⟨lB, 0, none⟩) 1 1])
    (la : CellsAt hh lA 0 [.pointer (some ⟨tA, 0, none⟩)]) (lb : CellsAt hh lB 0 [.pointer (some ⟨tB, 0, none⟩)]) (plA : PlainB hh bA) (plB : PlainB hh bB)
    (hge : h1.size ≤ ar ∧ h1.size ≤ bA ∧ h1.size ≤ lA ∧ h1.size ≤ bB ∧ h1.size ≤ lB) (hdist : bA ≠ lA ∧ bA ≠ bB ∧ bA ≠ lB ∧ lA ≠ bB ∧ lA ≠ lB ∧ bB ≠ lB) :
    AtCut Tryz.prog (c92 oSU) Tryz.f92 R [1, 1, 1] [] [.pointer (some ⟨d, 0, none⟩), .pointer (some ⟨(nd i).b, 0, none⟩), .pointer (some ⟨ar, 0, none⟩)] hh o := by
  have hN := H.node i hi
  have hdi := H.ne.2 i hi
  have hd14 := H.d14
  have hxx := hx0.trans hx
  have hdl := H.lt _ H.own.1
  have hdbl := H.lt _ H.own.2.1
  have hnl := hN.nc.1
  have hz0 := hx0.le
  have hz := hx.le
  simp only [Nd.bl, List.mem_cons, List.not_mem_nil, or_false, not_or] at hdi
  simp only [List.mem_cons, List.not_mem_nil, or_false, forall_eq_or_imp, forall_eq, not_or, List.nodup_cons, List.nodup_nil, and_true, not_false_eq_true] at hnd hnew
  obtain ⟨⟨p1, p2, p3⟩, ⟨p4, p5⟩, p6⟩ := hnd
  obtain ⟨q1, q2, q3, q4⟩ := hnew
  obtain ⟨r0, r1, r2, r3, r4⟩ := hge
  obtain ⟨s1, s2, s3, s4, s5, s6⟩ := hdist
  have tl1 := HA.tl; have tl2 := HA.gl; have tl3 := HB.tl; have tl4 := HB.gl
  obtain ⟨rest, hc, hl⟩ := own_cells (H.ext hxx).dir
  have hbn : ∀ j, j < 2 ^ D → ((nd j).b = (nd i).b ↔ j % 2 ^ (nd i).dep = i % 2 ^ (nd i).dep) := fun j hj => by
    constructor
    · intro e
      refine Classical.byContradiction fun hn => ?_
      exact H.diff i j hi hj (fun e' => hn e'.symm) (nd i).b (by simp [Nd.bl]) (by rw [← e]; simp [Nd.bl])
    · intro e; rw [H.same i j hi hj e.symm]
  refine splitLU R o hh d db (nd i).b ar bA bB D C M.length (nd i).dep (nd i).l seed (fun j => (nd j).b) rest (by omega) (by omega) (hxx.cellsAt H.dc) hc (hxx.cellsAt hN.nc) cr (fun j hj => ((H.ext hxx).node j hj).pl) ((H.ext hxx).node i hi).pl H.ne.1 hdi.1.1 (by omega) (by omega) (fun e => hdi.2.1 e.symm) (by omega)
    (fun j hj e => (H.ne.2 j hj).2 (by rw [← e]; simp [Nd.bl])) fun h' hf hcells w hw ho => ?_
  have eD : (((nd i).dep : Nat) : Int) + 1 = (((nd i).dep + 1 : Nat) : Int) := by omega
  rw [eD] at ca cb
  have hNA : NdAt (Value.int .u64) hh seed (⟨bA, lA, tA, gA, (nd i).dep + 1, TA⟩ : Nd Int) := ⟨ca, la, HA.ext hx, plA, by
      simp only [Nd.bl, List.mem_cons, List.not_mem_nil, or_false, not_or, List.nodup_cons, List.nodup_nil, and_true, not_false_eq_true]
      exact ⟨⟨s1, by omega, by omega⟩, ⟨by omega, by omega⟩, p1⟩, by
      rw [pA.length_eq]; exact Nat.le_trans (List.length_filter_le _ _) hN.room⟩
  have hNB : NdAt (Value.int .u64) hh seed (⟨bB, lB, tB, gB, (nd i).dep + 1, TB⟩ : Nd Int) := ⟨cb, lb, HB.ext hx, plB, by
      simp only [Nd.bl, List.mem_cons, List.not_mem_nil, or_false, not_or, List.nodup_cons, List.nodup_nil, and_true, not_false_eq_true]
      exact ⟨⟨s6, by omega, by omega⟩, ⟨by omega, by omega⟩, p6⟩, by
      rw [pB.length_eq]; exact Nat.le_trans (List.length_filter_le _ _) hN.room⟩
  have gA' : ∀ b ∈ (⟨bA, lA, tA, gA, (nd i).dep + 1, TA⟩ : Nd Int).bl, h.size ≤ b := by
    simp only [Nd.bl, List.mem_cons, List.not_mem_nil, or_false, forall_eq_or_imp, forall_eq]
    exact ⟨by omega, by omega, q1, q2⟩
  have gB' : ∀ b ∈ (⟨bB, lB, tB, gB, (nd i).dep + 1, TB⟩ : Nd Int).bl, h.size ≤ b := by
    simp only [Nd.bl, List.mem_cons, List.not_mem_nil, or_false, forall_eq_or_imp, forall_eq]
    exact ⟨by omega, by omega, q3, q4⟩
  have hfh : E.Frame (fun b => b = db) h h' := (hxx.frame (fun b => b = db)).trans hf (fun _ h => h) (fun _ _ h => h)
  have hdir : Own h' 0 (some ⟨db, 0, none⟩) C 1 (dirC (prt nd (nd i).dep (i % 2 ^ (nd i).dep) ⟨bA, lA, tA, gA, (nd i).dep + 1, TA⟩ ⟨bB, lB, tB, gB, (nd i).dep + 1, TB⟩) (2 ^ D)) := by
    refine .inr ⟨db, rest, rfl, Nat.zero_le _, ?_, ?_⟩
    · have e : dirC (prt nd (nd i).dep (i % 2 ^ (nd i).dep) (⟨bA, lA, tA, gA, (nd i).dep + 1, TA⟩ : Nd Int) ⟨bB, lB, tB, gB, (nd i).dep + 1, TB⟩) (2 ^ D) = ptrU (fun j => if (nd j).b = (nd i).b then (if side (nd i).dep j = 0 then bA else bB) else (nd j).b) (2 ^ D) := by
        show ptrU (fun j => (prt nd (nd i).dep (i % 2 ^ (nd i).dep) (⟨bA, lA, tA, gA, (nd i).dep + 1, TA⟩ : Nd Int) ⟨bB, lB, tB, gB, (nd i).dep + 1, TB⟩ j).b) (2 ^ D) = _
        refine ptrU_congr fun j hj => ?_
        by_cases e : j % 2 ^ (nd i).dep = i % 2 ^ (nd i).dep
        · rw [if_pos ((hbn j hj).2 e)]
          rcases side_two (nd i).dep j with s | s
          · rw [prt_A e s, if_pos s]
          · rw [prt_B e s, if_neg (by rw [s]; decide)]
        · rw [if_neg (fun e' => e ((hbn j hj).1 e')), prt_out e]
      rw [e]; exact hcells
    · rw [List.length_append, dirC_len]
      rw [List.length_append, dirC_len] at hl
      omega
  have HP := H.part hi rfl rfl hdep (xA := ⟨bA, lA, tA, gA, (nd i).dep + 1, TA⟩) (xB := ⟨bB, lB, tB, gB, (nd i).dep + 1, TB⟩) hfh (fun b e => e)
    (hNA.frame hf fun b hb e => by have := gA' b hb; omega) (hNB.frame hf fun b hb e => by have := gB' b hb; omega) rfl rfl gA' gB'
    (by
      simp only [Nd.bl, List.mem_cons, List.not_mem_nil, or_false, forall_eq_or_imp, forall_eq, not_or]
      exact ⟨⟨s2, s3, by omega, by omega⟩, ⟨s4, s5, by omega, by omega⟩, ⟨by omega, by omega, p2, p3⟩, by omega, by omega, p4, p5⟩)
    (fun x => by rw [pA.mem_iff, List.mem_filter]; simp [onSideU]) (fun x => by rw [pB.mem_iff, List.mem_filter]; simp [onSideU]) hdir
  refine fin h' _ (hfh.mono fun b _ e => by rw [e]; exact H.own.2.1) HP (fun x e => ?_) w hw ho
  rcases side_two (nd i).dep (x % 2 ^ D) with s | s
  · rw [prt_A e s]
  · rw [prt_B e s]
set_option maxHeartbeats 1000000 in
theorem splitBU (R : Ending → World → Prop) (o : Os × Array (Nat × ByteArray)) {h : Heap} {S : Nat → Prop} {d db D C : Nat} {seed : Int} {M : List (Key × Int)} {nd : Nat → Nd Int} (H : DirAt (Value.int .u64) h S d db D C seed M nd) (i : Nat) (hi : i < 2 ^ D) (hdep : (nd i).dep < D)
    (fin : ∀ h' nd', E.Frame S h h' → DirAt (Value.int .u64) h' (grow S h h') d db D C seed M nd' → (∀ x, x % 2 ^ D % 2 ^ (nd i).dep = i % 2 ^ (nd i).dep → (nd' (x % 2 ^ D)).dep = (nd i).dep + 1) → ∀ w : World, w.heap = h' → outw w = o → R (.returned (.tuple #[])) w) :
    AtCut Tryz.prog (c92 oSU) Tryz.f92 R [1] [] [.pointer (some ⟨d, 0, none⟩), .pointer (some ⟨(nd i).b, 0, none⟩)] h o := by
  have hN := H.node i hi
  have hdi := H.ne.2 i hi
  have hd14 := H.d14
  simp only [Nd.bl, List.mem_cons, List.not_mem_nil, or_false, not_or] at hdi
  refine cutting (k92 oSU) [.ptr (.at (.v 0) (.c 0)), .ptr (.at (.v 3) (.c 0))]
    [(.v 0, .c 0, [.int .u64 (.v 0), .int .i64 (.ofN (.v 5)), .slice (.at (.v 1) (.c 0)) (.v 6) (.v 2), .int .i64 (.ofN (.v 4))]), (.v 3, .c 0, [.int .i64 (.ofN (.v 7)), .slice (.at (.v 8) (.c 0)) (.c 1) (.c 1)])]
    { n := fun j => if j = 0 then d else if j = 1 then db else if j = 2 then C else if j = 3 then (nd i).b else if j = 4 then M.length else if j = 5 then D else if j = 6 then 2 ^ D else if j = 7 then (nd i).dep else (nd i).l, i := fun _ => seed, h := fun _ => h, o := o } 9 1000
    rfl (by simp [SV.den, PE.den, NE.den]) rfl rfl ⟨by simpa [NE.den, SV.den, IE.den, PE.den] using H.dc, ⟨by simpa [NE.den] using hdi.1.1, trivial⟩, by simpa [NE.den, SV.den, IE.den, PE.den] using hN.nc, trivial, trivial⟩ ?_
  conv => arg 7; reduce
  simp only [VC.den, BE.prop, IE.den, NE.den, SV.den, HE.den, PE.den, WS.den, List.map_cons, List.map_nil, Int.cast_ofNat_Int, reduceIte, Nat.reduceEqDiff, Env.setE, Env.setH, Env.setN, Env.setP, inK_i64]
  refine ⟨_, hN.lc.at0 (j := 0) rfl, fun w1 hw1 ho1 => ?_⟩
  refine (tSplitU_any seed (nd i).dep (nd i).t (nd i).g (nd i).T w1 (by omega) (by rw [hw1]; exact hN.tab) hN.room).mono ?_
  rintro e1 v1 ⟨tA, tB, gA, gB, TA, TB, rfl, hx1, hp1, HA, HB, pA, pB, hnd, hnew⟩
  rw [hw1] at hx1 hnew
  refine ⟨hp1.trans ho1, hx1, _, _, rfl, ?_⟩
  have leaf : ∀ {hh : Heap} {ar bA lA bB lB : Nat} (_ : Ext v1.heap hh) (_ : CellsAt hh ar 0 [.pointer (some ⟨bA, 0, none⟩), .pointer (some ⟨bB, 0, none⟩)]) (_ : CellsAt hh bA 0 [.int .i64 (((nd i).dep : Int) + 1), .slice (some ⟨lA, 0, none⟩) 1 1]) (_ : CellsAt hh bB 0 [.int .i64 (((nd i).dep : Int) + 1), .slice (some ⟨lB, 0, none⟩) 1 1])
      (_ : CellsAt hh lA 0 [.pointer (some ⟨tA, 0, none⟩)]) (_ : CellsAt hh lB 0 [.pointer (some ⟨tB, 0, none⟩)]) (_ : PlainB hh bA) (_ : PlainB hh bB)
      (_ : v1.heap.size ≤ ar ∧ v1.heap.size ≤ bA ∧ v1.heap.size ≤ lA ∧ v1.heap.size ≤ bB ∧ v1.heap.size ≤ lB) (_ : bA ≠ lA ∧ bA ≠ bB ∧ bA ≠ lB ∧ lA ≠ bB ∧ lA ≠ lB ∧ bB ≠ lB),
      AtCut Tryz.prog (c92 oSU) Tryz.f92 R [1, 1, 1] [] [.pointer (some ⟨d, 0, none⟩), .pointer (some ⟨(nd i).b, 0, none⟩), .pointer (some ⟨ar, 0, none⟩)] hh o :=
    fun x1 x2 x3 x4 x5 x6 x7 x8 x9 x10 => splitCU R o H i hi hdep HA HB pA pB hnd hnew hx1 fin x1 x2 x3 x4 x5 x6 x7 x8 x9 x10
  refine ⟨by omega, by omega, ?_⟩
  repeat' apply And.intro
  all_goals
    intro c1 c2 c3 c4 c5 c6 c7 hf
    show AtCut Tryz.prog (c92 oSU) Tryz.f92 R [1, 1, 1] [] _ _ o
    exact leaf (by (repeat (first | with_reducible exact Ext.refl v1.heap | with_reducible refine Ext.push ?_ _ | with_reducible refine Ext.set ?_ ?_ _ _)); all_goals first | omega | (simp only [Array.size_push]; omega)) (by assumption) (by assumption) (by assumption) (by assumption) (by assumption)
      (by repeat (first | with_reducible exact E.PlainB.new _ _ _ | with_reducible refine E.PlainB.push ?_ _ | with_reducible refine E.PlainB.setc ?_ _ _ _)) (by repeat (first | with_reducible exact E.PlainB.new _ _ _ | with_reducible refine E.PlainB.push ?_ _ | with_reducible refine E.PlainB.setc ?_ _ _ _))
      (by first | omega | (simp only [Array.size_push]; omega)) (by first | omega | (simp only [Array.size_push]; omega))
end Go.Proofs.YtkcjhabbgaaknaaGreat
/- A node of a dict is split (U). -/
namespace Go.Proofs.YtkcjhabbgaaknaaGreat
open E
set_option maxRecDepth 100000
set_option maxHeartbeats 1000000 in
theorem splitXU_any {S : Nat → Prop} {d db D C : Nat} {seed : Int} {M : List (Key × Int)} {nd : Nat → Nd Int} (i : Nat) (hi : i < 2 ^ D) (w : World) (H : DirAt (Value.int .u64) w.heap S d db D C seed M nd) (hdep : (nd i).dep < 14) :
    Calls Tryz.prog 92 #[.pointer (some ⟨d, 0, none⟩), .pointer (some ⟨(nd i).b, 0, none⟩)] w fun e w' => e = .returned (.tuple #[]) ∧ E.Frame S w.heap w'.heap ∧ outw w' = outw w ∧ ∃ db' D' C' nd', DirAt (Value.int .u64) w'.heap (grow S w.heap w'.heap) d db' D' C' seed M nd' ∧ D ≤ D' ∧ (∀ x, x % 2 ^ D = i → (nd' (x % 2 ^ D')).dep = (nd i).dep + 1) := by
  have hN := H.node i hi
  have hdi := H.ne.2 i hi
  have hd14 := H.d14
  have hdl := H.lt _ H.own.1
  have hdbl := H.lt _ H.own.2.1
  have hne := hN.ne
  have hll := hN.lc.1
  simp only [Nd.bl, List.nodup_cons, List.mem_cons, List.not_mem_nil, or_false, not_or, List.nodup_nil, and_true, not_false_eq_true] at hdi hne
  refine begins (k92 oSU) [.ptr (.at (.v 0) (.c 0)), .ptr (.at (.v 3) (.c 0))]
    [(.v 0, .c 0, [.int .u64 (.v 0), .int .i64 (.ofN (.v 5)), .slice (.at (.v 1) (.c 0)) (.v 6) (.v 2), .int .i64 (.ofN (.v 4))]), (.v 3, .c 0, [.int .i64 (.ofN (.v 7)), .slice (.at (.v 8) (.c 0)) (.c 1) (.c 1)])]
    { n := fun j => if j = 0 then d else if j = 1 then db else if j = 2 then C else if j = 3 then (nd i).b else if j = 4 then M.length else if j = 5 then D else if j = 6 then 2 ^ D else if j = 7 then (nd i).dep else (nd i).l, i := fun _ => seed, h := fun _ => w.heap, o := outw w } 9 1000 rfl rfl rfl
    ⟨by simpa [NE.den, SV.den, IE.den, PE.den] using H.dc, ⟨by simpa [NE.den] using hdi.1.1, trivial⟩, by simpa [NE.den, SV.den, IE.den, PE.den] using hN.nc, trivial, trivial⟩ (by simp [SV.den, NE.den, PE.den]) ?_
  conv => arg 7; reduce
  simp only [VC.den, BE.prop, IE.den, NE.den, SV.den, HE.den, PE.den, WS.den, WI.den, List.map_cons, List.map_nil, Int.cast_ofNat_Int, reduceIte, Nat.reduceEqDiff, Env.setH, Env.setN, Env.setP, inK_i64]
  refine ⟨fun hd => ?_, fun hd _ _ _ => ?_⟩
  · have hdD : (nd i).dep = D := by omega
    refine ⟨fun e => H.ne.1 (by omega), fun e => hdi.2.1 (by omega), _, _, app_self H, fun h' p' c' ha => ⟨by omega, fun c1 _ _ => ?_⟩⟩
    have ha' : Appended _ 1 w.heap (some ⟨db, 0, none⟩) (2 ^ D) C (2 ^ D) (dirC nd (2 ^ D)) (dirC nd (2 ^ D)) h' p' c' := ha
    obtain ⟨hf1, b', rfl, hb'⟩ := appended_frame ha'
    have hown := H.dir.next (n := 2 ^ D) (m := 2 ^ D) (by rw [dirC_len]; omega) (by rw [dirC_len]; omega) (Nat.zero_le _) ha'
    have hfd : E.Frame (fun x => x = d) h' (setc (setc h' d 2 (.slice (some ⟨b', 0, none⟩) (2 ^ D + 2 ^ D) c')) d 1 (.int .i64 ((D : Int) + 1))) := ((E.Frame.refl (fun x => x = d) _).set (b := d) (fun _ => rfl) _ _).set (b := d) (fun _ => rfl) _ _
    have hf2 : E.Frame (fun b => b = db ∨ b = d) w.heap (setc (setc h' d 2 (.slice (some ⟨b', 0, none⟩) (2 ^ D + 2 ^ D) c')) d 1 (.int .i64 ((D : Int) + 1))) := hf1.trans hfd (fun _ h => .inl h) (fun _ _ h => .inr h)
    have hbd : ¬ b' = d := by
      rcases hb' with hb' | hb'
      · rw [hb']; exact fun e => H.ne.1 e.symm
      · omega
    have e2 : 2 ^ (D + 1) = 2 ^ D + 2 ^ D := by rw [Nat.pow_succ]; omega
    have HD := H.double (by omega) hf2 (by rcases hb' with hb' | hb'; exact .inl hb'; exact .inr ⟨hb'.1, Nat.lt_of_lt_of_le hb'.2 hfd.le⟩) (own_frame hown hfd hbd) (by rw [e2]; exact c1)
    have hmi : i % 2 ^ D = i := Nat.mod_eq_of_lt hi
    generalize setc (setc h' d 2 (.slice (some ⟨b', 0, none⟩) (2 ^ D + 2 ^ D) c')) d 1 (.int .i64 ((D : Int) + 1)) = h2 at *
    have hB := splitBU (fun e w' => e = .returned (.tuple #[]) ∧ E.Frame S w.heap w'.heap ∧ outw w' = outw w ∧ ∃ db' D' C' nd', DirAt (Value.int .u64) w'.heap (grow S w.heap w'.heap) d db' D' C' seed M nd' ∧ D ≤ D' ∧ (∀ x, x % 2 ^ D = i → (nd' (x % 2 ^ D')).dep = (nd i).dep + 1)) (outw w) HD i (by omega) (by simp only [hmi]; omega) (fun h3 nd3 g1 g2 g3 w3 hw3 ho3 => by
      rw [hw3]
      refine ⟨rfl, frame_twice (hf2.mono fun b _ e => ?_) g1, ho3, b', D + 1, c', nd3, g2.twice hf2.le g1.le H.lt, by omega, fun x hx => ?_⟩
      · rcases e with e | e
        · rw [e]; exact H.own.2.1
        · rw [e]; exact H.own.1
      · have := g3 x
        simp only [hmi] at this
        exact this (by rw [hdD, mod_pow _ (Nat.le_succ D), hx, hmi]))
    simp only [hmi] at hB
    exact hB
  · have hdD := H.dep i hi
    exact splitBU _ (outw w) H i hi (by omega) fun h3 nd3 g1 g2 g3 w3 hw3 ho3 => by
      rw [hw3]
      exact ⟨rfl, g1, ho3, db, D, C, nd3, g2, Nat.le_refl _, fun x hx => g3 x (by rw [hx])⟩
end Go.Proofs.YtkcjhabbgaaknaaGreat
/- A key is put to a dict of several nodes (U). -/
namespace Go.Proofs.YtkcjhabbgaaknaaGreat
open E
set_option maxRecDepth 100000
/-- Of the keys no 113 agree in the 14 lowest bits of their hashes. -/
def FewU (seed : Int) (K : List Key) : Prop := ∀ (l : List Key) (c : Nat), l.Nodup → (∀ k ∈ l, k ∈ K) → (∀ k ∈ l, hk seed k % 2 ^ 14 = c) → l.length ≤ 112
theorem put_dirU {F : Nat → Prop} {h h' : Heap} {S : Nat → Prop} {d db D C : Nat} {seed : Int} {M : List (Key × Int)} {nd : Nat → Nd Int} (H : DirAt (Value.int .u64) h S d db D C seed M nd) (key : Key) (v : Int) {x : Nd Int} (hx : nd (hk seed key % 2 ^ D) = x) {g' : Nat} {T' : Tb Int}
    (hf : E.Frame F h h') (hF : ∀ b, F b → b = d ∨ b = x.t ∨ b = x.g) (hT : TabAt (Value.int .u64) h' x.t g' seed T') (hg : g' = x.g ∨ h.size ≤ g') (hR : PutRU x.T.full key v T'.full) (hl : T'.full.length ≤ 112)
    (hdc : CellsAt h' d 0 [.int .u64 seed, .int .i64 (D : Nat), .slice (some ⟨db, 0, none⟩) (2 ^ D) C, .int .i64 ((pt M key v).length : Nat)]) :
    ∃ nd', DirAt (Value.int .u64) h' (grow S h h') d db D C seed (pt M key v) nd' := by
  subst hx
  have hi := H.at_lt (hk seed key)
  have hdp := H.at_dep (hk seed key)
  have hmem : ∀ y, y ∈ T'.full ↔ y ∈ pt (nd (hk seed key % 2 ^ D)).T.full key v := fun y => (put_pt (H.node _ hi).tab.ok.uniq hR).mem_iff
  have hpt : ∀ (l : List (Key × Int)) y, y ∈ pt l key v ↔ y = (key, v) ∨ (y ∈ l ∧ y.1 ≠ key) := fun l y => by unfold pt; rw [List.mem_cons, mem_rm]
  refine ⟨_, H.table hi hf hF hT hg hdc (fun y hy => ?_) hl (fun y e => ?_) (fun y e => ?_) (nodup_pt key v H.nodup)⟩
  · rcases (hpt _ y).1 ((hmem y).1 hy) with rfl | ⟨hy, _⟩
    · exact hdp.symm
    · exact H.key _ hi y hy
  · rw [hmem y, hpt, hpt, H.mem hi e]
  · rw [hpt]
    constructor
    · rintro (rfl | ⟨hy, _⟩)
      · exact absurd hdp.symm e
      · exact hy
    · intro hy
      exact .inr ⟨hy, fun e2 => e (by rw [e2]; exact hdp.symm)⟩
theorem len_ptU {M : List (Key × Int)} (hu : (M.map (·.1)).Nodup) {key : Key} (v : Int) {u : Int} (h : (key, u) ∈ M) : (pt M key v).length = M.length := by
  have := len_rmX hu h
  unfold pt; rw [List.length_cons]; exact this
theorem fullU {h : Heap} {S : Nat → Prop} {d db D C : Nat} {seed : Int} {M : List (Key × Int)} {nd : Nat → Nd Int} {K : List Key} (hfew : FewU seed K) (hK : ∀ x ∈ M, x.1 ∈ K) (H : DirAt (Value.int .u64) h S d db D C seed M nd) {key : Key} (hkey : key ∈ K) (hno : ∀ x ∈ M, x.1 ≠ key)
    (hfull : ¬ (nd (hk seed key % 2 ^ D)).T.full.length < 112) : (nd (hk seed key % 2 ^ D)).dep < 14 := by
  refine Nat.lt_of_not_le fun hd => hfull ?_
  have hi := H.at_lt (hk seed key)
  have hN := H.node _ hi
  have hsub : ∀ x ∈ (nd (hk seed key % 2 ^ D)).T.full, x ∈ M := fun x hx => (H.mem hi (H.key _ hi x hx)).2 hx
  have hdep : (nd (hk seed key % 2 ^ D)).dep = 14 := Nat.le_antisymm (Nat.le_trans (H.dep _ hi) H.d14) hd
  have := hfew (key :: (nd (hk seed key % 2 ^ D)).T.full.map (·.1)) (hk seed key % 2 ^ 14) (List.nodup_cons.2 ⟨fun hm => by
      obtain ⟨x, hx, e⟩ := List.mem_map.1 hm
      exact hno x (hsub x hx) e, hN.tab.ok.uniq⟩)
    (fun k hk' => by
      rcases List.mem_cons.1 hk' with rfl | hk'
      · exact hkey
      · obtain ⟨x, hx, rfl⟩ := List.mem_map.1 hk'
        exact hK x (hsub x hx))
    (fun k hk' => by
      rcases List.mem_cons.1 hk' with rfl | hk'
      · rfl
      · obtain ⟨x, hx, rfl⟩ := List.mem_map.1 hk'
        have h1 := H.key _ hi x hx
        rw [H.at_dep, hdep] at h1
        exact h1)
  rw [List.length_cons, List.length_map] at this
  omega
set_option maxHeartbeats 1000000 in
theorem dPutXU_any {K : List Key} {S : Nat → Prop} {d db D C : Nat} {seed : Int} {M : List (Key × Int)} {nd : Nat → Nd Int} (key : Key) (v : Int) (w : World) (hfew : FewU seed K) (hK : ∀ x ∈ M, x.1 ∈ K) (hkey : key ∈ K) (H : DirAt (Value.int .u64) w.heap S d db D C seed M nd) (hs : key.length ≤ 9223372036854775807) (hM : M.length ≤ 9223372036854775806) :
    Calls Tryz.prog 59 #[.pointer (some ⟨d, 0, none⟩), .string (bs key), (Value.int .u64) v] w fun e w' => e = .returned (.int .i64 0) ∧ E.Frame S w.heap w'.heap ∧ outw w' = outw w ∧ ∃ db' D' C' nd', DirAt (Value.int .u64) w'.heap (grow S w.heap w'.heap) d db' D' C' seed (pt M key v) nd' ∧ D ≤ D' := by
  refine begins (k59 {}) [.ptr (.at (.v 0) (.c 0)), .str (.v 0), .int .u64 (.v 9)] [(.v 0, .c 0, [.int .u64 (.v 0), .int .i64 (.ofN (.v 5)), .slice (.at (.v 1) (.c 0)) (.v 6) (.v 2), .int .i64 (.ofN (.v 4))])]
    { n := fun j => if j = 0 then d else if j = 1 then db else if j = 2 then C else if j = 4 then M.length else if j = 5 then D else 2 ^ D, i := fun j => if j = 9 then v else seed, p := fun _ => none, s := fun _ => key, h := fun _ => w.heap, o := outw w } 10 1000 rfl rfl rfl
    ⟨by simpa [NE.den, SV.den, IE.den, PE.den] using H.dc, trivial, trivial⟩ (by simp [SV.den, IE.den, NE.den, PE.den, SE.den]) ?_
  conv => arg 7; reduce
  simp only [VC.den, BE.prop, IE.den, NE.den, SE.den, SV.den, HE.den, PE.den, WS.den, WI.den, noneIn, List.map_cons, List.map_nil, reduceIte, Nat.reduceEqDiff, Env.setE, Env.setH, Env.setI, Env.setP, Env.setW]
  have hi := H.at_lt (hk seed key)
  have hN := H.node _ hi
  have hdi := H.ne.2 _ hi
  have hown := H.own.2.2 _ hi
  have hnod := no_dirU H (key := key)
  have hmem : ∀ x : Key × Int, x ∈ (nd (hk seed key % 2 ^ D)).T.full → x ∈ M := fun x hx => (H.mem hi (H.key _ hi x hx)).2 hx
  generalize hnn : nd (hk seed key % 2 ^ D) = x at *
  have hne := hN.ne
  simp only [Nd.bl, List.nodup_cons, List.mem_cons, List.not_mem_nil, or_false, not_or, List.nodup_nil, and_true, not_false_eq_true] at hne hdi hown
  intro w1 hw1 ho1
  refine (Of_any seed key w1 hs).mono ?_
  rintro e1 v1 ⟨rfl, hx1, hp1⟩
  rw [hw1] at hx1
  rw [hk_cast]
  refine ⟨hp1.trans ho1, hx1, _, rfl, fun _ w2 hw2 ho2 => ?_⟩
  refine (placeXU_any (hk seed key) (hk_lt _ _) w2 (by rw [hw2]; exact H.ext hx1)).mono ?_
  rintro e2 v2 ⟨rfl, hx2, hp2⟩
  rw [hw2] at hx2
  rw [hnn]
  refine ⟨hp2.trans ho2, hx2, _, rfl, fun w3 hw3 ho3 => ?_⟩
  have hX2 := hx1.trans hx2
  refine (nfindXU_any _ _ _ _ _ seed _ key w3 hs hne.1.1 (by rw [hw3]; exact hX2.cellsAt hN.nc) (by rw [hw3]; exact hX2.cellsAt hN.lc) (by rw [hw3]; exact hN.tab.ext hX2)).mono ?_
  rintro e3 v3 ⟨p, rfl, hP, hx3, hp3⟩
  rw [hw3] at hx3
  have hX3 := hX2.trans hx3
  refine ⟨hp3.trans ho3, hx3, p, rfl, fun hpn => ?_, fun hpn => ?_⟩
  · rcases hP with ⟨rfl, u, hin⟩ | ⟨h, _⟩
    · intro w4 hw4 ho4
      refine (tPutU_any seed x.T x.t x.g key v w4 (by rw [hw4]; exact hN.tab.ext hX3) hs (fun hno => absurd rfl (hno _ hin))).mono ?_
      rintro e4 v4 ⟨rfl, hf4, hp4, gb', T', hgb, HT', hR⟩
      rw [hw4] at hf4 hgb
      have hz := hX3.le
      have hF : E.Frame (fun b => b = d ∨ b = x.t ∨ b = x.g) w.heap v4.heap := (hX3.frame (fun _ => False)).trans hf4 (fun _ h => h.elim) (fun _ _ h => .inr h)
      have hdF : CellsAt v4.heap d 0 [.int .u64 seed, .int .i64 (D : Nat), .slice (some ⟨db, 0, none⟩) (2 ^ D) C, .int .i64 ((pt M key v).length : Nat)] := by
        rw [len_ptU H.nodup v (hmem _ hin)]
        exact hf4.cellsAt (hX3.cellsAt H.dc) (by rintro (e | e); exact hdi.1.2.2.1 e; exact hdi.1.2.2.2 e)
      have hl : T'.full.length ≤ 112 := by
        have h0 := hN.room
        rcases hR with ⟨u, r, r1, r2⟩ | ⟨h, _⟩
        · have h1 := r1.length_eq
          have h2 := r2.length_eq
          simp only [List.length_cons] at h1 h2
          omega
        · exact absurd rfl (h _ hin)
      obtain ⟨nd', HD⟩ := put_dirU H key v hnn hF (fun b h => h) HT' (by rcases hgb with h | h; exact .inl h; exact .inr (Nat.le_trans hz h)) hR hl hdF
      refine ⟨hp4.trans ho4, _, hf4, ⟨by rintro (e | e); exact hdi.1.2.2.1 e; exact hdi.1.2.2.2 e, trivial⟩, _, rfl, fun _ _ w5 hw5 ho5 => ⟨rfl, ?_, ho5, db, D, C, nd', by rw [hw5]; exact HD, Nat.le_refl _⟩⟩
      rw [hw5]
      refine hF.mono ?_
      rintro b _ (rfl | rfl | rfl)
      · exact H.own.1
      · exact hown _ (.inr (.inr (.inl rfl)))
      · exact hown _ (.inr (.inr (.inr rfl)))
    · exact absurd h hpn
  · rcases hP with ⟨h, _⟩ | ⟨_, hno⟩
    · exact absurd (by rw [h]; simp) hpn
    · have hnoM := hnod.1 hno
      intro _ _
      clear hnod hmem hown hdi hne hN hi hno
      refine looping (k59 {}) [.ptr (.at (.v 0) (.c 0)), .str (.v 0), .int .u64 (.v 9), .int .u64 (.ofN (.v 3))] [(.v 0, .c 0, [.int .u64 (.v 0), .int .i64 (.ofN (.v 5)), .slice (.at (.v 1) (.c 0)) (.v 6) (.v 2), .int .i64 (.ofN (.v 4))])]
        (fun y : Nat × Nat × Nat × (Nat → Nd Int) × Heap => { n := fun j => if j = 0 then d else if j = 1 then y.1 else if j = 2 then y.2.2.1 else if j = 3 then hk seed key else if j = 4 then M.length else if j = 5 then y.2.1 else 2 ^ y.2.1, i := fun j => if j = 9 then v else seed, p := fun _ => none, s := fun _ => key, h := fun _ => y.2.2.2.2, o := outw w }) 10 1000
        (fun y => E.Frame S w.heap y.2.2.2.2 ∧ DirAt (Value.int .u64) y.2.2.2.2 (grow S w.heap y.2.2.2.2) d y.1 y.2.1 y.2.2.1 seed M y.2.2.2.1 ∧ D ≤ y.2.1) (fun y => 14 - (y.2.2.2.1 (hk seed key % 2 ^ y.2.1)).dep) (db, D, C, nd, v3.heap) ⟨hX3.frame _, (H.ext hX3).wide hX3.le, Nat.le_refl _⟩ rfl (by simp [SV.den, IE.den, NE.den, PE.den, SE.den]) rfl (fun _ => rfl) (fun y hy => ⟨by simpa [NE.den, SV.den, IE.den, PE.den] using hy.2.1.dc, trivial, trivial⟩) ?_
      rintro ⟨db1, D1, C1, nd1, h⟩ ⟨hfr, HD, hDD⟩ N hN1
      simp only at hfr HD hDD
      simp only [SV.den, SE.den, PE.den, NE.den, IE.den, List.map_cons, List.map_nil, reduceIte, Nat.reduceEqDiff] at hN1
      conv => arg 7; reduce
      simp only [VC.den, BE.prop, IE.den, NE.den, SE.den, SV.den, HE.den, PE.den, WS.den, WI.den, noneIn, List.map_cons, List.map_nil, Int.cast_ofNat_Int, reduceIte, Nat.reduceEqDiff, Env.setE, Env.setH, Env.setI, Env.setN, Env.setP, Env.setW, inK_i64]
      intro _ w4 hw4 ho4
      refine (placeXU_any (hk seed key) (hk_lt _ _) w4 (by rw [hw4]; exact HD)).mono ?_
      rintro e4 v4 ⟨rfl, hx4, hp4⟩
      rw [hw4] at hx4
      have hi := HD.at_lt (hk seed key)
      have hN := HD.node _ hi
      have hdi := HD.ne.2 _ hi
      have hown := HD.own.2.2 _ hi
      have hfl := fullU hfew hK HD hkey hnoM
      have hsp := splitXU_any (M := M) (nd := nd1) (d := d) (db := db1) (C := C1) (seed := seed) (S := grow S w.heap h) (hk seed key % 2 ^ D1) hi
      have hno1 := (no_dirU HD (key := key)).2 hnoM
      have hputd := fun (h' : Heap) (S' : Nat → Prop) (h0 : Heap) (H0 : DirAt (Value.int .u64) h0 S' d db1 D1 C1 seed M nd1) (F : Nat → Prop) (g' : Nat) (T' : Tb Int) => put_dirU (F := F) (h' := h') H0 key v rfl (g' := g') (T' := T')
      generalize hnn : nd1 (hk seed key % 2 ^ D1) = x at *
      have hne := hN.ne
      simp only [Nd.bl, List.nodup_cons, List.mem_cons, List.not_mem_nil, or_false, not_or, List.nodup_nil, and_true, not_false_eq_true] at hne hdi hown
      refine ⟨hp4.trans ho4, hx4, _, rfl, fun w5 hw5 ho5 => ?_⟩
      refine (roomXU_any _ _ _ _ _ seed _ w5 hne.1.1 (by rw [hw5]; exact hx4.cellsAt hN.nc) (by rw [hw5]; exact hx4.cellsAt hN.lc) (by rw [hw5]; exact hN.tab.ext hx4)).mono ?_
      rintro e5 v5 ⟨he5, hx5, hp5⟩
      rw [hw5] at hx5
      have hX5 := hx4.trans hx5
      by_cases hlt : x.T.full.length < 112
      · rw [if_pos hlt] at he5
        subst he5
        refine ⟨hp5.trans ho5, hx5, _, rfl, fun h => absurd h (by simp), fun _ => ⟨fun h => absurd h (by simp), fun _ => ⟨by omega, fun w6 hw6 ho6 => ?_⟩⟩⟩
        have hfS : E.Frame (fun b => b = d) h (setc v5.heap d 3 (.int .i64 ((M.length : Int) + 1))) := E.Frame.set (hX5.frame (fun b => b = d)) (b := d) (fun _ => rfl) _ _
        refine (tPutU_any seed x.T x.t x.g key v w6 (by rw [hw6]; exact hN.tab.frame hfS (fun e => hdi.1.2.2.1 e.symm) (fun e => hdi.1.2.2.2 e.symm)) hs (fun _ => by omega)).mono ?_
        rintro e7 v7 ⟨rfl, hf7, hp7, gb', T', hgb, HT', hR⟩
        rw [hw6] at hf7 hgb
        have hz := hfS.le
        have hF : E.Frame (fun b => b = d ∨ b = x.t ∨ b = x.g) h v7.heap := hfS.trans hf7 (fun _ h => .inl h) (fun _ _ h => .inr h)
        have hlen : ((pt M key v).length : Int) = (M.length : Int) + 1 := by
          unfold pt; rw [rm_none hnoM, List.length_cons]; omega
        have hdc : CellsAt v7.heap d 0 [.int .u64 seed, .int .i64 (D1 : Nat), .slice (some ⟨db1, 0, none⟩) (2 ^ D1) C1, .int .i64 ((pt M key v).length : Nat)] := by
          have := hf7.cellsAt ((hX5.cellsAt HD.dc).set0 3 (.int .i64 ((M.length : Int) + 1))) (by rintro (e | e); exact hdi.1.2.2.1 e; exact hdi.1.2.2.2 e)
          rw [← hlen] at this
          simpa using this
        have hl : T'.full.length ≤ 112 := by
          rcases hR with ⟨u, r, r1, r2⟩ | ⟨_, r2⟩
          · exact absurd rfl (hno1 _ (r1.symm.subset List.mem_cons_self))
          · rw [r2.length_eq, List.length_cons]; omega
        obtain ⟨nd', HD'⟩ := hputd v7.heap _ h HD (fun b => b = d ∨ b = x.t ∨ b = x.g) gb' T' hF (fun b h => h) HT' (by rcases hgb with h | h; exact .inl h; exact .inr (Nat.le_trans hz h)) hR hl hdc
        refine ⟨hp7.trans ho6, _, hf7, ⟨by rintro (e | e); exact hdi.1.2.2.1 e; exact hdi.1.2.2.2 e, trivial⟩, _, rfl, fun _ _ w8 hw8 ho8 => ⟨rfl, ?_, ho8, db1, D1, C1, nd', ?_, hDD⟩⟩
        · rw [hw8]
          refine frame_twice hfr (hF.mono ?_)
          rintro b _ (rfl | rfl | rfl)
          · exact HD.own.1
          · exact hown _ (.inr (.inr (.inl rfl)))
          · exact hown _ (.inr (.inr (.inr rfl)))
        · rw [hw8]; exact HD'.twice hfr.le hF.le H.lt
      · rw [if_neg hlt] at he5
        subst he5
        have hdp := hfl hlt
        refine ⟨hp5.trans ho5, hx5, _, rfl, fun _ => ⟨_, _, rfl, _, (hX5.cellsAt hN.nc).at0 (j := 0) rfl, fun _ _ w6 hw6 ho6 => ?_, fun h => absurd (by omega) h⟩, fun h => absurd rfl h⟩
        refine (hsp w6 (by rw [hw6]; exact HD.ext hX5) hdp).mono ?_
        rintro e6 v6 ⟨rfl, hf6, hp6, db', D', C', nd', HD', hDD', hdep'⟩
        rw [hw6] at hf6 HD'
        have z1 := hfr.le
        have z2 := hX5.le
        have z3 := hf6.le
        refine ⟨hp6.trans ho6, _, hf6, trivial, rfl, fun _ => hN1 (db', D', C', nd', v6.heap) ⟨?_, ?_, by simp only; omega⟩ ?_⟩
        · exact (hfr.trans (hX5.frame (fun _ => False)) (fun _ h => h) (fun _ _ h => h.elim)).trans hf6 (fun _ h => h) (fun n hn hg => by
            rcases hg with hg | hg
            · exact hg
            · omega)
        · refine HD'.sub (fun b hb => ?_) fun b hb => ?_
          · rcases hb with (hb | hb) | hb
            · exact .inl hb
            · exact .inr ⟨hb.1, by first | omega | (simp only; omega)⟩
            · exact .inr ⟨by omega, hb.2⟩
          · rcases hb with hb | hb
            · have := H.lt b hb; first | omega | (simp only; omega)
            · exact hb.2
        · have h1 := hdep' (hk seed key) rfl
          simp only [h1]
          omega
end Go.Proofs.YtkcjhabbgaaknaaGreat
/- A new dict, of one node (U). -/
namespace Go.Proofs.YtkcjhabbgaaknaaGreat
open E
set_option maxRecDepth 100000
theorem dNewXU_any (seed : Int) (w : World) :
    Calls Tryz.prog 25 #[.int .u64 seed] w fun e w' => ∃ d db S nd, e = .returned (.pointer (some ⟨d, 0, none⟩)) ∧ (∀ b, S b → w.heap.size ≤ b) ∧ Ext w.heap w'.heap ∧ DirAt (Value.int .u64) w'.heap S d db 0 1 seed [] nd ∧ outw w' = outw w := by
  refine begins (k25 { tell := true }) [.int .u64 (.v 0)] [] { i := fun _ => seed, h := fun _ => w.heap, o := outw w } 1 1000 rfl rfl rfl trivial (by simp [SV.den, IE.den]) ?_
  conv => arg 7; reduce
  simp only [VC.den, IE.den, NE.den, SV.den, HE.den, PE.den, WS.den, List.map_cons, List.map_nil, Int.cast_ofNat_Int, reduceIte, Nat.reduceEqDiff, Env.setE, Env.setH, Env.setN, Env.setP]
  intro w1 hw1 ho1
  refine (tNewU_any seed w1).mono ?_
  rintro e1 v1 ⟨tb, gb, rfl, htb, hgb, hx1, HT, hp1⟩
  rw [hw1] at htb hgb hx1
  have htl := HT.tl
  have hgl := HT.gl
  have htg := HT.ne
  refine ⟨hp1.trans ho1, hx1, _, rfl, fun c1 c2 c3 c4 hf w2 hw2 ho2 => ?_⟩
  have hz := hx1.le
  have fin : ∀ {hh : Heap} {d db nb lb : Nat} (_ : Ext v1.heap hh) (_ : CellsAt hh d 0 [.int .u64 seed, .int .i64 0, .slice (some ⟨db, 0, none⟩) 1 1, .int .i64 0]) (_ : CellsAt hh db 0 [.pointer (some ⟨nb, 0, none⟩)]) (_ : CellsAt hh nb 0 [.int .i64 0, .slice (some ⟨lb, 0, none⟩) 1 1]) (_ : CellsAt hh lb 0 [.pointer (some ⟨tb, 0, none⟩)]) (_ : PlainB hh nb)
      (_ : v1.heap.size ≤ d ∧ v1.heap.size ≤ db ∧ v1.heap.size ≤ nb ∧ v1.heap.size ≤ lb) (_ : d ≠ db ∧ d ≠ nb ∧ d ≠ lb ∧ db ≠ nb ∧ db ≠ lb ∧ nb ≠ lb),
      ∃ S nd, (∀ b, S b → w.heap.size ≤ b) ∧ DirAt (Value.int .u64) hh S d db 0 1 seed [] nd := by
    intro hh d db nb lb hx a1 a2 a3 a4 a5 a6 a7
    obtain ⟨r1, r2, r3, r4⟩ := a6
    obtain ⟨s1, s2, s3, s4, s5, s6⟩ := a7
    have hz2 := hx.le
    have one : ∀ i, i < 2 ^ 0 → i = 0 := fun i hi => by simpa using hi
    refine ⟨fun b => b = d ∨ b = db ∨ b = nb ∨ b = lb ∨ b = tb ∨ b = gb, fun _ => ⟨nb, lb, tb, gb, 0, Tb.new 1 (0 : Int)⟩, fun b hb => by omega, ⟨a1, .inr ⟨db, [], rfl, Nat.zero_le _, a2, rfl⟩, by decide, fun i _ => ⟨a3, a4, HT.ext hx, a5, ?_, by rw [Tb.new_full]; decide⟩, fun i _ => Nat.le_refl _, fun i j _ _ _ => rfl, fun i j hi hj hne => absurd (by rw [one i hi, one j hj]) hne, fun i _ x hx => (by rw [Tb.new_full] at hx; cases hx), fun x => (by rw [Tb.new_full]), List.nodup_nil, ⟨.inl rfl, .inr (.inl rfl), fun i _ b hb => ?_⟩, ⟨s1, fun i _ => ?_⟩, fun b hb => ?_⟩⟩
    · simp only [Nd.bl, List.mem_cons, List.not_mem_nil, or_false, not_or, List.nodup_cons, List.nodup_nil, and_true, not_false_eq_true]
      exact ⟨⟨s6, by omega, by omega⟩, ⟨by omega, by omega⟩, htg⟩
    · simp only [Nd.bl, List.mem_cons, List.not_mem_nil, or_false] at hb
      exact .inr (.inr hb)
    · simp only [Nd.bl, List.mem_cons, List.not_mem_nil, or_false, not_or]
      exact ⟨⟨s2, s3, by omega, by omega⟩, s4, s5, by omega, by omega⟩
    · have l1 := a1.1; have l2 := a2.1; have l3 := a3.1; have l4 := a4.1
      rcases hb with rfl | rfl | rfl | rfl | rfl | rfl <;> first | assumption | omega
  obtain ⟨S, nd, q1, q2⟩ := fin (by (repeat (first | with_reducible exact Ext.refl v1.heap | with_reducible refine Ext.push ?_ _ | with_reducible refine Ext.set ?_ ?_ _ _)); all_goals first | omega | (simp only [Array.size_push, size_setc]; omega)) c1 c2 c3 c4
    (by repeat (first | with_reducible exact E.PlainB.new _ _ _ | with_reducible refine E.PlainB.push ?_ _ | with_reducible refine E.PlainB.setc ?_ _ _ _)) (by first | omega | (simp only [Array.size_push]; omega)) (by first | omega | (simp only [Array.size_push]; omega))
  exact ⟨_, _, S, nd, rfl, q1, by rw [hw2]; exact hf.none, by rw [hw2]; exact q2, ho2⟩
end Go.Proofs.YtkcjhabbgaaknaaGreat
