import Derived.Test.YtjffhomcgpigpaaDoorA8
/- Names, Lookup, the reference's Lookup. -/
namespace Go.Proofs.YtjffhomcgpigpaaDoor
open E
set_option maxRecDepth 100000
def nameIs (t : List UInt8) : Cd → Bool := fun c => decide (c.name = t)
def look (s : List UInt8) : Cd × Bool := match tbl.find? (nameIs (lower s)) with | some c => (c, true) | none => (Cd.none, false)
theorem tbl_len : tbl.length = 81 := by decide +kernel
theorem look_hit (s : List UInt8) (h : tbl.findIdx (nameIs (lower s)) < tbl.length) : look s = (tbl[tbl.findIdx (nameIs (lower s))], true) := by
  unfold look
  rw [List.find?_eq_getElem?_findIdx, List.getElem?_eq_getElem h]
theorem look_miss (s : List UInt8) (h : ¬ tbl.findIdx (nameIs (lower s)) < tbl.length) : look s = (Cd.none, false) := by
  unfold look
  rw [List.find?_eq_getElem?_findIdx, List.getElem?_eq_none (by omega)]
theorem look_at (s : List UInt8) (i : Nat) (hi : i < tbl.length) (hno : ∀ j, (hj : j < i) → (hl : j < tbl.length) → nameIs (lower s) tbl[j] = false) (h : tbl[i].name = lower s) : look s = (tbl[i], true) := by
  have e : tbl.findIdx (nameIs (lower s)) = i := (List.findIdx_eq hi).2 ⟨by unfold nameIs; exact decide_eq_true h, fun j hj => hno j hj (by omega)⟩
  rw [look_hit s (by omega)]
  simp only [e]
theorem look_none (s : List UInt8) (hno : ∀ j, (hl : j < tbl.length) → nameIs (lower s) tbl[j] = false) : look s = (Cd.none, false) :=
  look_miss s (by
    rw [List.findIdx_eq_length.2 fun x hx => by obtain ⟨j, hj, rfl⟩ := List.getElem_of_mem hx; exact hno j hj]
    omega)
theorem Lookup_any (s : List UInt8) (w : World) (hs : s.length ≤ 9223372036854775807) :
    Calls Tryd.prog 9 #[.string (bs s)] w (RetX (.tuple #[(look s).1.a, .bool (look s).2]) w.heap (outw w)) := by
  refine begins (k9 {}) [.str (.v 0)] [] { s := fun _ => s, h := fun _ => w.heap, o := outw w } 1 1000 rfl rfl rfl trivial (by simp [SV.den, SE.den]) ?_
  conv => arg 7; reduce
  simp only [VC.den, BE.prop, IE.den, NE.den, SE.den, SV.den, HE.den, PE.den, BE.den, WS.den, List.map_cons, List.map_nil, Int.cast_ofNat_Int, reduceIte, Nat.reduceEqDiff, Env.setE, Env.setH, Env.setB, Env.setS, Env.setI, Env.setN, Env.setP]
  intro w1 hw1 ho1
  refine (Lower_any s _ hs).mono ?_
  rintro e1 v1 ⟨rfl, hx1, hp1⟩
  rw [hw1] at hx1
  refine ⟨hp1.trans ho1, hx1, ?_⟩
  refine ⟨_, rfl, ?_⟩
  intro w2 hw2 ho2
  refine (all_any _).mono ?_
  rintro e2 v2 ⟨p, cap, rfl, hr, hx2, hp2⟩
  rw [hw2] at hx2
  refine ⟨hp2.trans ho2, hx2, p, _, cap, rfl, fun hc => ?_⟩
  intro w3 hw3 ho3
  refine (indexC_any tbl (lower s) p cap w.heap.size _ (by rw [hw3]; exact hr) (by rw [tbl_len]; omega) (by rw [hw3]; exact hc)).mono ?_
  rintro e3 v3 ⟨rfl, hx3, hp3⟩
  rw [hw3] at hx3
  refine ⟨hp3.trans ho3, hx3, ?_⟩
  have hb : p = none → False := fun hp => by
    rcases hr with hr | ⟨_, _, hr, _⟩
    · exact absurd (congrArg List.length hr) (by rw [flatC_length, tbl_len]; simp)
    · rw [hp] at hr; cases hr
  refine ⟨_, rfl, fun h => ?_, fun h => ?_⟩
  · replace h : firstAt (nameIs (lower s)) tbl < 0 := h
    unfold firstAt at h
    have h1 : ¬ tbl.findIdx (nameIs (lower s)) < tbl.length := fun e => by
      rw [if_pos e] at h; omega
    rw [look_miss s h1]
    exact (fun hf wr hwr hor => ⟨rfl, by rw [hwr]; exact hf.none, hor⟩)
  · replace h : ¬ firstAt (nameIs (lower s)) tbl < 0 := h
    unfold firstAt at h
    have h1 : tbl.findIdx (nameIs (lower s)) < tbl.length := Decidable.byContradiction fun e => h (by rw [if_neg e]; decide)
    have hr' := CdRow.ext (show CdRow v2.heap p tbl from hr) hx3
    obtain ⟨b, o, hp, g0, g1, g2, g3, g4⟩ := hr'.at h1
    rw [look_hit s h1]
    have e : (firstAt (fun c : Cd => decide (c.name = lower s)) tbl) = (tbl.findIdx (nameIs (lower s)) : Int) := by show firstAt (nameIs (lower s)) tbl = _; unfold firstAt; rw [if_pos h1]
    rw [e]
    rw [Int.toNat_natCast]
    refine ⟨b, o, hp, by omega, by omega, _, _, _, _, _, g0, g1, g2, g3, g4, ?_⟩
    exact (fun hf wr hwr hor => ⟨rfl, by rw [hwr]; exact hf.none, hor⟩)
theorem rLookup_any (s : List UInt8) (w : World) (hs : s.length ≤ 9223372036854775807) :
    Calls Tryd.prog 10 #[.string (bs s)] w (RetX (.tuple #[(look s).1.a, .bool (look s).2]) w.heap (outw w)) := by
  refine begins (k10 {}) [.str (.v 0)] [] { s := fun _ => s, h := fun _ => w.heap, o := outw w } 1 1000 rfl rfl rfl trivial (by simp [SV.den, SE.den]) ?_
  conv => arg 7; reduce
  simp only [VC.den, IE.den, NE.den, SE.den, SV.den, HE.den, PE.den, BE.den, WS.den, List.map_cons, List.map_nil, Int.cast_ofNat_Int, reduceIte, Nat.reduceEqDiff, Env.setE, Env.setH, Env.setN, Env.setP]
  intro w1 hw1 ho1
  refine (All_any _).mono ?_
  rintro e1 v1 ⟨p, cap, rfl, hr, hx1, hp1⟩
  rw [hw1] at hx1
  refine ⟨hp1.trans ho1, hx1, p, _, cap, rfl, fun hc hf => ?_⟩
  refine looping (k10 {}) [.str (.v 0), .ptr (.at (.v 0) (.c 0)), .slice (.v 0) (.v 1) (.v 2), .int .i64 (.ofN (.v 3))] [(.v 0, .c 0, [.str (.lit []), .int .i64 (.c 0), .int .i64 (.c 0), .bool (.c false), .int .i64 (.c 0)])]
    (fun x : Nat × Heap => { s := fun _ => s, p := fun _ => p, n := fun j => if j = 0 then w.heap.size else if j = 1 then tbl.length else if j = 2 then cap else x.1, h := fun _ => x.2, o := outw w }) 4 1000
    (fun x => x.1 ≤ tbl.length ∧ Ext v1.heap x.2 ∧ ∀ j, (hj : j < x.1) → (hl : j < tbl.length) → nameIs (lower s) tbl[j] = false) (fun x => tbl.length - x.1) (0, v1.heap) ⟨Nat.zero_le _, Ext.refl _, fun j hj => by simp at hj⟩ rfl (by simp [SV.den, PE.den, IE.den, NE.den, SE.den]) rfl (fun _ => rfl) (fun x hx => ⟨by simpa [NE.den, SV.den, SE.den, IE.den, BE.den, bytesOf] using hx.2.1.cellsAt hc, trivial, trivial⟩) ?_
  rintro ⟨i, h⟩ ⟨hi, hx, hno⟩ N hN
  simp only at hi hx hno
  simp only [SV.den, SE.den, PE.den, NE.den, IE.den, List.map_cons, List.map_nil, reduceIte, Nat.reduceEqDiff] at hN
  conv => arg 7; reduce
  simp only [VC.den, BE.prop, IE.den, NE.den, SE.den, SV.den, HE.den, PE.den, BE.den, WS.den, WI.den, List.map_cons, List.map_nil, Int.cast_ofNat_Int, reduceIte, Nat.reduceEqDiff, Env.setE, Env.setH, Env.setB, Env.setS, Env.setI, Env.setN, inK_i64]
  have hx0 : Ext w.heap h := ((ext_push _ _).trans hx1).trans hx
  have hr' := CdRow.ext (show CdRow v1.heap p tbl from hr) hx
  refine ⟨fun h1 => ?_, fun h1 => ?_⟩
  · have hlt : i < tbl.length := by omega
    obtain ⟨b, o, rfl, g0, _⟩ := hr'.at hlt
    refine ⟨b, o, rfl, h1, _, g0, ?_⟩
    intro w2 hw2 ho2
    refine (rLower_any s _ hs).mono ?_
    rintro e2 v2 ⟨rfl, hx2, hp2⟩
    rw [hw2] at hx2
    refine ⟨hp2.trans ho2, hx2, ?_⟩
    obtain ⟨b2, o2, hp', g0', g1, g2, g3, g4⟩ := (hr'.ext hx2).at hlt
    injection hp' with hp'; injection hp' with e1 e2; subst e1 e2
    refine ⟨_, rfl, fun h2 => ⟨h1, _, _, _, _, _, g0', g1, g2, g3, g4, fun _ hf w4 hw4 ho4 => ?_⟩, fun h2 => ⟨by rw [tbl_len] at hlt; omega, fun _ _ => ?_⟩⟩
    · rw [look_at s i hlt hno h2]
      exact ⟨rfl, by rw [hw4]; exact ((hx0.frame (fun n => n = w.heap.size ∨ False)).trans (H := fun n => n = w.heap.size) hf (fun _ h => h.elim id (fun h => h.elim)) (fun _ _ h => h.elim id (fun h => h.elim))).ext fun n hn e => by omega, ho4⟩
    · refine hN (i + 1, v2.heap) ⟨hlt, hx.trans hx2, fun j hj hl => ?_⟩ (by simp only; omega)
      by_cases e : j < i
      · exact hno j e hl
      · have : j = i := by simp only at hj; omega
        subst this
        unfold nameIs; exact decide_eq_false h2
  · rw [look_none s fun j hl => hno j (by omega) hl]
    intro _ hf w4 hw4 ho4
    exact ⟨rfl, by rw [hw4]; exact ((hx0.frame (fun n => n = w.heap.size ∨ False)).trans (H := fun n => n = w.heap.size) hf (fun _ h => h.elim id (fun h => h.elim)) (fun _ _ h => h.elim id (fun h => h.elim))).ext fun n hn e => by omega, ho4⟩
end Go.Proofs.YtjffhomcgpigpaaDoor
