import Derived.Test.YtjffhomcgpigpaaDoorA2
/- The document's small letters; a first one that a function tells. -/
namespace Go.Proofs.YtjffhomcgpigpaaDoor
open E
set_option maxRecDepth 100000
theorem rLower_any (s : List UInt8) (w : World) (hs : s.length ≤ 9223372036854775807) :
    Calls Tryd.prog 14 #[.string (bs s)] w (RetX (.string (bs (lower s))) w.heap (outw w)) := by
  refine begins (k14 {}) [.str (.v 0)] [] { s := fun _ => s, h := fun _ => w.heap, o := outw w } 1 1000 rfl rfl rfl trivial (by simp [SV.den, SE.den]) ?_
  conv => arg 7; reduce
  simp only [VC.den, IE.den, NE.den, SE.den, SV.den, HE.den, PE.den, WS.den, List.map_cons, List.map_nil, Int.cast_ofNat_Int, reduceIte, Nat.reduceEqDiff, Env.setH, Env.setN]
  intro c' hc' _
  have hB := CellsAt.fresh w.heap (u8s s) (List.replicate (c' - s.length) (Value.int .u8 0)) 5 (c', c' + 1) (by rw [u8s_length]; exact hc')
  refine looping (k14 {}) [.slice (.at (.v 1) (.c 0)) (.v 2) (.v 3), .int .i64 (.ofN (.v 0))] []
    (fun x : Nat × Heap => { n := fun j => if j = 0 then x.1 else if j = 1 then w.heap.size else if j = 2 then s.length else c', h := fun _ => x.2, o := outw w }) 4 1000
    (fun x => x.1 ≤ s.length ∧ Ext w.heap x.2 ∧ CellsAt x.2 w.heap.size 0 (u8s (lowTo s x.1))) (fun x => s.length - x.1) (0, w.heap.push (.cells (u8s s ++ List.replicate (c' - s.length) (Value.int .u8 0)).toArray 5 (c', c' + 1))) ⟨Nat.zero_le _, ext_push _ _, by rw [lowTo_zero]; exact hB⟩ rfl (by simp [SV.den, PE.den, IE.den, NE.den]) rfl (fun _ => rfl) (fun _ _ => trivial) ?_
  rintro ⟨i, h⟩ ⟨hi, hx, hc⟩ N hN
  simp only at hi hx hc
  simp only [SV.den, PE.den, NE.den, IE.den, List.map_cons, List.map_nil, reduceIte, Nat.reduceEqDiff] at hN
  conv => arg 7; reduce
  simp only [VC.den, BE.prop, IE.den, NE.den, SE.den, SV.den, HE.den, PE.den, WS.den, WI.den, List.map_cons, List.map_nil, Int.cast_ofNat_Int, reduceIte, Nat.reduceEqDiff, Env.setS, Env.setI, inK_i64]
  have hlen := lowTo_length s i
  have hg : i < s.length → E.get h w.heap.size i = some (.int .u8 ((s.getD i 0).toNat : Int)) := fun hlt => by
    have hg := hc.at0 (u8s_get (l := lowTo s i) (j := i) (by omega))
    rwa [lowTo_get s i hlt] at hg
  have same : i < s.length → ¬ ((65 : Int) ≤ (s.getD i 0).toNat ∧ ((s.getD i 0).toNat : Int) ≤ 90) → CellsAt h w.heap.size 0 (u8s (lowTo s (i + 1))) := fun hlt h3 => by
    have e := lowTo_get s i hlt
    rw [lowTo_succ s i hlt, lower_same _ h3, ← e, getD_set_same]
    exact hc
  refine ⟨fun h1 => ?_, fun h1 => ?_⟩
  · have hlt : i < s.length := by omega
    refine ⟨by omega, _, hg hlt, fun _ => by omega, fun h2 => ⟨_, hg hlt, fun h3 => ⟨by omega, _, hg hlt, by omega, (hc.wr0 (j := i) (by rw [u8s_length]; omega)).1, (hc.wr0 (j := i) (by rw [u8s_length]; omega)).2, by omega, fun _ => ?_⟩, fun h3 => ⟨by omega, fun _ => ?_⟩⟩, fun h2 => ⟨by omega, fun _ => ?_⟩⟩
    · have hu := lower_up (s.getD i 0) (by omega) (by omega)
      have hset := hc.set0 i (.int .u8 ((lowerB (s.getD i 0)).toNat : Int))
      rw [u8s_set, ← lowTo_succ s i hlt] at hset
      have hv : IntKind.u8.wrap (((s.getD i 0).toNat : Int) + 32) = ((lowerB (s.getD i 0)).toNat : Int) := by
        rw [hu]
        have h3 := wrap_u8 ((s.getD i 0).toNat + 32) (by omega)
        rw [← h3]; rfl
      rw [hv]
      exact hN (i + 1, _) ⟨by simp only; omega, hx.set (by omega) _ _, hset⟩ (by simp only; omega)
    · exact hN (i + 1, h) ⟨by simp only; omega, hx, same hlt (by omega)⟩ (by simp only; omega)
    · exact hN (i + 1, h) ⟨by simp only; omega, hx, same hlt (by omega)⟩ (by simp only; omega)
  · refine ⟨lower s, by simp [lower], ?_, fun _ w1 hw1 ho1 => ⟨rfl, by rw [hw1]; exact hx, ho1⟩⟩
    rw [lowTo_all s i (by omega)] at hc
    exact hc.row
/-- The place of the first one that is so. -/
def firstAt {α : Type} (p : α → Bool) (l : List α) : Int := if l.findIdx p < l.length then (l.findIdx p : Int) else -1
/-- Commands as they lie in memory. -/
def flatC (l : List Cd) : List Value := l.flatMap Cd.v
theorem flatC_length (l : List Cd) : (flatC l).length = 5 * l.length := by
  induction l with
  | nil => rfl
  | cons c l ih => simp only [flatC, List.flatMap_cons, List.length_append, List.length_cons] at *; rw [ih]; simp [Cd.v]; omega
theorem flatC_get (l : List Cd) (i j : Nat) (hi : i < l.length) (hj : j < 5) : (flatC l)[5 * i + j]? = (l[i].v)[j]? := by
  induction l generalizing i with
  | nil => simp at hi
  | cons c l ih =>
    cases i with
    | zero =>
      simp only [flatC, List.flatMap_cons, Nat.mul_zero, Nat.zero_add, List.getElem_cons_zero]
      rw [List.getElem?_append_left (by simp [Cd.v]; omega)]
    | succ i =>
      simp only [List.length_cons] at hi
      have := ih i (by omega)
      simp only [flatC, List.flatMap_cons] at *
      rw [List.getElem?_append_right (by simp [Cd.v]; omega)]
      simp only [List.getElem_cons_succ, ← this]
      congr 1
      simp [Cd.v]; omega
theorem flatC_snoc (l : List Cd) (c : Cd) : flatC (l ++ [c]) = flatC l ++ c.v := by simp [flatC]
/-- A list of commands, in memory. -/
def CdRow (h : Heap) (p : Option Addr) (l : List Cd) : Prop := row h p (flatC l)
theorem CdRow.at {h : Heap} {p : Option Addr} {l : List Cd} (H : CdRow h p l) {i : Nat} (hi : i < l.length) : ∃ b o, p = some ⟨b, o, none⟩ ∧
    get h b (o + i * 5) = some (.string (bs l[i].name)) ∧ get h b (o + i * 5 + 1) = some (.int .i64 l[i].least) ∧ get h b (o + i * 5 + 2) = some (.int .i64 l[i].most) ∧
    get h b (o + i * 5 + 3) = some (.bool l[i].write) ∧ get h b (o + i * 5 + 4) = some (.int .i64 l[i].group) := by
  rcases H with H | ⟨b, o, rfl, H⟩
  · have := congrArg List.length H
    rw [flatC_length] at this; simp at this; omega
  · refine ⟨b, o, rfl, ?_, ?_, ?_, ?_, ?_⟩
    · have := H (5 * i + 0) _ ((flatC_get l i 0 hi (by omega)).trans rfl); rwa [show o + (5 * i + 0) = o + i * 5 by omega] at this
    · have := H (5 * i + 1) _ ((flatC_get l i 1 hi (by omega)).trans rfl); rwa [show o + (5 * i + 1) = o + i * 5 + 1 by omega] at this
    · have := H (5 * i + 2) _ ((flatC_get l i 2 hi (by omega)).trans rfl); rwa [show o + (5 * i + 2) = o + i * 5 + 2 by omega] at this
    · have := H (5 * i + 3) _ ((flatC_get l i 3 hi (by omega)).trans rfl); rwa [show o + (5 * i + 3) = o + i * 5 + 3 by omega] at this
    · have := H (5 * i + 4) _ ((flatC_get l i 4 hi (by omega)).trans rfl); rwa [show o + (5 * i + 4) = o + i * 5 + 4 by omega] at this
theorem CdRow.ext {h h' : Heap} {p : Option Addr} {l : List Cd} (H : CdRow h p l) (hx : Ext h h') : CdRow h' p l := hx.row H
theorem findIdx_step {α : Type} (p : α → Bool) (l : List α) (i : Nat) (hi : i < l.length) (hno : ∀ j, (hj : j < i) → p (l[j]'(by omega)) = false) :
    (p l[i] = true → l.findIdx p = i) ∧ (p l[i] = false → ∀ j, (hj : j < i + 1) → p (l[j]'(by omega)) = false) := by
  refine ⟨fun h => ?_, fun h j hj => ?_⟩
  · rw [List.findIdx_eq hi]; exact ⟨h, fun j hj => by simp [hno j hj]⟩
  · by_cases e : j = i
    · subst e; exact h
    · exact hno j (by omega)
theorem indexC_any (l : List Cd) (t : List UInt8) (p : Option Addr) (cap b : Nat) (w : World) (hl : CdRow w.heap p l) (hln : l.length ≤ 1000000) (hb : CellsAt w.heap b 0 [.string (bs t)]) :
    Calls Tryd.prog 26 #[.slice p l.length cap, .func (.func 27) #[] #[.pointer (some ⟨b, 0, none⟩)]] w (RetX (.int .i64 (firstAt (fun c : Cd => decide (c.name = t)) l)) w.heap (outw w)) := by
  refine begins (k26 {}) [.slice (.v 0) (.v 0) (.v 1), .clo 0] [] { p := fun _ => p, n := fun j => if j = 0 then l.length else cap, c := fun _ => some (27, [.pointer (some ⟨b, 0, none⟩)]), h := fun _ => w.heap, o := outw w } 2 1000 rfl rfl rfl trivial (by simp [SV.den, PE.den, NE.den, cloVal]) ?_
  conv => arg 7; reduce
  simp only [VC.den, IE.den, NE.den, SV.den, HE.den, PE.den, WS.den, List.map_cons, List.map_nil, Int.cast_ofNat_Int, reduceIte, Nat.reduceEqDiff]
  intro _
  refine looping (k26 {}) [.slice (.v 0) (.v 0) (.v 1), .clo 0, .int .i64 (.ofN (.v 0)), .int .i64 (.ofN (.v 2))] []
    (fun x : Nat × Heap => { p := fun _ => p, n := fun j => if j = 0 then l.length else if j = 1 then cap else x.1, c := fun _ => some (27, [.pointer (some ⟨b, 0, none⟩)]), h := fun _ => x.2, o := outw w }) 3 1000
    (fun x => x.1 ≤ l.length ∧ Ext w.heap x.2 ∧ ∀ j, (hj : j < x.1) → (hl : j < l.length) → decide (l[j].name = t) = false) (fun x => l.length - x.1) (0, w.heap) ⟨Nat.zero_le _, Ext.refl _, fun j hj => by simp at hj⟩ rfl (by simp [SV.den, PE.den, IE.den, NE.den, cloVal]) rfl (fun _ => rfl) (fun _ _ => trivial) ?_
  rintro ⟨i, h⟩ ⟨hi, hx, hno⟩ N hN
  simp only at hi hx hno
  simp only [SV.den, PE.den, NE.den, IE.den, List.map_cons, List.map_nil, reduceIte, Nat.reduceEqDiff] at hN
  conv => arg 7; reduce
  simp only [VC.den, BE.prop, IE.den, NE.den, SE.den, SV.den, HE.den, PE.den, BE.den, WS.den, List.map_cons, List.map_nil, List.cons_append, List.nil_append, Int.cast_ofNat_Int, reduceIte, Nat.reduceEqDiff, Env.setE, Env.setH, Env.setB, Env.setS, Env.setI, Env.setN, inK_i64]
  refine ⟨fun h1 => ?_, fun h1 hf w1 hw1 ho1 => ⟨retI ?_, by rw [hw1]; exact hx, ho1⟩⟩
  · have hlt : i < l.length := by omega
    obtain ⟨x, o, rfl, g0, g1, g2, g3, g4⟩ := CdRow.at (hl.ext hx) hlt
    obtain ⟨s1, s2⟩ := findIdx_step (fun c : Cd => decide (c.name = t)) l i hlt (fun j hj => hno j hj (by omega))
    refine ⟨x, o, rfl, by omega, _, _, _, _, _, g0, g1, g2, g3, g4, _, _, rfl, by kernel_rfl, ?_⟩
    intro w1 hw1 ho1
    refine (isName_any l[i] t b w1 (by rw [hw1]; exact hx.cellsAt hb)).mono ?_
    rintro e1 v1 ⟨rfl, hx1, hp1⟩
    rw [hw1] at hx1
    refine ⟨hp1.trans ho1, hx1, _, rfl, fun h2 hf w2 hw2 ho2 => ⟨retI ?_, by rw [hw2]; exact hx.trans hx1, ho2⟩, fun h2 => ⟨by omega, fun hf => ?_⟩⟩
    · unfold firstAt; rw [s1 h2, if_pos hlt]
    · exact hN (i + 1, _) ⟨by simp only; omega, hx.trans hx1, fun j hj hl => s2 (by simpa using h2) j hj⟩ (by simp only; omega)
  · unfold firstAt
    have : l.findIdx (fun c : Cd => decide (c.name = t)) = l.length := by
      rw [List.findIdx_eq_length]
      intro x hx
      obtain ⟨j, hj, rfl⟩ := List.getElem_of_mem hx
      exact hno j (by omega) hj
    rw [this, if_neg (Nat.lt_irrefl _)]
/-- Texts, in memory. -/
def strs (l : List (List UInt8)) : List Value := l.map fun s => .string (bs s)
def StrRow (h : Heap) (p : Option Addr) (l : List (List UInt8)) : Prop := row h p (strs l)
theorem StrRow.at {h : Heap} {p : Option Addr} {l : List (List UInt8)} (H : StrRow h p l) {i : Nat} (hi : i < l.length) : ∃ b o, p = some ⟨b, o, none⟩ ∧ get h b (o + i) = some (.string (bs l[i])) := by
  rcases H with H | ⟨b, o, rfl, H⟩
  · have := congrArg List.length H
    simp [strs] at this; subst this; simp at hi
  · exact ⟨b, o, rfl, H i _ (by simp [strs, hi])⟩
theorem StrRow.ext {h h' : Heap} {p : Option Addr} {l : List (List UInt8)} (H : StrRow h p l) (hx : Ext h h') : StrRow h' p l := hx.row H
theorem indexS_any (l : List (List UInt8)) (p : Option Addr) (cap : Nat) (w : World) (hl : StrRow w.heap p l) (hln : l.length ≤ 9223372036854775807) :
    Calls Tryd.prog 41 #[.slice p l.length cap, .func (.func 30) #[] #[]] w (RetX (.int .i64 (firstAt (fun s => decide (4096 < s.length)) l)) w.heap (outw w)) := by
  refine begins (k41 {}) [.slice (.v 0) (.v 0) (.v 1), .clo 0] [] { p := fun _ => p, n := fun j => if j = 0 then l.length else cap, c := fun _ => some (30, []), h := fun _ => w.heap, o := outw w } 2 1000 rfl rfl rfl trivial (by simp [SV.den, PE.den, NE.den, cloVal]) ?_
  conv => arg 7; reduce
  simp only [VC.den, IE.den, NE.den, SV.den, HE.den, PE.den, WS.den, List.map_cons, List.map_nil, Int.cast_ofNat_Int, reduceIte, Nat.reduceEqDiff]
  intro _
  refine looping (k41 {}) [.slice (.v 0) (.v 0) (.v 1), .clo 0, .int .i64 (.ofN (.v 0)), .int .i64 (.ofN (.v 2))] []
    (fun x : Nat × Heap => { p := fun _ => p, n := fun j => if j = 0 then l.length else if j = 1 then cap else x.1, c := fun _ => some (30, []), h := fun _ => x.2, o := outw w }) 3 1000
    (fun x => x.1 ≤ l.length ∧ Ext w.heap x.2 ∧ ∀ j, (hj : j < x.1) → (hl : j < l.length) → decide (4096 < l[j].length) = false) (fun x => l.length - x.1) (0, w.heap) ⟨Nat.zero_le _, Ext.refl _, fun j hj => by simp at hj⟩ rfl (by simp [SV.den, PE.den, IE.den, NE.den, cloVal]) rfl (fun _ => rfl) (fun _ _ => trivial) ?_
  rintro ⟨i, h⟩ ⟨hi, hx, hno⟩ N hN
  simp only at hi hx hno
  simp only [SV.den, PE.den, NE.den, IE.den, List.map_cons, List.map_nil, reduceIte, Nat.reduceEqDiff] at hN
  conv => arg 7; reduce
  simp only [VC.den, BE.prop, IE.den, NE.den, SE.den, SV.den, HE.den, PE.den, BE.den, WS.den, List.map_cons, List.map_nil, List.cons_append, List.nil_append, Int.cast_ofNat_Int, reduceIte, Nat.reduceEqDiff, Env.setE, Env.setH, Env.setB, Env.setS, Env.setN, inK_i64]
  refine ⟨fun h1 => ?_, fun h1 hf w1 hw1 ho1 => ⟨retI ?_, by rw [hw1]; exact hx, ho1⟩⟩
  · have hlt : i < l.length := by omega
    obtain ⟨x, o, rfl, g0⟩ := StrRow.at (hl.ext hx) hlt
    obtain ⟨s1, s2⟩ := findIdx_step (fun s : List UInt8 => decide (4096 < s.length)) l i hlt (fun j hj => hno j hj (by omega))
    refine ⟨x, o, rfl, by omega, _, g0, _, _, rfl, by kernel_rfl, ?_⟩
    intro w1 hw1 ho1
    refine (long_any l[i] w1).mono ?_
    rintro e1 v1 ⟨rfl, hx1, hp1⟩
    rw [hw1] at hx1
    refine ⟨hp1.trans ho1, hx1, _, rfl, fun h2 hf w2 hw2 ho2 => ⟨retI ?_, by rw [hw2]; exact hx.trans hx1, ho2⟩, fun h2 => ⟨by omega, fun hf => ?_⟩⟩
    · unfold firstAt; rw [s1 h2, if_pos hlt]
    · exact hN (i + 1, _) ⟨by simp only; omega, hx.trans hx1, fun j hj hl => s2 (by simpa using h2) j hj⟩ (by simp only; omega)
  · unfold firstAt
    have : l.findIdx (fun s : List UInt8 => decide (4096 < s.length)) = l.length := by
      rw [List.findIdx_eq_length]
      intro x hx
      obtain ⟨j, hj, rfl⟩ := List.getElem_of_mem hx
      exact hno j (by omega) hj
    rw [this, if_neg (Nat.lt_irrefl _)]
theorem firstAt_ge {α : Type} (p : α → Bool) (l : List α) : (0 ≤ firstAt p l) ↔ l.any p = true := by
  unfold firstAt
  rw [List.any_eq_true]
  by_cases h : l.findIdx p < l.length
  · rw [if_pos h]
    exact ⟨fun _ => ⟨l[l.findIdx p], List.getElem_mem h, List.findIdx_getElem⟩, fun _ => by omega⟩
  · rw [if_neg h]
    exact ⟨fun h => by omega, fun ⟨x, hx, hp⟩ => absurd (List.findIdx_lt_length_of_exists ⟨x, hx, hp⟩) h⟩
theorem hasLong_any (l : List (List UInt8)) (p : Option Addr) (cap : Nat) (w : World) (hl : StrRow w.heap p l) (hln : l.length ≤ 9223372036854775807) :
    Calls Tryd.prog 32 #[.slice p l.length cap, .func (.func 30) #[] #[]] w (RetX (.bool (l.any fun s => decide (4096 < s.length))) w.heap (outw w)) := by
  refine begins (k32 {}) [.slice (.v 0) (.v 0) (.v 1), .fn (.func 30) [] []] [] { p := fun _ => p, n := fun j => if j = 0 then l.length else cap, h := fun _ => w.heap, o := outw w } 2 1000 rfl rfl rfl trivial (by simp [SV.den, PE.den, NE.den]) ?_
  conv => arg 7; reduce
  simp only [VC.den, IE.den, NE.den, SV.den, HE.den, PE.den, BE.den, WS.den, List.map_cons, List.map_nil, Int.cast_ofNat_Int, reduceIte, Nat.reduceEqDiff, Env.setE, Env.setH, Env.setI]
  intro w1 hw1 ho1
  refine (indexS_any l p cap _ (by rw [hw1]; exact hl) hln).mono ?_
  rintro e1 v1 ⟨rfl, hx1, hp1⟩
  rw [hw1] at hx1
  refine ⟨hp1.trans ho1, hx1, ?_⟩
  refine ⟨_, rfl, ?_⟩
  exact fun hf wr hwr hor => ⟨retB (by rw [Bool.eq_iff_iff, decide_eq_true_iff]; exact firstAt_ge _ _), by rw [hwr]; exact hf.none, hor⟩
end Go.Proofs.YtjffhomcgpigpaaDoor
