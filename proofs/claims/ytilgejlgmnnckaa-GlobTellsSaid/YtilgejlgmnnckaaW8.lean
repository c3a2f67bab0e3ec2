import Derived.Test.YtilgejlgmnnckaaW7
namespace Go.Proofs.Ytilgejlgmnnckaa
open E
set_option maxRecDepth 100000
def bools (l : List Bool) : List Value := l.map .bool
theorem bools_length (l : List Bool) : (bools l).length = l.length := by simp [bools]
theorem bools_set (l : List Bool) (i : Nat) (b : Bool) : (bools l).set i (.bool b) = bools (l.set i b) := by simp [bools, List.map_set]
theorem copies_one (n : Nat) (v : Value) : copies n [v] = List.replicate n v := by
  induction n with
  | zero => rfl
  | succ n ih => rw [copies_succ, ih]; rfl
/-- What an answer without a trace is. -/
abbrev RetX (v : Value) (h : Heap) (o : Os × Array (Nat × ByteArray)) : Ending → World → Prop := fun e w' => e = .returned v ∧ Ext h w'.heap ∧ outw w' = o

structure Glob.Row (p s : List UInt8) (h0 : Heap) (q : List UInt8) (b : Nat) (l : List Bool) (h : Heap) : Prop where
  hq : q.length ≤ 1000000000
  ext : Ext h0 h
  new : h0.size ≤ b
  blk : Blk h b 4 (bools l)
  len : l.length = s.length + 1
  ans : Glob.match' p s = true ↔ ∃ i, l[i]? = some true ∧ Glob.mm (Glob.toks q) (s.drop i) = true

theorem rMatch_any (p s : List UInt8) (w : World) (hp : p.length ≤ 1000000000) (hs : s.length ≤ 1000000000000) :
    Calls Try.prog 12 #[.string (bs p), .string (bs s)] w (RetX (.bool (Glob.match' p s)) w.heap (outw w)) := by
  have hT : ((s.length : Int) + 1).toNat = s.length + 1 := by omega
  refine begins (k12 []) [.str (.v 0), .str (.v 1)] { s := fun j => if j = 0 then p else s, h := fun _ => w.heap, o := outw w } 2 1000 rfl rfl rfl (by simp [SV.den, SE.den]) ?_
  conv => arg 7; reduce
  simp only [VC.den, BE.prop, BE.den, IE.den, NE.den, SE.den, SV.den, HE.den, PE.den, List.map_cons, List.map_nil, Int.cast_ofNat_Int, reduceIte, Nat.reduceEqDiff, inK_i64, Env.setH, Env.setN, hT, copies_one]
  have hB : Blk (w.heap.push (Obj.cells (List.replicate (s.length + 1) (Value.bool false)).toArray 4)) w.heap.size 4 (bools (List.replicate (s.length + 1) false)) := by
    have := Blk.new w.heap 4 (bools (List.replicate (s.length + 1) false))
    simpa [bools] using this
  refine ⟨by omega, by omega, by omega, by omega, by omega, by omega, by omega, by rw [hB.get]; simp [bools], hB.frz 0, ?_⟩
  refine looping (k12 []) [.str (.v 0), .str (.v 1), .slice (.at (.v 0) (.c 0)) (.v 1) (.v 1)]
    (fun x : List UInt8 × Nat × List Bool × Heap => { s := fun j => if j = 0 then x.1 else s, n := fun j => if j = 0 then x.2.1 else s.length + 1, h := fun _ => x.2.2.2, o := outw w }) 2 1000
    (fun x => Glob.Row p s w.heap x.1 x.2.1 x.2.2.1 x.2.2.2) (fun x => x.1.length)
    (p, w.heap.size, true :: List.replicate s.length false, setc (w.heap.push (Obj.cells (List.replicate (s.length + 1) (Value.bool false)).toArray 4)) w.heap.size 0 (.bool true))
    ⟨hp, ((Ext.refl _).push _).set (Nat.le_refl _) _ _, Nat.le_refl _, by have := hB.set 0 (.bool true); rw [bools_set] at this; exact this, by simp, ?_⟩ rfl (by simp [SV.den, SE.den, PE.den, NE.den]) rfl (fun _ => rfl) ?_
  · constructor
    · intro h; exact ⟨0, rfl, h⟩
    · rintro ⟨i, h1, h2⟩
      cases i with
      | zero => exact h2
      | succ i => simp [List.getElem?_replicate] at h1
  rintro ⟨q, b, l, h⟩ hR N hN
  simp only at hR
  conv => arg 7; reduce
  simp only [VC.den, BE.prop, BE.den, IE.den, NE.den, SE.den, SV.den, HE.den, PE.den, List.map_cons, List.map_nil, Int.cast_ofNat_Int, reduceIte, Nat.reduceEqDiff, inK_i64, Env.setH, Env.setN, Env.setB, Env.setS, Env.setE, hT, copies_one, u8n _ 42 (by omega), Option.some.injEq, Addr.mk.injEq, true_and, and_true]
  simp only [SV.den, SE.den, PE.den, NE.den, List.map_cons, List.map_nil, reduceIte, Nat.reduceEqDiff] at hN
  have hB2 : Blk (Array.push h (Obj.cells (List.replicate (s.length + 1) (Value.bool false)).toArray 4)) h.size 4 (bools (List.replicate (s.length + 1) false)) := by
    have := Blk.new h 4 (bools (List.replicate (s.length + 1) false))
    simpa [bools] using this
  have hB1 := hR.blk.push (Obj.cells (List.replicate (s.length + 1) (Value.bool false)).toArray 4)
  have hE1 := hR.ext.push (Obj.cells (List.replicate (s.length + 1) (Value.bool false)).toArray 4)
  have hlt := hR.blk.lt
  have hnew := hR.new
  have hll := hR.len
  refine ⟨fun h1 => ⟨by omega, by omega, by omega, by omega, by omega, by omega, h1, fun h2 => ?_, fun h2 w1 hw1 ho1 => ?_⟩, fun h1 => ⟨by omega, by omega, ?_⟩⟩
  · -- a star
    refine looping (k12 []) [.str (.v 0), .str (.v 1), .slice (.at (.v 0) (.c 0)) (.v 1) (.v 1), .slice (.at (.v 2) (.c 0)) (.v 1) (.v 1), .bool (.v 0), .int .i64 (.ofN (.v 3))]
      (fun x : Bool × Nat × List Bool × Heap => { s := fun j => if j = 0 then q else s, n := fun j => if j = 0 then b else if j = 1 then s.length + 1 else if j = 2 then h.size else x.2.1, b := fun _ => x.1, h := fun _ => x.2.2.2, o := outw w }) 4 1000
      (fun x => x.2.1 ≤ s.length + 1 ∧ Ext w.heap x.2.2.2 ∧ Blk x.2.2.2 b 4 (bools l) ∧ Blk x.2.2.2 h.size 4 (bools x.2.2.1) ∧ x.2.2.1.length = s.length + 1 ∧ (x.1 = true ↔ ∃ k, k < x.2.1 ∧ l[k]? = some true) ∧ ∀ j, x.2.2.1[j]? = some true ↔ j < x.2.1 ∧ ∃ k, k ≤ j ∧ l[k]? = some true)
      (fun x => s.length + 1 - x.2.1) (false, 0, List.replicate (s.length + 1) false, Array.push h (Obj.cells (List.replicate (s.length + 1) (Value.bool false)).toArray 4))
      ⟨by simp, hE1, hB1, hB2, by simp, by simp, by intro j; simp [List.getElem?_replicate]⟩ rfl (by simp [SV.den, SE.den, PE.den, NE.den, IE.den, BE.den]) rfl (fun _ => rfl) ?_
    rintro ⟨on, i, m, g⟩ ⟨hi, hE, hL, hM, hml, hon, hm⟩ N2 hN2
    simp only at hi hE hL hM hml hon hm
    conv => arg 7; reduce
    simp only [VC.den, BE.prop, BE.den, IE.den, NE.den, SE.den, SV.den, HE.den, PE.den, List.map_cons, List.map_nil, Int.cast_ofNat_Int, reduceIte, Nat.reduceEqDiff, inK_i64, Env.setH, Env.setN, Env.setB, Env.setS, Env.setE, hT, copies_one]
    simp only [SV.den, SE.den, PE.den, NE.den, IE.den, BE.den, List.map_cons, List.map_nil, reduceIte, Nat.reduceEqDiff] at hN2
    have hstep : i ≤ s.length → ∀ x : Bool, (x = true ↔ ∃ k, k ≤ i ∧ l[k]? = some true) →
        N2 [.string (bs q), .string (bs s), .slice (some { block := b, off := 0 }) (s.length + 1) (s.length + 1), .slice (some { block := Array.size h, off := 0 }) (s.length + 1) (s.length + 1), .bool x, .int .i64 (i + 1)] (setc g (Array.size h) i (.bool x)) (outw w) := by
      intro hi2 x hx
      refine hN2 (x, i + 1, m.set i x, setc g h.size i (.bool x)) ⟨by simp only; omega, hE.set (by omega) _ _, hL.ne (by omega) _ _, by rw [← bools_set]; exact hM.set _ _, by simpa using hml, ?_, ?_⟩ (by simp only; omega)
      · rw [hx]; simp only [Nat.lt_succ_iff]
      · intro j
        simp only [List.getElem?_set]
        by_cases hj : i = j
        · subst hj
          simp only [if_true, hml]
          rw [if_pos (by omega)]
          simp only [Option.some.injEq, hx]
          constructor
          · intro h; exact ⟨by omega, h⟩
          · intro h; exact h.2
        · rw [if_neg hj, hm]
          constructor
          · rintro ⟨h1, h2⟩; exact ⟨by omega, h2⟩
          · rintro ⟨h1, h2⟩; exact ⟨by omega, h2⟩
    have hMi : i ≤ s.length → (E.get g (Array.size h) i).isSome = true := by
      intro h; rw [hM.get, List.getElem?_eq_getElem (by rw [bools_length]; omega)]; rfl
    refine ⟨fun h3 => ⟨fun _ => by omega, fun _ => by omega, fun h4 => ⟨by omega, by omega, hMi (by omega), hM.frz i, by omega, hstep (by omega) true ?_⟩, fun h4 => ⟨l[i]'(by omega), ?_, by omega, by omega, hMi (by omega), hM.frz i, by omega, hstep (by omega) _ ?_⟩⟩, fun h3 => ⟨by omega, by omega, ?_⟩⟩
    · obtain ⟨k, hk, hk2⟩ := hon.1 h4
      simp only [true_iff]
      exact ⟨k, by omega, hk2⟩
    · rw [hL.get]; simp [bools, List.getElem?_eq_getElem (show i < l.length by omega)]
    · constructor
      · intro h5; exact ⟨i, Nat.le_refl _, by rw [List.getElem?_eq_getElem (by omega), h5]⟩
      · rintro ⟨k, hk, hk2⟩
        by_cases e : k = i
        · subst e; rw [List.getElem?_eq_getElem (by omega)] at hk2; injection hk2
        · exact absurd (hon.2 ⟨k, by omega, hk2⟩) h4
    · refine hN (q.drop 1, h.size, m, g) ⟨by have := hR.hq; simp only [List.length_drop]; omega, hE, by simp only; omega, hM, hml, ?_⟩ (by simp only [List.length_drop]; omega)
      have hd := dropC q 0 (by omega)
      rw [h2] at hd
      simp only [List.drop_zero, Nat.zero_add] at hd
      rw [hR.ans]
      conv => lhs; rw [hd]
      rw [show (OfNat.ofNat 42 : UInt8) = 42 from rfl, Glob.toks_star]
      constructor
      · rintro ⟨j, hj, h4⟩
        rw [Glob.mm_star] at h4
        obtain ⟨k, hk, h5⟩ := h4
        have hjl : j < l.length := (List.getElem?_eq_some_iff.1 hj).1
        rw [List.drop_drop] at h5
        simp only [List.length_drop] at hk
        exact ⟨j + k, (hm _).2 ⟨by omega, j, by omega, hj⟩, h5⟩
      · rintro ⟨j, hj, h4⟩
        obtain ⟨h5, k, hk, hk2⟩ := (hm _).1 hj
        refine ⟨k, hk2, (Glob.mm_star _ _).2 ⟨j - k, by simp only [List.length_drop]; omega, ?_⟩⟩
        rw [List.drop_drop, show k + (j - k) = j by omega]
        exact h4
  · -- one byte
    refine (rone_any q 0 w1 hR.hq (by omega)).mono ?_
    intro e w' ⟨he, hw', ho'⟩
    refine ⟨by rw [ho', ho1], _, _, he, ?_⟩
    rw [hw', hw1]
    have hlt2 := Glob.one_lt (q.getD 0 0) (q.drop 1) 0
    have hd := dropC q 0 (by omega)
    simp only [List.drop_zero, Nat.zero_add] at hd
    rw [← hd] at hlt2
    refine looping (k12 []) [.str (.v 0), .str (.v 1), .slice (.at (.v 0) (.c 0)) (.v 1) (.v 1), .slice (.at (.v 2) (.c 0)) (.v 1) (.v 1), .str (.v 2), .int .i64 (.ofN (.v 3))]
      (fun x : Nat × List Bool × Heap => { s := fun j => if j = 0 then q else if j = 1 then s else (Glob.one q 0).2, n := fun j => if j = 0 then b else if j = 1 then s.length + 1 else if j = 2 then h.size else x.1, h := fun _ => x.2.2, o := outw w }) 4 1000
      (fun x => x.1 ≤ s.length ∧ Ext w.heap x.2.2 ∧ Blk x.2.2 b 4 (bools l) ∧ Blk x.2.2 h.size 4 (bools x.2.1) ∧ x.2.1.length = s.length + 1 ∧ ∀ j, x.2.1[j]? = some true ↔ 1 ≤ j ∧ j ≤ x.1 ∧ l[j - 1]? = some true ∧ (Glob.one q (s.getD (j - 1) 0)).1 = true)
      (fun x => s.length - x.1) (0, List.replicate (s.length + 1) false, Array.push h (Obj.cells (List.replicate (s.length + 1) (Value.bool false)).toArray 4))
      ⟨by simp, hE1, hB1, hB2, by simp, by intro j; simp [List.getElem?_replicate]; omega⟩ rfl (by simp [SV.den, SE.den, PE.den, NE.den, IE.den, BE.den]) rfl (fun _ => rfl) ?_
    rintro ⟨i, m, g⟩ ⟨hi, hE, hL, hM, hml, hm⟩ N2 hN2
    simp only at hi hE hL hM hml hm
    conv => arg 7; reduce
    simp only [VC.den, BE.prop, BE.den, IE.den, NE.den, SE.den, SV.den, HE.den, PE.den, List.map_cons, List.map_nil, Int.cast_ofNat_Int, reduceIte, Nat.reduceEqDiff, inK_i64, Env.setH, Env.setN, Env.setB, Env.setS, Env.setE, hT, copies_one]
    simp only [SV.den, SE.den, PE.den, NE.den, IE.den, BE.den, List.map_cons, List.map_nil, reduceIte, Nat.reduceEqDiff] at hN2
    have hlen1 : (q.drop 1).length = q.length - 1 := List.length_drop
    have hli : i < s.length → l[i]? = some (l[i]'(by omega)) := fun h => List.getElem?_eq_getElem (by omega)
    refine ⟨fun h3 => ⟨by omega, by omega, l[i]'(by omega), by rw [hL.get]; simp [bools, List.getElem?_eq_getElem (show i < l.length by omega)], fun h4 => ⟨by omega, by omega, fun w2 hw2 ho2 => ?_⟩, fun h4 => ⟨by omega, ?_⟩⟩, fun h3 => ?_⟩
    · refine (rone_any q (s.getD i 0) w2 hR.hq (by omega)).mono ?_
      intro e2 w3 ⟨he2, hw3, ho3⟩
      refine ⟨by rw [ho3, ho2], _, _, he2, by omega, by omega, by omega, ?_⟩
      rw [hw3, hw2]
      refine ⟨?_, hM.frz _, by omega, ?_⟩
      · rw [hM.get, List.getElem?_eq_getElem (by rw [bools_length]; omega)]; rfl
      · refine hN2 (i + 1, m.set (i + 1) (Glob.one q (s.getD i 0)).1, setc g h.size (i + 1) (.bool (Glob.one q (s.getD i 0)).1)) ⟨by simp only; omega, hE.set (by omega) _ _, hL.ne (by omega) _ _, by rw [← bools_set]; exact hM.set _ _, by simpa using hml, ?_⟩ (by simp only; omega)
        intro j
        simp only [List.getElem?_set]
        by_cases hj : i + 1 = j
        · subst hj
          simp only [if_true, hml]
          rw [if_pos (by omega)]
          simp only [Option.some.injEq, Nat.add_sub_cancel, hli (by omega), h4, true_and]
          constructor
          · intro h; exact ⟨by omega, Nat.le_refl _, h⟩
          · intro h; exact h.2.2
        · rw [if_neg hj, hm]
          constructor
          · rintro ⟨h1, h2, h3⟩; exact ⟨h1, by omega, h3⟩
          · rintro ⟨h1, h2, h3⟩; exact ⟨h1, by omega, h3⟩
    · refine hN2 (i + 1, m, g) ⟨by simp only; omega, hE, hL, hM, hml, ?_⟩ (by simp only; omega)
      intro j
      rw [hm]
      constructor
      · rintro ⟨h1, h2, h3⟩; exact ⟨h1, by simp only; omega, h3⟩
      · rintro ⟨h1, h2, h3, h5⟩
        simp only at h2
        refine ⟨h1, ?_, h3, h5⟩
        by_cases e : j = i + 1
        · subst e
          rw [Nat.add_sub_cancel, hli (by omega)] at h3
          injection h3 with h3
          exact absurd h3 h4
        · omega
    · refine hN ((Glob.one q 0).2, h.size, m, g) ⟨by have := hR.hq; simp only; omega, hE, by simp only; omega, hM, hml, ?_⟩ (by simp only; omega)
      have hT1 : Glob.toks q = some (fun c => (Glob.one q c).1) :: Glob.toks (Glob.one q 0).2 := by
        have := Glob.toks_one (q.getD 0 0) (q.drop 1) h2 0
        rw [← hd] at this
        exact this
      rw [hR.ans, hT1]
      constructor
      · rintro ⟨j, hj, h4⟩
        by_cases hjs : j < s.length
        · rw [dropC s j hjs, Glob.mm, Bool.and_eq_true] at h4
          exact ⟨j + 1, (hm _).2 ⟨by omega, by omega, hj, h4.1⟩, h4.2⟩
        · rw [dropE s j (by omega)] at h4; simp [Glob.mm] at h4
      · rintro ⟨j, hj, h4⟩
        obtain ⟨h5, h6, h7, h8⟩ := (hm _).1 hj
        refine ⟨j - 1, h7, ?_⟩
        rw [dropC s (j - 1) (by omega), Glob.mm, h8, Bool.true_and, show j - 1 + 1 = j by omega]
        exact h4
  · have hx : s.length < l.length := by omega
    refine ⟨l[s.length], by rw [hR.blk.get]; simp [bools, List.getElem?_eq_getElem hx], fun w1 hw1 ho1 => ⟨?_, by rw [hw1]; exact hR.ext, ho1⟩⟩
    obtain rfl : q = [] := by cases q with | nil => rfl | cons a r => simp at h1
    have : Glob.match' p s = l[s.length] := by
      have ha := hR.ans
      cases hc : l[s.length] with
      | true =>
        rw [ha]
        exact ⟨s.length, by rw [List.getElem?_eq_getElem hx, hc], by rw [dropE _ _ (Nat.le_refl _), Glob.toks]; simp [Glob.mm]⟩
      | false =>
        cases hmm : Glob.match' p s with
        | false => rfl
        | true =>
          obtain ⟨i, h2, h3⟩ := ha.1 hmm
          have hil : i < l.length := (List.getElem?_eq_some_iff.1 h2).1
          rw [Glob.toks, Glob.mm] at h3
          have h4 : s.length ≤ i := by simpa using h3
          obtain rfl : i = s.length := by omega
          rw [List.getElem?_eq_getElem hx, hc] at h2
          cases h2
    rw [this]
end Go.Proofs.Ytilgejlgmnnckaa
