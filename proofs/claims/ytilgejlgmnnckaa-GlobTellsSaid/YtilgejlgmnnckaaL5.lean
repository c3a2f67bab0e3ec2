import Derived.Test.YtilgejlgmnnckaaL1
namespace Go.Proofs.Ytilgejlgmnnckaa
open E
set_option maxRecDepth 100000
theorem Glob.cls_escs (c : UInt8) (r : List UInt8) : ∀ (l : List UInt8) (has : Bool), Glob.cls c has (Glob.esc l ++ r) = Glob.cls c (has || l.contains c) r
  | [], has => by
    show Glob.cls c has r = Glob.cls c (has || false) r
    rw [Bool.or_false]
  | a :: l, has => by
    have : Glob.esc (a :: l) ++ r = 92 :: a :: (Glob.esc l ++ r) := rfl
    rw [this, Glob.cls_esc, Glob.cls_escs c r l]
    have e : (a == c) = (c == a) := BEq.comm
    rw [List.contains_cons, Bool.or_assoc, e]
theorem Glob.class_in (l : List UInt8) (c : UInt8) : Glob.one (91 :: (Glob.esc l ++ [93])) c = (l.contains c, []) := by
  rw [Glob.one_b]
  have : Glob.classS (Glob.esc l ++ [93]) c = Glob.cls c false (Glob.esc l ++ [93]) := by
    cases l with
    | nil => rfl
    | cons a l => rfl
  rw [this, Glob.cls_escs, Glob.cls_close]; simp
theorem Glob.class_out (l : List UInt8) (c : UInt8) : Glob.one (91 :: 94 :: (Glob.esc l ++ [93])) c = (!l.contains c, []) := by
  rw [Glob.one_b]
  have : Glob.classS (94 :: (Glob.esc l ++ [93])) c = (!(Glob.cls c false (Glob.esc l ++ [93])).1, (Glob.cls c false (Glob.esc l ++ [93])).2) := rfl
  rw [this, Glob.cls_escs, Glob.cls_close]; simp
theorem Glob.match_in (l s : List UInt8) : Glob.match' (91 :: (Glob.esc l ++ [93])) s = true ↔ ∃ c, s = [c] ∧ l.contains c = true := by
  unfold Glob.match'
  rw [Glob.toks_one 91 _ (by decide) 0]
  simp only [Glob.class_in, Glob.toks]
  match s with
  | [] => simp [Glob.mm]
  | [c] => simp [Glob.mm]
  | c :: d :: s => simp [Glob.mm]
theorem Glob.match_out (l s : List UInt8) : Glob.match' (91 :: 94 :: (Glob.esc l ++ [93])) s = true ↔ ∃ c, s = [c] ∧ l.contains c = false := by
  unfold Glob.match'
  rw [Glob.toks_one 91 _ (by decide) 0]
  simp only [Glob.class_out, Glob.toks]
  match s with
  | [] => simp [Glob.mm]
  | [c] => simp [Glob.mm]
  | c :: d :: s => simp [Glob.mm]

theorem Classes_any (p : Option Addr) (l : List UInt8) (cap : Nat) (c : UInt8) (w : World) (hl : row w.heap p (u8s l)) (hln : l.length ≤ 9223372036854775807) :
    Calls Try.prog 4 #[.slice p l.length cap, .int .u8 c.toNat] w (RetX (.bool true) w.heap (outw w)) := by
  refine begins (k4 []) [.slice (.v 0) (.v 0) (.v 1), .int .u8 (.v 0)] { p := fun _ => p, n := fun j => if j = 0 then l.length else cap, i := fun _ => c.toNat, h := fun _ => w.heap, o := outw w } 2 1000 rfl rfl rfl (by simp [SV.den, PE.den, NE.den, IE.den]) ?_
  conv => arg 7; reduce
  simp only [VC.den, BE.prop, IE.den, NE.den, SE.den, SV.den, HE.den, PE.den, BE.den, List.map_cons, List.map_nil, Int.cast_ofNat_Int, reduceIte, Nat.reduceEqDiff]
  refine looping (k4 []) [.slice (.v 0) (.v 0) (.v 1), .int .u8 (.v 0), .str (.v 0), .bool (.v 0), .int .i64 (.ofN (.v 2))]
    (fun x : Nat × Heap => { p := fun _ => p, n := fun j => if j = 0 then l.length else if j = 1 then cap else x.1, i := fun _ => c.toNat, s := fun _ => Glob.esc (l.take x.1), b := fun _ => (l.take x.1).contains c, h := fun _ => x.2, o := outw w }) 3 1000
    (fun x => x.1 ≤ l.length ∧ x.1 ≤ 10 ∧ Ext w.heap x.2) (fun x => 10 - x.1) (0, w.heap) ⟨by simp, by simp, Ext.refl _⟩ rfl (by simp [SV.den, SE.den, PE.den, IE.den, NE.den, BE.den, bytesOf, Glob.esc]) rfl (fun _ => rfl) ?_
  rintro ⟨i, h⟩ ⟨hi, hi2, hx⟩ N hN
  simp only at hi hi2 hx
  conv => arg 7; reduce
  simp only [VC.den, BE.prop, IE.den, NE.den, SE.den, SV.den, HE.den, PE.den, BE.den, List.map_cons, List.map_nil, Int.cast_ofNat_Int, reduceIte, Nat.reduceEqDiff, inK_i64, Env.setE, Env.setH, Env.setB, Env.setS, Env.setI, Env.setN, Env.setP, u8eq]
  simp only [SV.den, SE.den, PE.den, NE.den, IE.den, BE.den, List.map_cons, List.map_nil, reduceIte, Nat.reduceEqDiff] at hN
  have h91 : bytesOf [91] = [91] := rfl
  have h92 : bytesOf [92] = [92] := rfl
  have h93 : bytesOf [93] = [93] := rfl
  have h9194 : bytesOf [91, 94] = [91, 94] := rfl
  have hnil : bytesOf [] = [] := rfl
  rw [h91, h92, h93, h9194, hnil]
  have hesc : (Glob.esc (l.take i)).length ≤ 20 := by rw [Glob.esc_length]; simp; omega
  have hrow := hx.row hl
  have hget : ∀ g : Heap, Ext h g → i < l.length → ∃ b o, p = some ⟨b, o, none⟩ ∧ E.get g b (o + i) = some (.int .u8 ((l.getD i 0).toNat : Int)) := by
    intro g hg hil
    rcases hg.row hrow with h1 | ⟨b, o, h1, h2⟩
    · have := congrArg List.length h1; simp [u8s] at this; rw [this] at hil; simp at hil
    · exact ⟨b, o, h1, h2 i _ (by simp [u8s, List.getD, hil])⟩
  have hnew : ∀ a : UInt8, row (Array.push h (Obj.cells #[Value.int IntKind.u8 (a.toNat : Int)] 5)) (some { block := Array.size h, off := 0 }) (u8s [a]) := fun a => (Blk.new h 5 (u8s [a])).row
  refine ⟨fun ⟨h1, h2⟩ => ?_, fun h1 => ?_⟩
  · obtain ⟨b, o, hp, hg⟩ := hget h (Ext.refl _) (by omega)
    have hx2 := (Ext.refl h).push (Obj.cells #[Value.int IntKind.u8 ((l.getD i 0).toNat : Int)] 5)
    obtain ⟨b2, o2, hp2, hg2⟩ := hget _ hx2 (by omega)
    refine ⟨by first | omega | (simp only [List.length_append, List.length_cons, List.length_nil]; omega), b, o, hp, by omega, by omega, _, hg, [l.getD i 0], rfl, hnew _, by first | omega | (simp only [List.length_append, List.length_cons, List.length_nil]; omega), fun h3 => ⟨by omega, ?_⟩, fun h3 => ⟨b2, o2, hp2, by omega, by omega, _, hg2, by omega, ?_⟩⟩
    · have := hN (i + 1, _) ⟨by simp only; omega, by simp only; omega, hx.trans hx2⟩ (by simp only; omega)
      simp only at this
      rw [Glob.esc_take l i (by omega)] at this
      have e : (l.take (i + 1)).contains c = true := by
        rw [List.take_succ_eq_append_getElem (by omega)]; simp only [List.contains_eq_mem, List.mem_append, decide_eq_true_eq] at h3 ⊢; exact .inl h3
      rw [e] at this
      rw [List.append_assoc]
      exact this
    · have := hN (i + 1, _) ⟨by simp only; omega, by simp only; omega, hx.trans hx2⟩ (by simp only; omega)
      simp only at this
      rw [Glob.esc_take l i (by omega)] at this
      have e : (l.take (i + 1)).contains c = decide (((l.getD i 0).toNat : Int) = (c.toNat : Int)) := by
        rw [List.take_succ_eq_append_getElem (by omega)]
        have e2 : l[i]'(by omega) = l.getD i 0 := by simp [List.getD, show i < l.length by omega]
        rw [e2, Bool.eq_iff_iff]
        simp only [List.contains_eq_mem, List.mem_append, decide_eq_true_eq, List.mem_singleton, u8eq] at h3 ⊢
        constructor
        · rintro (h | h)
          · exact absurd h h3
          · exact h.symm
        · intro h; exact .inr h.symm
      rw [e] at this
      rw [List.append_assoc]
      exact this
  have hx2 := hx.push (Obj.cells #[Value.int IntKind.u8 (c.toNat : Int)] 5)
  generalize hlt : l.take i = m at hesc
  have k1 : Glob.match' ([91] ++ Glob.esc m ++ [93]) [c] = true ↔ m.contains c = true := by
    refine (Glob.match_in m [c]).trans ?_
    constructor
    · rintro ⟨d, h, h2⟩; injection h with h; subst h; exact h2
    · intro h; exact ⟨c, rfl, h⟩
  have k2 : Glob.match' ([91, 94] ++ Glob.esc m ++ [93]) [c] = true ↔ ¬ m.contains c = true := by
    refine (Glob.match_out m [c]).trans ?_
    constructor
    · rintro ⟨d, h, h2⟩; injection h with h; subst h; rw [h2]; simp
    · intro h; exact ⟨c, rfl, by simpa using h⟩
  have k3 : ¬ Glob.match' ([91] ++ Glob.esc m ++ [93]) [] = true := by
    intro h
    obtain ⟨d, h, _⟩ := (Glob.match_in m []).1 h
    cases h
  have k4 : ¬ Glob.match' ([91] ++ Glob.esc m ++ [93]) ([c] ++ [c]) = true := by
    intro h
    obtain ⟨d, h, _⟩ := (Glob.match_in m [c, c]).1 h
    cases h
  refine ⟨[c], rfl, hnew c, by first | omega | (simp only [List.length_append, List.length_cons, List.length_nil]; omega), by first | omega | (simp only [List.length_append, List.length_cons, List.length_nil]; omega), fun w1 hw1 ho1 => ?_⟩
  refine (Match_any _ _ w1 (by first | omega | (simp only [List.length_append, List.length_cons, List.length_nil]; omega)) (by first | omega | (simp only [List.length_append, List.length_cons, List.length_nil]; omega))).mono ?_
  rintro e w1' ⟨rfl, hw1', ho1'⟩
  refine ⟨ho1'.trans ho1, _, rfl, fun _ => by first | omega | (simp only [List.length_append, List.length_cons, List.length_nil]; omega), fun _ => by first | omega | (simp only [List.length_append, List.length_cons, List.length_nil]; omega), fun _ w2 hw2 ho2 => ?_, fun h => absurd k1 h⟩
  refine (Match_any _ _ w2 (by first | omega | (simp only [List.length_append, List.length_cons, List.length_nil]; omega)) (by first | omega | (simp only [List.length_append, List.length_cons, List.length_nil]; omega))).mono ?_
  rintro e w2' ⟨rfl, hw2', ho2'⟩
  refine ⟨ho2'.trans ho2, _, rfl, fun _ => by first | omega | (simp only [List.length_append, List.length_cons, List.length_nil]; omega), fun _ => by first | omega | (simp only [List.length_append, List.length_cons, List.length_nil]; omega), fun _ w3 hw3 ho3 => ?_, fun h => absurd k2 h⟩
  refine (Match_any _ _ w3 (by first | omega | (simp only [List.length_append, List.length_cons, List.length_nil]; omega)) (by first | omega | (simp only [List.length_append, List.length_cons, List.length_nil]; omega))).mono ?_
  rintro e w3' ⟨rfl, hw3', ho3'⟩
  refine ⟨ho3'.trans ho3, _, rfl, fun _ => by first | omega | (simp only [List.length_append, List.length_cons, List.length_nil]; omega), fun _ => by first | omega | (simp only [List.length_append, List.length_cons, List.length_nil]; omega), fun _ => by first | omega | (simp only [List.length_append, List.length_cons, List.length_nil]; omega), fun _ w4 hw4 ho4 => ?_, fun h => absurd k3 h⟩
  refine (Match_any _ _ w4 (by first | omega | (simp only [List.length_append, List.length_cons, List.length_nil]; omega)) (by first | omega | (simp only [List.length_append, List.length_cons, List.length_nil]; omega))).mono ?_
  rintro e w4' ⟨rfl, hw4', ho4'⟩
  refine ⟨ho4'.trans ho4, _, rfl, fun _ w5 hw5 ho5 => ?_, fun h => absurd k4 h⟩
  refine (known_any w5).mono ?_
  rintro e w5' ⟨rfl, hw5', ho5'⟩
  refine ⟨ho5'.trans ho5, _, rfl, fun w6 hw6 ho6 => ⟨rfl, ?_, ho6⟩⟩
  rw [hw6, hw5', hw5, hw4', hw4, hw3', hw3, hw2', hw2, hw1', hw1]
  exact hx2
end Go.Proofs.Ytilgejlgmnnckaa
