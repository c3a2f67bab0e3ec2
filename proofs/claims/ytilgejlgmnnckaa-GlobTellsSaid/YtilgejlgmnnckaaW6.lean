import Derived.Test.YtilgejlgmnnckaaW5
namespace Go.Proofs.Ytilgejlgmnnckaa
open E
set_option maxRecDepth 100000
abbrev Tok := Option (UInt8 → Bool)
def Glob.mm : List Tok → List UInt8 → Bool
  | [], s => s.isEmpty
  | none :: ts, [] => mm ts []
  | none :: ts, c :: s => mm ts (c :: s) || mm (none :: ts) s
  | some _ :: _, [] => false
  | some f :: ts, c :: s => f c && mm ts s
theorem Glob.mm_star (ts : List Tok) : ∀ s : List UInt8, Glob.mm (none :: ts) s = true ↔ ∃ k, k ≤ s.length ∧ Glob.mm ts (s.drop k) = true
  | [] => by
    rw [mm]
    constructor
    · intro h; exact ⟨0, by simp, by simpa using h⟩
    · rintro ⟨k, hk, h⟩; simpa using h
  | c :: s => by
    rw [mm, Bool.or_eq_true, mm_star ts s]
    constructor
    · rintro (h | ⟨k, hk, h⟩)
      · exact ⟨0, by simp, by simpa using h⟩
      · exact ⟨k + 1, by simp; omega, by simpa using h⟩
    · rintro ⟨k, hk, h⟩
      cases k with
      | zero => left; simpa using h
      | succ k => right; exact ⟨k, by simp at hk; omega, by simpa using h⟩
/-- Where a row of single tokens is gone through. -/
theorem Glob.mm_single : ∀ (fs : List (UInt8 → Bool)) (ts : List Tok) (s : List UInt8), Glob.mm (fs.map some ++ ts) s = true → fs.length ≤ s.length ∧ Glob.mm ts (s.drop fs.length) = true
  | [], ts, s, h => ⟨by simp, by simpa using h⟩
  | f :: fs, ts, [], h => by simp [mm] at h
  | f :: fs, ts, c :: s, h => by
    simp only [List.map_cons, List.cons_append, mm, Bool.and_eq_true] at h
    obtain ⟨h1, h2⟩ := mm_single fs ts s h.2
    exact ⟨by simp; omega, by simpa using h2⟩
def Glob.toks : List UInt8 → List Tok
  | [] => []
  | a :: r => if a = 42 then none :: toks r else some (fun c => (Glob.one (a :: r) c).1) :: toks (Glob.one (a :: r) 0).2
termination_by p => p.length
decreasing_by
  · simp
  · have := Glob.one_lt a r 0; simp only [List.length_cons]; omega
theorem Glob.cls_rest (c c' : UInt8) : ∀ (n : Nat) (has has' : Bool) (p : List UInt8), p.length ≤ n → (Glob.cls c has p).2 = (Glob.cls c' has' p).2 := by
  intro n
  induction n with
  | zero => intro has has' p hp; cases p with
    | nil => simp [Glob.cls]
    | cons a r => simp at hp
  | succ n ih =>
    intro has has' p hp
    match p with
    | [] => simp [Glob.cls]
    | [a] => simp only [Glob.cls]; split <;> rfl
    | [a, b] =>
      simp only [Glob.cls]
      split
      · rfl
      · split
        · rfl
        · split <;> rfl
    | a :: b :: d :: r =>
      simp only [List.length_cons] at hp
      rw [Glob.cls, Glob.cls]
      split
      · rfl
      · split
        · exact ih _ _ (d :: r) (by simp; omega)
        · split
          · exact ih _ _ r (by omega)
          · exact ih _ _ (b :: d :: r) (by simp; omega)
theorem Glob.one_rest (p : List UInt8) (c c' : UInt8) : (Glob.one p c).2 = (Glob.one p c').2 := by
  unfold Glob.one
  split
  · rfl
  · split
    · rfl
    · split
      · unfold Glob.classS
        split
        · exact Glob.cls_rest _ _ _ _ _ _ (Nat.le_refl _)
        · exact Glob.cls_rest _ _ _ _ _ _ (Nat.le_refl _)
      · split
        · split <;> rfl
        · rfl
theorem Glob.toks_star (r : List UInt8) : Glob.toks (42 :: r) = none :: Glob.toks r := by rw [Glob.toks]; rfl
theorem Glob.toks_one (a : UInt8) (r : List UInt8) (h : ¬ a = 42) (c : UInt8) : Glob.toks (a :: r) = some (fun c => (Glob.one (a :: r) c).1) :: Glob.toks (Glob.one (a :: r) c).2 := by rw [Glob.toks, if_neg h, Glob.one_rest _ 0 c]
def Glob.match' (p s : List UInt8) : Bool := Glob.mm (Glob.toks p) s
theorem Glob.cls_suffix (c : UInt8) : ∀ (n : Nat) (has : Bool) (p : List UInt8), p.length ≤ n → (Glob.cls c has p).2 <:+ p := by
  intro n
  induction n with
  | zero => intro has p hp; cases p with
    | nil => simp [Glob.cls]
    | cons a r => simp at hp
  | succ n ih =>
    intro has p hp
    match p with
    | [] => simp [Glob.cls]
    | [a] => simp only [Glob.cls]; split <;> exact List.nil_suffix
    | [a, b] =>
      simp only [Glob.cls]
      split
      · exact List.suffix_cons _ _
      · split
        · exact List.nil_suffix
        · split <;> exact List.nil_suffix
    | a :: b :: d :: r =>
      simp only [List.length_cons] at hp
      rw [Glob.cls]
      split
      · exact List.suffix_cons _ _
      · split
        · exact (ih _ (d :: r) (by simp; omega)).trans ((List.suffix_cons _ _).trans (List.suffix_cons _ _))
        · split
          · exact (ih _ r (by omega)).trans ((List.suffix_cons _ _).trans ((List.suffix_cons _ _).trans (List.suffix_cons _ _)))
          · exact (ih _ (b :: d :: r) (by simp; omega)).trans (List.suffix_cons _ _)
theorem Glob.classS_suffix (p : List UInt8) (c : UInt8) : (Glob.classS p c).2 <:+ p := by
  unfold Glob.classS
  split
  · exact (Glob.cls_suffix c _ false _ (Nat.le_refl _)).trans (List.suffix_cons _ _)
  · exact Glob.cls_suffix c _ false p (Nat.le_refl _)
theorem Glob.one_suffix (p : List UInt8) (c : UInt8) : (Glob.one p c).2 <:+ p := by
  unfold Glob.one
  split
  · exact List.nil_suffix
  · split
    · exact List.suffix_cons _ _
    · split
      · exact (Glob.classS_suffix _ c).trans (List.suffix_cons _ _)
      · split
        · split
          · exact (List.suffix_cons _ _).trans (List.suffix_cons _ _)
          · exact List.nil_suffix
        · exact List.suffix_cons _ _
theorem Glob.one_drop (p : List UInt8) (k : Nat) (c : UInt8) : p.drop (k + ((p.drop k).length - (Glob.one (p.drop k) c).2.length)) = (Glob.one (p.drop k) c).2 := by
  have h := List.suffix_iff_eq_drop.1 (Glob.one_suffix (p.drop k) c)
  rw [List.drop_drop] at h
  exact h.symm
/-- The loop's law. -/
structure Glob.Inv (p s : List UInt8) (k i : Nat) (star : Int) (frm : Nat) : Prop where
  hk : k ≤ p.length
  hi : i ≤ s.length
  hf : frm ≤ i
  ans : Glob.match' p s = true ↔ (Glob.mm (Glob.toks (p.drop k)) (s.drop i) = true ∨ (0 ≤ star ∧ ∃ j, frm < j ∧ j ≤ s.length ∧ Glob.mm (Glob.toks (p.drop star.toNat)) (s.drop j) = true))
  shape : (star < 0 ∧ frm = 0) ∨ ∃ st : Nat, star = st ∧ st ≤ p.length ∧ ∃ fs : List (UInt8 → Bool), Glob.toks (p.drop st) = fs.map some ++ Glob.toks (p.drop k) ∧ frm + fs.length = i
variable {p s : List UInt8} {k i frm : Nat} {star : Int}
theorem Glob.Inv.begin (p s : List UInt8) : Glob.Inv p s 0 0 (-1) 0 := ⟨by omega, by omega, by omega, by simp [Glob.match'], .inl ⟨by omega, rfl⟩⟩
theorem Glob.Inv.star_ (h : Glob.Inv p s k i star frm) (hk : k < p.length) (hc : p.getD k 0 = 42) : Glob.Inv p s (k + 1) i ((k + 1 : Nat) : Int) i := by
  have hT : Glob.toks (p.drop k) = none :: Glob.toks (p.drop (k + 1)) := by rw [dropC p k hk, hc, Glob.toks_star]
  refine ⟨by omega, h.hi, Nat.le_refl _, ?_, .inr ⟨k + 1, rfl, by omega, [], by simp, by simp⟩⟩
  rw [h.ans, hT, Glob.mm_star]
  simp only [Int.toNat_natCast, List.drop_drop]
  have e2 : (∃ a, a ≤ (s.drop i).length ∧ Glob.mm (Glob.toks (p.drop (k + 1))) (s.drop (i + a)) = true) ↔ (Glob.mm (Glob.toks (p.drop (k + 1))) (s.drop i) = true ∨ (0 ≤ ((k + 1 : Nat) : Int) ∧ ∃ j, i < j ∧ j ≤ s.length ∧ Glob.mm (Glob.toks (p.drop (k + 1))) (s.drop j) = true)) := by
    have := h.hi
    constructor
    · rintro ⟨a, ha, h1⟩
      cases a with
      | zero => left; simpa using h1
      | succ a => right; exact ⟨by omega, i + (a + 1), by omega, by simp at ha; omega, h1⟩
    · rintro (h1 | ⟨_, j, h1, h2, h3⟩)
      · exact ⟨0, by omega, by simpa using h1⟩
      · exact ⟨j - i, by simp; omega, by rw [show i + (j - i) = j by omega]; exact h3⟩
  rw [← e2]
  constructor
  · rintro (h1 | ⟨h0, j, h1, h2, h3⟩)
    · exact h1
    · rcases h.shape with ⟨hs, _⟩ | ⟨st, rfl, hst, fs, hfs, hl⟩
      · omega
      · rw [Int.toNat_natCast, hfs, hT] at h3
        obtain ⟨h4, h5⟩ := Glob.mm_single fs _ _ h3
        rw [Glob.mm_star] at h5
        obtain ⟨a, ha, h6⟩ := h5
        simp only [List.drop_drop, List.length_drop] at h6 ha h4
        refine ⟨j + fs.length + a - i, by simp; omega, ?_⟩
        rw [show i + (j + fs.length + a - i) = j + fs.length + a by omega]
        exact h6
  · exact .inl
theorem Glob.Inv.one_ (h : Glob.Inv p s k i star frm) (hk : k < p.length) (hc : ¬ p.getD k 0 = 42) (hi : i < s.length) (hok : (Glob.one (p.drop k) (s.getD i 0)).1 = true) :
    Glob.Inv p s (k + ((p.drop k).length - (Glob.one (p.drop k) (s.getD i 0)).2.length)) (i + 1) star frm := by
  have hle := Glob.one_drop p k (s.getD i 0)
  have hT : Glob.toks (p.drop k) = some (fun c => (Glob.one (p.drop k) c).1) :: Glob.toks (p.drop (k + ((p.drop k).length - (Glob.one (p.drop k) (s.getD i 0)).2.length))) := by
    rw [hle]
    have := Glob.toks_one (p.getD k 0) (p.drop (k + 1)) hc (s.getD i 0)
    rw [← dropC p k hk] at this
    exact this
  have hf := h.hf
  have hlen : (p.drop k).length = p.length - k := List.length_drop
  refine ⟨by omega, by omega, by omega, ?_, ?_⟩
  · rw [h.ans, hT, dropC s i hi, Glob.mm]
    simp only [hok, Bool.true_and]
  · rcases h.shape with h1 | ⟨st, h1, h2, fs, h3, h4⟩
    · exact .inl h1
    · refine .inr ⟨st, h1, h2, fs ++ [fun c => (Glob.one (p.drop k) c).1], ?_, by simp; omega⟩
      rw [h3, hT]; simp
theorem Glob.Inv.fails (h : Glob.Inv p s k i star frm) (hc : k < p.length → ¬ p.getD k 0 = 42) (he : ¬ (i = s.length ∧ k = p.length)) (hno : i < s.length → k < p.length → (Glob.one (p.drop k) (s.getD i 0)).1 = false) :
    Glob.mm (Glob.toks (p.drop k)) (s.drop i) = false := by
  have hk := h.hk; have hi := h.hi
  by_cases h1 : k < p.length
  · rw [dropC p k h1, Glob.toks_one _ _ (hc h1) (s.getD i 0)]
    by_cases h2 : i < s.length
    · rw [dropC s i h2, Glob.mm, ← dropC p k h1, hno h2 h1, Bool.false_and]
    · rw [dropE s i (by omega), Glob.mm]
  · rw [dropE p k (by omega), Glob.toks, dropC s i (by omega)]; simp [Glob.mm]
theorem Glob.Inv.no (h : Glob.Inv p s k i star frm) (hno : Glob.mm (Glob.toks (p.drop k)) (s.drop i) = false) (hs : star < 0 ∨ s.length ≤ frm) : Glob.match' p s = false := by
  cases hm : Glob.match' p s with
  | false => rfl
  | true =>
    rcases h.ans.1 hm with h1 | ⟨h1, j, h2, h3, _⟩
    · rw [hno] at h1; cases h1
    · omega
theorem Glob.Inv.back (h : Glob.Inv p s k i star frm) (hno : Glob.mm (Glob.toks (p.drop k)) (s.drop i) = false) (hs : ¬ (star < 0 ∨ s.length ≤ frm)) :
    ∃ st : Nat, star = st ∧ Glob.Inv p s st (frm + 1) st (frm + 1) := by
  rcases h.shape with h1 | ⟨st, rfl, h2, fs, h3, h4⟩
  · omega
  refine ⟨st, rfl, h2, by omega, Nat.le_refl _, ?_, .inr ⟨st, rfl, h2, [], by simp, by simp⟩⟩
  rw [h.ans, hno, Int.toNat_natCast]
  constructor
  · rintro (h5 | ⟨h5, j, h6, h7, h8⟩)
    · cases h5
    · by_cases e : j = frm + 1
      · left; rw [← e]; exact h8
      · right; exact ⟨h5, j, by omega, h7, h8⟩
  · rintro (h5 | ⟨h5, j, h6, h7, h8⟩)
    · exact .inr ⟨by omega, frm + 1, by omega, by omega, h5⟩
    · exact .inr ⟨h5, j, by omega, h7, h8⟩
theorem Glob.meas {a b c d e : Nat} (h : b ≤ a) (hd : d ≤ e) (hc : c ≤ e) (hs : b < a ∨ d < c) : b * (e + 1) + d < a * (e + 1) + c := by
  rcases hs with hs | hs
  · have : (b + 1) * (e + 1) ≤ a * (e + 1) := Nat.mul_le_mul_right _ hs
    rw [Nat.add_mul] at this
    omega
  · have := Nat.mul_le_mul_right (e + 1) h
    omega

theorem Match_any (p s : List UInt8) (w : World) (hp : p.length ≤ 1000000000) (hs : s.length ≤ 9223372036854775807) :
    Calls Try.prog 11 #[.string (bs p), .string (bs s)] w (Ret (.bool (Glob.match' p s)) w.heap (outw w)) := by
  refine begins (k11 []) [.str (.v 0), .str (.v 1)] { s := fun j => if j = 0 then p else s, h := fun _ => w.heap, o := outw w } 2 1000 rfl rfl rfl (by simp [SV.den, SE.den]) ?_
  conv => arg 7; reduce
  simp only [VC.den, IE.den, SE.den, SV.den, HE.den, List.map_cons, List.map_nil, Int.cast_ofNat_Int, reduceIte]
  refine looping (k11 []) [.str (.v 0), .str (.v 1), .int .i64 (.ofN (.v 0)), .int .i64 (.ofN (.v 1)), .int .i64 (.v 0), .int .i64 (.ofN (.v 2))]
    (fun x : Nat × Nat × Int × Nat => { s := fun j => if j = 0 then p else s, n := fun j => if j = 0 then x.1 else if j = 1 then x.2.1 else x.2.2.2, i := fun _ => x.2.2.1, h := fun _ => w.heap, o := outw w }) 3 1000
    (fun x => Glob.Inv p s x.1 x.2.1 x.2.2.1 x.2.2.2) (fun x => (s.length - x.2.2.2) * (p.length + 1) + (p.length - x.1)) (0, 0, -1, 0) (Glob.Inv.begin p s) rfl (by simp [SV.den, SE.den, IE.den, NE.den]) rfl (fun _ => rfl) ?_
  rintro ⟨k, i, star, frm⟩ hI N hN
  simp only at hI
  conv => arg 7; reduce
  simp only [VC.den, BE.prop, IE.den, NE.den, SE.den, SV.den, HE.den, BE.den, inK_i64, List.map_cons, List.map_nil, Int.cast_ofNat_Int, u8n _ 42 (by omega), Env.setE, Env.setH, Env.setI, Env.setB, reduceIte, Nat.reduceEqDiff]
  simp only [SV.den, SE.den, IE.den, NE.den, List.map_cons, List.map_nil, reduceIte, Nat.reduceEqDiff] at hN
  have hk := hI.hk; have hi := hI.hi; have hf := hI.hf
  have hN' : ∀ (k' i' : Nat) (star' : Int) (frm' : Nat), Glob.Inv p s k' i' star' frm' → frm ≤ frm' → (frm < frm' ∨ k < k') →
      N [.string (bs p), .string (bs s), .int .i64 k', .int .i64 i', .int .i64 star', .int .i64 frm'] w.heap (outw w) := by
    intro k' i' star' frm' h1 h2 h3
    have h4 := h1.hk; have h5 := h1.hi; have h6 := h1.hf
    exact hN (k', i', star', frm') h1 (Glob.meas (a := s.length - frm) (b := s.length - frm') (c := p.length - k) (d := p.length - k') (by omega) (by omega) (by omega) (by omega))
  have fin : (k < p.length → ¬ p.getD k 0 = 42) → ¬ (i = s.length ∧ k = p.length) → (i < s.length → k < p.length → (Glob.one (p.drop k) (s.getD i 0)).1 = false) → ∀ hp : Heap, hp = w.heap →
      (star < 0 ∨ (s.length : Int) ≤ frm → ∀ (w2 : World), w2.heap = hp → outw w2 = outw w → Ret (.bool (Glob.match' p s)) w.heap (outw w) (.returned (.bool false)) w2) ∧
      (¬ (star < 0 ∨ (s.length : Int) ≤ frm) → (-9223372036854775808 ≤ (frm : Int) + 1 ∧ (frm : Int) + 1 ≤ 9223372036854775807) ∧
        N [.string (bs p), .string (bs s), .int .i64 star, .int .i64 (frm + 1), .int .i64 star, .int .i64 (frm + 1)] hp (outw w)) := by
    rintro h1 h2 h3 hp rfl
    have hno := hI.fails h1 h2 h3
    refine ⟨fun h4 w2 hw2 ho2 => ⟨?_, hw2, ho2⟩, fun h4 => ⟨by omega, ?_⟩⟩
    · rw [hI.no hno (by omega)]
    · obtain ⟨st, rfl, h5⟩ := hI.back hno (by omega)
      exact hN' st (frm + 1) st (frm + 1) h5 (by omega) (by omega)
  refine ⟨fun _ => by omega, fun h => h, fun ⟨h1, h2⟩ => ⟨by omega, ?_⟩, fun h1 => ⟨fun ⟨h2, h3⟩ w1 hw1 ho1 => ⟨?_, hw1, ho1⟩, fun h2 => ⟨fun ⟨h3, h4⟩ => ⟨by omega, by omega, by omega, by omega, fun w1 hw1 ho1 => ?_⟩, fun h3 => ?_⟩⟩⟩
  · exact hN' (k + 1) i ((k + 1 : Nat) : Int) i (hI.star_ (by omega) h2) (by omega) (by omega)
  · have : Glob.match' p s = true := by
      rw [hI.ans]; left
      rw [dropE p k (by omega), dropE s i (by omega), Glob.toks]; simp [Glob.mm]
    rw [this]
  · have hnc : ¬ p.getD k 0 = 42 := fun e => h1 ⟨by omega, e⟩
    have hlen : (p.drop k).length = p.length - k := List.length_drop
    refine (one_any (p.drop k) (s.getD i 0) w1 (by omega) (by omega)).mono ?_
    intro e w' ⟨he, hw', ho'⟩
    have hlt : (Glob.one (p.drop k) (s.getD i 0)).2.length < (p.drop k).length := by
      rw [dropC p k (by omega)]
      have := Glob.one_lt (p.getD k 0) (p.drop (k + 1)) (s.getD i 0)
      simp only [List.length_cons]; omega
    refine ⟨by rw [ho', ho1], _, _, he, fun h5 => ⟨by omega, by omega, ?_⟩, fun h5 => fin (fun _ => hnc) (by omega) (fun _ _ => by simpa using h5) _ (by rw [hw', hw1])⟩
    rw [hw', hw1]
    have := hN' _ (i + 1) star frm (hI.one_ (by omega) hnc (by omega) h5) (by omega) (by omega)
    rw [Int.natCast_add, Int.ofNat_sub (by omega)] at this
    exact this
  · exact fin (fun h4 e => h1 ⟨by omega, e⟩) (by omega) (fun h4 h5 => absurd ⟨by omega, by omega⟩ h3) _ rfl
end Go.Proofs.Ytilgejlgmnnckaa
