import Derived.Test.YtkcjhabbgaaknaaGreatT
/- Loops whose slots change their form; a text's hash. -/
namespace Go.Proofs.YtkcjhabbgaaknaaGreat
open E
set_option maxRecDepth 100000
/-- As `looping`, the slots told by the state. -/
theorem E.loopingF {P : Program} {c : Cfg} {fn : Func} {R : Ending → World → Prop} {f : Nat} (K : FnOk P c f fn) {α : Type} (xs : α → List SV) (kn : List (NE × NE × List SV)) (ρ : α → Env) (m n : Nat) (I : α → Prop) (μ : α → Nat) (x0 : α) (h0 : I x0) (hx : ∀ x, I x → (SV.lts m (xs x) && knLts m kn && Nat.blt 0 m) = true)
    {p : List Nat} {k : List KI} {vs : List Value} {h : Heap} (hvs : vs = (xs x0).map (SV.den (ρ x0))) (hh : h = (ρ x0).h 0) {o : Os × Array (Nat × ByteArray)} (ho : ∀ x, (ρ x).o = o) (hkn : ∀ x, I x → KnIn (ρ x) ((ρ x).h 0) kn)
    (round : ∀ x, I x → ∀ N : List Value → Heap → Os × Array (Nat × ByteArray) → Prop, (∀ y, I y → μ y < μ x → N ((xs y).map (SV.den (ρ y))) ((ρ y).h 0) o) →
      (exec c n (.code (codeAt c.body p) p (.nxt c.nt (c.keepAt p) N :: k)) { σ := sigAt (c.keepAt p) (xs x), h := .v 0, m := m, kn := knOf kn, wr := [] }).den P c.body c.nt c.keepAt (bodyPost P fn R) R (ρ x)) :
    AtLoop P c fn R p k vs h o := by
  subst hvs hh
  have key : ∀ (n' : Nat) (x : α), I x → μ x < n' → ∀ (a : Act) (w : World), AgV c.nt (c.keepAt p) ((xs x).map (SV.den (ρ x))) a → w.heap = (ρ x).h 0 → outw w = o → Code.rounds P (codeAt c.body p) (denQ P c.body (bodyPost P fn R) k) n' a w := by
    intro n'
    induction n' with
    | zero => intro x _ h; omega
    | succ n' ih =>
      intro x hI hlt a w ha hw hw2
      have hx' := hx x hI
      simp only [Bool.and_eq_true] at hx'
      have hr := round x hI (fun vs h o' => ∃ y, I y ∧ μ y < μ x ∧ vs = (xs y).map (SV.den (ρ y)) ∧ h = (ρ y).h 0 ∧ o' = o) (fun y h1 h2 => ⟨y, h1, h2, rfl, rfl, rfl⟩)
      refine wp_mono (hq := ?_) (enter K.hc K.heq K.hfn K.hr K.hfo K.hpl (xs x) kn (ρ x) m n hx'.1.1 hx'.1.2 hx'.2 (hkn x hI) ha rfl hw.symm ((ho x).trans hw2.symm) hr)
      intro e a' w' q
      cases e with
      | normal =>
        obtain ⟨⟨h1, h2⟩, y, hy, hlt2, hvs, hh, ho2⟩ := q
        exact ih y hy (by omega) a' w' ⟨h1, h2, hvs⟩ hh ho2
      | exit id => exact q
      | goto l => exact q
      | ret => exact q
      | panic ch => exact q
      | outgrown => exact q
  intro a w ha hw hw2
  exact wp_loop_rounds (μ x0 + 1) (key _ x0 h0 (by omega) a w ha hw hw2)
/-- What is handed back; only new blocks. -/
abbrev RetX (v : Value) (h : Heap) (o : Os × Array (Nat × ByteArray)) : Ending → World → Prop := fun e w' => e = .returned v ∧ Ext h w'.heap ∧ outw w' = o
def hstep (h : Int) (b : UInt8) : Int := IntKind.u64.wrap (E.intBits .xor .u64 h (b.toNat : Int) * 1099511628211)
def hof (seed : Int) (s : List UInt8) : Int :=
  let h := s.foldl hstep (E.intBits .xor .u64 14695981039346656037 seed)
  let g := IntKind.u64.wrap (E.intBits .xor .u64 h (h.fdiv (2 ^ 32)) * 11400714819323198485)
  E.intBits .xor .u64 g (g.fdiv (2 ^ 29))
theorem wrap_in64 (x : Int) : inK .u64 (IntKind.u64.wrap x) := by
  rw [inK_u64]; unfold IntKind.wrap; simp [IntKind.signed, IntKind.bits]; omega
theorem bits_in (op : BinOp) (x y : Int) : inK .u64 (E.intBits op .u64 x y) := by
  unfold E.intBits
  cases op <;> exact wrap_in64 _
theorem hof_in (seed : Int) (s : List UInt8) : 0 ≤ hof seed s ∧ hof seed s < 2 ^ 64 := by
  have := bits_in .xor (IntKind.u64.wrap (E.intBits .xor .u64 (s.foldl hstep (E.intBits .xor .u64 14695981039346656037 seed)) ((s.foldl hstep (E.intBits .xor .u64 14695981039346656037 seed)).fdiv (2 ^ 32)) * 11400714819323198485)) ((IntKind.u64.wrap (E.intBits .xor .u64 (s.foldl hstep (E.intBits .xor .u64 14695981039346656037 seed)) ((s.foldl hstep (E.intBits .xor .u64 14695981039346656037 seed)).fdiv (2 ^ 32)) * 11400714819323198485)).fdiv (2 ^ 29))
  rw [inK_u64] at this
  exact ⟨this.1, by have := this.2; unfold hof; simp only; omega⟩
theorem Of_any (seed : Int) (s : List UInt8) (w : World) (hs : s.length ≤ 9223372036854775807) :
    Calls Tryz.prog 50 #[.int .u64 seed, .string (bs s)] w (RetX (.int .u64 (hof seed s)) w.heap (outw w)) := by
  refine begins (k50 { wraps := [20, 26] }) [.int .u64 (.v 0), .str (.v 0)] [] { i := fun _ => seed, s := fun _ => s, h := fun _ => w.heap, o := outw w } 1 1000 rfl rfl rfl trivial (by simp [SV.den, SE.den, IE.den]) ?_
  conv => arg 7; reduce
  simp only [VC.den, IE.den, NE.den, SE.den, SV.den, HE.den, WS.den, List.map_cons, List.map_nil, Int.cast_ofNat_Int]
  intro _
  refine looping (k50 { wraps := [20, 26] }) [.str (.v 0), .int .u64 (.v 0), .int .i64 (.ofN (.v 0)), .int .i64 (.ofN (.v 1))] []
    (fun x : Nat => { s := fun _ => s, i := fun _ => (s.take x).foldl hstep (E.intBits .xor .u64 14695981039346656037 seed), n := fun j => if j = 0 then s.length else x, h := fun _ => w.heap, o := outw w }) 3 1000
    (fun x => x ≤ s.length) (fun x => s.length - x) 0 (Nat.zero_le _) rfl (by simp [SV.den, IE.den, NE.den, SE.den]) rfl (fun _ => rfl) (fun _ _ => trivial) ?_
  intro i hi N hN
  simp only [SV.den, SE.den, NE.den, IE.den, List.map_cons, List.map_nil, reduceIte, Nat.reduceEqDiff] at hN
  conv => arg 7; reduce
  simp only [VC.den, BE.prop, IE.den, NE.den, SE.den, SV.den, HE.den, WS.den, List.map_cons, List.map_nil, Int.cast_ofNat_Int, reduceIte, Nat.reduceEqDiff, inK_i64, inK_u64]
  refine ⟨fun h1 => ?_, fun h1 _ w1 hw1 ho1 => ?_⟩
  · have hlt : i < s.length := by omega
    have hb : (s.getD i 0).toNat < 256 := UInt8.toNat_lt _
    refine ⟨h1, by omega, by omega, fun _ => ?_⟩
    have := hN (i + 1) hlt (by omega)
    rw [List.take_succ_eq_append_getElem hlt, List.foldl_append, List.foldl_cons, List.foldl_nil, hstep] at this
    have e : s.getD i 0 = s[i] := by simp [List.getD, hlt]
    rw [e]
    exact this
  · have : i = s.length := by omega
    subst this
    rw [List.take_length]
    exact ⟨rfl, by rw [hw1]; exact Ext.refl _, ho1⟩
end Go.Proofs.YtkcjhabbgaaknaaGreat
/- A table, as plain mathematics: its slots, its words' bytes, what is found in it. -/
namespace Go.Proofs.YtkcjhabbgaaknaaGreat
open E
set_option maxRecDepth 100000
/-- What stands at the numbers below n. -/
def at_ {α : Type} (f : Nat → Option α) (n : Nat) : List α := (List.range n).filterMap f
def upd {α : Type} (f : Nat → α) (j : Nat) (x : α) : Nat → α := fun i => if i = j then x else f i
theorem upd_same {α : Type} (f : Nat → α) (j : Nat) (x : α) : upd f j x j = x := by simp [upd]
theorem upd_ne {α : Type} (f : Nat → α) {j i : Nat} (x : α) (h : i ≠ j) : upd f j x i = f i := by simp [upd, h]
theorem at_congr {α : Type} {f g : Nat → Option α} {n : Nat} (h : ∀ i, i < n → f i = g i) : at_ f n = at_ g n := by
  unfold at_
  induction n with
  | zero => rfl
  | succ n ih => rw [List.range_succ, List.filterMap_append, List.filterMap_append, ih fun i hi => h i (by omega)]; simp [List.filterMap_cons, h n (by omega)]
theorem at_succ {α : Type} (f : Nat → Option α) (n : Nat) : at_ f (n + 1) = at_ f n ++ (f n).toList := by
  unfold at_
  rw [List.range_succ, List.filterMap_append]
  cases h : f n <;> simp [h]
theorem at_none {α : Type} (f : Nat → Option α) (n : Nat) (h : ∀ i, i < n → f i = none) : at_ f n = [] := by
  rw [at_congr h]; unfold at_
  induction n with
  | zero => rfl
  | succ n ih => rw [List.range_succ, List.filterMap_append, ih fun i hi => h i (by omega)]; rfl
theorem mem_at {α : Type} {f : Nat → Option α} {n : Nat} {x : α} : x ∈ at_ f n ↔ ∃ i, i < n ∧ f i = some x := by
  unfold at_; simp [List.mem_filterMap]
theorem at_split {α : Type} (f : Nat → Option α) {n j : Nat} (hj : j < n) : (at_ f n).Perm ((f j).toList ++ at_ (upd f j none) n) := by
  induction n with
  | zero => omega
  | succ n ih =>
    rw [at_succ, at_succ]
    by_cases h : j = n
    · subst h
      rw [upd_same, at_congr (f := upd f j none) (g := f) fun i hi => upd_ne f _ (by omega)]
      simp only [Option.toList_none, List.append_nil]
      exact List.perm_append_comm
    · rw [upd_ne f _ (by omega)]
      have := (ih (by omega)).append_right (f n).toList
      rw [List.append_assoc] at this
      exact this
theorem upd_upd {α : Type} (f : Nat → α) (j : Nat) (x y : α) : upd (upd f j x) j y = upd f j y := by
  funext i; unfold upd; split <;> rfl
theorem at_set {α : Type} (f : Nat → Option α) {n j : Nat} (x : Option α) (hj : j < n) : (at_ (upd f j x) n).Perm (x.toList ++ at_ (upd f j none) n) := by
  have := at_split (upd f j x) hj
  rw [upd_same, upd_upd] at this
  exact this
theorem at_len {α : Type} (f : Nat → Option α) (n : Nat) : (at_ f n).length ≤ n := by
  unfold at_
  exact Nat.le_trans (List.length_filterMap_le _ _) (by simp)
theorem at_full {α : Type} (f : Nat → Option α) (n : Nat) (h : ∀ i, i < n → f i ≠ none) : (at_ f n).length = n := by
  induction n with
  | zero => rfl
  | succ n ih =>
    rw [at_succ, List.length_append, ih fun i hi => h i (by omega)]
    cases e : f n with
    | none => exact absurd e (h n (by omega))
    | some x => rfl
def byteAt (w i : Nat) : Nat := w / 2 ^ (8 * i) % 256
theorem byte_bit (x j t : Nat) : (byteAt x j).testBit t = (decide (t < 8) && x.testBit (8 * j + t)) := by
  unfold byteAt
  rw [show (256 : Nat) = 2 ^ 8 from rfl, Nat.testBit_mod_two_pow, Nat.testBit_div_two_pow, Nat.add_comm]
theorem byte_lt (w i : Nat) : byteAt w i < 256 := Nat.mod_lt _ (by decide)
def putB (w i c : Nat) : Nat := ((BitVec.ofNat 64 w &&& ~~~ BitVec.ofNat 64 (255 * 2 ^ (8 * i))) ||| BitVec.ofNat 64 (c * 2 ^ (8 * i))).toNat
theorem putB_lt (w i c : Nat) : putB w i c < 2 ^ 64 := BitVec.isLt _
theorem bit255 (m : Nat) : Nat.testBit 255 m = decide (m < 8) := by
  rw [show (255 : Nat) = 2 ^ 8 - 1 from rfl, Nat.testBit_two_pow_sub_one]
theorem bit_small {c : Nat} (hc : c < 256) {m : Nat} (hm : ¬ m < 8) : c.testBit m = false :=
  Nat.testBit_lt_two_pow (Nat.lt_of_lt_of_le hc (show 2 ^ 8 ≤ 2 ^ m from Nat.pow_le_pow_right (by decide) (by omega)))
theorem putB_bit (w i c k : Nat) (hk : k < 64) : (putB w i c).testBit k = ((w.testBit k && !(decide (8 * i ≤ k) && decide (k - 8 * i < 8))) || (decide (8 * i ≤ k) && c.testBit (k - 8 * i))) := by
  unfold putB
  rw [← BitVec.getLsbD]
  simp only [BitVec.getLsbD_or, BitVec.getLsbD_and, BitVec.getLsbD_not, BitVec.getLsbD_ofNat, Nat.testBit_mul_two_pow, bit255, hk, decide_true, Bool.true_and]
theorem putB_byte {w i c j : Nat} (hj : j < 8) (hc : c < 256) : byteAt (putB w i c) j = if j = i then c else byteAt w j := by
  apply Nat.eq_of_testBit_eq
  intro t
  rw [byte_bit]
  by_cases ht : t < 8
  · rw [putB_bit _ _ _ _ (by omega)]
    split
    · rename_i h; subst h
      simp only [ht, decide_true, Bool.true_and, Nat.le_add_right, Nat.add_sub_cancel_left]
      simp
    · rename_i h
      rw [byte_bit]
      simp only [ht, decide_true, Bool.true_and]
      by_cases h1 : 8 * i ≤ 8 * j + t
      · have h2 : ¬ (8 * j + t - 8 * i < 8) := by omega
        simp [h2, bit_small hc h2]
      · simp [h1]
  · simp only [ht, decide_false, Bool.false_and]
    split
    · exact (bit_small hc ht).symm
    · rw [byte_bit]; simp [ht]
theorem cover (s : Nat) {n g : Nat} (hg : g < n) : ∃ t, t < n ∧ (s + t) % n = g := by
  have hs := Nat.mod_lt s (show n > 0 by omega)
  by_cases h : s % n ≤ g
  · refine ⟨g - s % n, by omega, ?_⟩
    rw [Nat.add_mod, Nat.mod_eq_of_lt (show g - s % n < n by omega), show s % n + (g - s % n) = g by omega, Nat.mod_eq_of_lt hg]
  · refine ⟨g + n - s % n, by omega, ?_⟩
    rw [Nat.add_mod, Nat.mod_eq_of_lt (show g + n - s % n < n by omega), show s % n + (g + n - s % n) = g + n by omega, Nat.add_mod_right, Nat.mod_eq_of_lt hg]
abbrev Key := List UInt8
/-- A table: its groups' words, its slots' keys and what they have. -/
structure Tb (α : Type) where
  n : Nat
  w : Nat → Nat
  k : Nat → Key
  v : Nat → α
variable {α : Type}
def Tb.by_ (T : Tb α) (j : Nat) : Nat := byteAt (T.w (j / 8)) (j % 8)
def Tb.cell (T : Tb α) (j : Nat) : Option (Key × α) := if T.by_ j < 128 then some (T.k j, T.v j) else none
def Tb.full (T : Tb α) : List (Key × α) := at_ T.cell (8 * T.n)
def hi (h : Nat) : Nat := h / 2 ^ 32 % 2 ^ 32
def sev (h : Nat) : Nat := h / 2 ^ 57
/-- No slot of the group is empty. -/
def Tb.tight (T : Tb α) (g : Nat) : Prop := ∀ i, i < 8 → T.by_ (8 * g + i) ≠ 128
structure Tb.ok (H : Key → Nat) (T : Tb α) : Prop where
  pos : 0 < T.n
  seven : ∀ j, j < 8 * T.n → T.by_ j < 128 → T.by_ j = sev (H (T.k j))
  prob : ∀ j, j < 8 * T.n → T.by_ j < 128 → ∀ t, t < T.n → (∀ u, u ≤ t → (hi (H (T.k j)) + u) % T.n ≠ j / 8) → T.tight ((hi (H (T.k j)) + t) % T.n)
  uniq : (T.full.map (·.1)).Nodup
/-- The group has the key in no slot. -/
def Tb.lacks (T : Tb α) (H : Key → Nat) (key : Key) (g : Nat) : Prop := ∀ i, i < 8 → ¬ (T.by_ (8 * g + i) = sev (H key) ∧ T.k (8 * g + i) = key)
theorem Tb.absent {H : Key → Nat} {T : Tb α} (ok : T.ok H) {key : Key} {t : Nat} (ht : t ≤ T.n) (h1 : ∀ u, u < t → T.lacks H key ((hi (H key) + u) % T.n)) (h2 : t < T.n → T.lacks H key ((hi (H key) + t) % T.n) ∧ ¬ T.tight ((hi (H key) + t) % T.n)) :
    ∀ x ∈ T.full, x.1 ≠ key := by
  rintro x hx rfl
  obtain ⟨j, hj, hc⟩ := mem_at.1 hx
  unfold Tb.cell at hc
  split at hc
  · rename_i hb
    injection hc with hc
    subst hc
    simp only at h1 h2
    have hg : j / 8 < T.n := by omega
    have hl : ∀ g, g = j / 8 → ¬ T.lacks H (T.k j) g := fun g e h => h (j % 8) (by omega) (by subst e; rw [show 8 * (j / 8) + j % 8 = j by omega]; exact ⟨ok.seven j hj hb, rfl⟩)
    by_cases hu : ∃ u, u ≤ t ∧ u < T.n ∧ (hi (H (T.k j)) + u) % T.n = j / 8
    · obtain ⟨u, hu1, hu2, e⟩ := hu
      by_cases h : u < t
      · exact hl _ e (h1 u h)
      · have : u = t := by omega
        subst this
        exact hl _ e (h2 hu2).1
    · by_cases h : t < T.n
      · exact (h2 h).2 (ok.prob j hj hb t h fun u hu' e => hu ⟨u, hu', by omega, e⟩)
      · obtain ⟨u, hu1, e⟩ := cover (hi (H (T.k j))) hg
        exact hu ⟨u, by omega, hu1, e⟩
  · cases hc
/-- A slot is filled that was free. -/
def Tb.put (T : Tb α) (j c : Nat) (key : Key) (x : α) : Tb α := { T with w := upd T.w (j / 8) (putB (T.w (j / 8)) (j % 8) c), k := upd T.k j key, v := upd T.v j x }
theorem Tb.put_by (T : Tb α) {j c : Nat} (key : Key) (x : α) (hc : c < 256) (i : Nat) : (T.put j c key x).by_ i = if i = j then c else T.by_ i := by
  unfold Tb.by_ Tb.put
  simp only
  by_cases h : i / 8 = j / 8
  · rw [h, upd_same, putB_byte (by omega) hc]
    by_cases h2 : i = j
    · subst h2; simp
    · rw [if_neg h2, if_neg (by omega)]
  · rw [upd_ne _ _ h, if_neg (by intro e; subst e; exact h rfl)]
theorem Tb.put_cell (T : Tb α) {j c : Nat} (key : Key) (x : α) (hc : c < 256) : (T.put j c key x).cell = upd T.cell j (if c < 128 then some (key, x) else none) := by
  funext i
  unfold Tb.cell upd
  rw [T.put_by key x hc]
  by_cases h : i = j
  · subst h; simp [Tb.put, upd]
  · simp only [h, if_false]; simp [Tb.put, upd, h]
theorem Tb.put_full (T : Tb α) {j c : Nat} (key : Key) (x : α) (hj : j < 8 * T.n) (hc : c < 128) (hb : 128 ≤ T.by_ j) : (T.put j c key x).full.Perm ((key, x) :: T.full) := by
  unfold Tb.full
  rw [T.put_cell key x (by omega), if_pos hc]
  have h1 := at_set T.cell (some (key, x)) hj
  have h2 := at_split T.cell hj
  have e : T.cell j = none := by unfold Tb.cell; rw [if_neg (by omega)]
  rw [e] at h2
  exact h1.trans ((List.Perm.refl [(key, x)]).append h2.symm)
theorem Tb.del_full (T : Tb α) {j c : Nat} (key : Key) (x : α) (hj : j < 8 * T.n) (hc : c < 256) (hc' : 128 ≤ c) (hb : T.by_ j < 128) : T.full.Perm ((T.k j, T.v j) :: (T.put j c key x).full) := by
  unfold Tb.full
  rw [T.put_cell key x hc, if_neg (by omega)]
  have h2 := at_split T.cell hj
  have e : T.cell j = some (T.k j, T.v j) := by unfold Tb.cell; rw [if_pos hb]
  rw [e] at h2
  exact h2
/-- What a slot has is turned. -/
def Tb.turn (T : Tb α) (j : Nat) (x : α) : Tb α := { T with v := upd T.v j x }
theorem Tb.turn_full (T : Tb α) {j : Nat} (x : α) (hj : j < 8 * T.n) (hb : T.by_ j < 128) : ∃ r, T.full.Perm ((T.k j, T.v j) :: r) ∧ (T.turn j x).full.Perm ((T.k j, x) :: r) := by
  have e : (T.turn j x).cell = upd T.cell j (some (T.k j, x)) := by
    funext i
    unfold Tb.cell upd Tb.turn Tb.by_ upd
    simp only
    by_cases h : i = j
    · subst h; simp; unfold Tb.by_ at hb; omega
    · simp [h]
  refine ⟨at_ (upd T.cell j none) (8 * T.n), ?_, ?_⟩
  · have h2 := at_split T.cell hj
    have e : T.cell j = some (T.k j, T.v j) := by unfold Tb.cell; rw [if_pos hb]
    rw [e] at h2
    exact h2
  · unfold Tb.full
    rw [e]
    exact at_set T.cell (some (T.k j, x)) hj
end Go.Proofs.YtkcjhabbgaaknaaGreat
/- Control words. -/
namespace Go.Proofs.YtkcjhabbgaaknaaGreat
open E
set_option maxRecDepth 100000
theorem fdiv_nat (a b : Nat) : Int.fdiv (a : Int) (b : Int) = ((a / b : Nat) : Int) := by
  rw [Int.fdiv_eq_ediv_of_nonneg _ (by omega)]; rfl
theorem wrap8 (n : Nat) : IntKind.u8.wrap (n : Int) = ((n % 256 : Nat) : Int) := by
  unfold IntKind.wrap; simp [IntKind.signed, IntKind.bits]
theorem wrap64 (n : Nat) : IntKind.u64.wrap (n : Int) = ((n % 18446744073709551616 : Nat) : Int) := by
  unfold IntKind.wrap; simp [IntKind.signed, IntKind.bits]
theorem ofNat64 (n : Nat) : BitVec.ofNat 64 (n % 18446744073709551616) = BitVec.ofNat 64 n := by
  apply BitVec.eq_of_toNat_eq; simp
theorem put_bits (x i c : Nat) : E.intBits .or .u64 (E.intBits .andNot .u64 (x : Int) (IntKind.u64.wrap (255 * 2 ^ (8 * i)))) (IntKind.u64.wrap ((c : Int) * 2 ^ (8 * i))) = (putB x i c : Nat) := by
  have e1 : ((255 : Int) * 2 ^ (8 * i)) = ((255 * 2 ^ (8 * i) : Nat) : Int) := by simp
  have e2 : ((c : Int) * 2 ^ (8 * i)) = ((c * 2 ^ (8 * i) : Nat) : Int) := by simp
  rw [e1, e2, wrap64, wrap64]
  unfold E.intBits
  show IntKind.u64.wrap ((BitVec.ofInt 64 (IntKind.u64.wrap ((BitVec.ofInt 64 (x : Int) &&& ~~~ BitVec.ofInt 64 ((255 * 2 ^ (8 * i) % 18446744073709551616 : Nat) : Int)).toNat : Nat)) ||| BitVec.ofInt 64 ((c * 2 ^ (8 * i) % 18446744073709551616 : Nat) : Int)).toNat : Nat) = _
  rw [wrap64, wrap64, BitVec.ofInt_natCast, BitVec.ofInt_natCast, BitVec.ofInt_natCast, BitVec.ofInt_natCast, ofNat64, ofNat64, ofNat64, BitVec.ofNat_toNat, BitVec.setWidth_eq]
  rw [Nat.mod_eq_of_lt (BitVec.isLt _)]
  rfl
theorem Seven_any (x : Nat) (hx : x < 2 ^ 64) (w : World) : Calls Tryz.prog 110 #[.int .u64 (x : Int)] w (RetX (.int .u8 (sev x : Nat)) w.heap (outw w)) := by
  refine begins (k110 {}) [.int .u64 (.ofN (.v 0))] [] { n := fun _ => x, h := fun _ => w.heap, o := outw w } 1 1000 rfl rfl rfl trivial (by simp [SV.den, IE.den, NE.den]) ?_
  conv => arg 7; reduce
  simp only [VC.den, IE.den, NE.den, SV.den, HE.den, WS.den]
  have e : IntKind.u8.wrap ((x : Int).fdiv (2 ^ 57)) = (sev x : Nat) := by
    rw [show ((2 : Int) ^ 57) = ((2 ^ 57 : Nat) : Int) from rfl, fdiv_nat, wrap8, Nat.mod_eq_of_lt (by omega)]; rfl
  rw [e]
  exact (fun hf wr hwr hor => ⟨rfl, by rw [hwr]; exact hf.none, hor⟩)
theorem New_any (w : World) : Calls Tryz.prog 103 #[] w (RetX (.int .u64 9259542123273814144) w.heap (outw w)) := by
  refine begins (k103 {}) [] [] { h := fun _ => w.heap, o := outw w } 1 1000 rfl rfl rfl trivial (by simp) ?_
  conv => arg 7; reduce
  simp only [VC.den, IE.den, SV.den, HE.den, WS.den, Int.cast_ofNat_Int]
  exact (fun hf wr hwr hor => ⟨rfl, by rw [hwr]; exact hf.none, hor⟩)
theorem is_any (i : Int) (w : World) : Calls Tryz.prog 118 #[.int .i64 i] w (RetX (.bool (decide (0 ≤ i ∧ i < 8))) w.heap (outw w)) := by
  refine begins (k118 {}) [.int .i64 (.v 0)] [] { i := fun _ => i, h := fun _ => w.heap, o := outw w } 1 1000 rfl rfl rfl trivial (by simp [SV.den, IE.den]) ?_
  conv => arg 7; reduce
  simp only [VC.den, IE.den, SV.den, HE.den, BE.den, WS.den, Int.cast_ofNat_Int]
  have e : decide (0 ≤ i ∧ i < 8) = (decide (0 ≤ i) && decide (i < 8)) := by simp
  rw [e]
  exact (fun hf wr hwr hor => ⟨rfl, by rw [hwr]; exact hf.none, hor⟩)
theorem At_any (x i : Nat) (hi : i < 8) (w : World) : Calls Tryz.prog 114 #[.int .u64 (x : Int), .int .i64 (i : Int)] w (RetX (.int .u8 (byteAt x i : Nat)) w.heap (outw w)) := by
  refine begins (k114 {}) [.int .u64 (.ofN (.v 0)), .int .i64 (.ofN (.v 1))] [] { n := fun j => if j = 0 then x else i, h := fun _ => w.heap, o := outw w } 2 1000 rfl rfl rfl trivial (by simp [SV.den, IE.den, NE.den]) ?_
  conv => arg 7; reduce
  simp only [VC.den, BE.prop, IE.den, NE.den, SV.den, HE.den, BE.den, WS.den, List.map_cons, List.map_nil, Int.cast_ofNat_Int, reduceIte, Nat.reduceEqDiff, Env.setE, Env.setH, Env.setB, inK_i64]
  intro w1 hw1 ho1
  refine (is_any (i : Int) _).mono ?_
  rintro e1 v1 ⟨rfl, hx1, hp1⟩
  rw [hw1] at hx1
  refine ⟨hp1.trans ho1, hx1, ?_⟩
  refine ⟨_, rfl, fun h => absurd (by simp; omega) h, fun _ => ⟨by omega, by omega, by omega, ?_⟩⟩
  have e : IntKind.u8.wrap ((x : Int).fdiv (2 ^ (8 * (i : Int)).toNat)) = (byteAt x i : Nat) := by
    rw [show (8 * (i : Int)).toNat = 8 * i by omega, show ((2 : Int) ^ (8 * i)) = ((2 ^ (8 * i) : Nat) : Int) by simp, fdiv_nat, wrap8]; rfl
  rw [e]
  exact (fun hf wr hwr hor => ⟨rfl, by rw [hwr]; exact hf.none, hor⟩)
theorem Set_any (x i c : Nat) (hi : i < 8) (hc : c < 256) (w : World) : Calls Tryz.prog 89 #[.int .u64 (x : Int), .int .i64 (i : Int), .int .u8 (c : Int)] w (RetX (.int .u64 (putB x i c : Nat)) w.heap (outw w)) := by
  refine begins (k89 {}) [.int .u64 (.ofN (.v 0)), .int .i64 (.ofN (.v 1)), .int .u8 (.ofN (.v 2))] [] { n := fun j => if j = 0 then x else if j = 1 then i else c, h := fun _ => w.heap, o := outw w } 3 1000 rfl rfl rfl trivial (by simp [SV.den, IE.den, NE.den]) ?_
  conv => arg 7; reduce
  simp only [VC.den, BE.prop, IE.den, NE.den, SV.den, HE.den, BE.den, WS.den, List.map_cons, List.map_nil, Int.cast_ofNat_Int, reduceIte, Nat.reduceEqDiff, Env.setE, Env.setH, Env.setB, inK_i64, inK_u64]
  intro w1 hw1 ho1
  refine (is_any (i : Int) _).mono ?_
  rintro e1 v1 ⟨rfl, hx1, hp1⟩
  rw [hw1] at hx1
  refine ⟨hp1.trans ho1, hx1, ?_⟩
  refine ⟨_, rfl, fun h => absurd (by simp; omega) h, fun _ => ?_⟩
  refine ⟨by omega, by omega, by omega, by omega, by omega, by omega, ?_⟩
  rw [show (8 * (i : Int)).toNat = 8 * i by omega, put_bits]
  exact (fun hf wr hwr hor => ⟨rfl, by rw [hwr]; exact hf.none, hor⟩)
theorem and_zero64 (x : Int) : E.intBits .and .u64 x 0 = 0 := by
  unfold E.intBits
  have h : BitVec.ofInt IntKind.u64.bits (0 : Int) = 0#64 := BitVec.ofInt_natCast 64 0
  have h2 : (BitVec.ofInt 64 x &&& 0#64) = 0#64 := BitVec.and_zero
  simp only [h]
  show IntKind.u64.wrap ((BitVec.ofInt 64 x &&& 0#64).toNat : Nat) = 0
  rw [h2]
  decide
theorem Low_any (x : Int) (w : World) : Calls Tryz.prog 81 #[.int .u64 x, .int .i64 0] w (RetX (.int .u64 0) w.heap (outw w)) := by
  refine begins (k81 {}) [.int .u64 (.v 0), .int .i64 (.c 0)] [] { i := fun _ => x, h := fun _ => w.heap, o := outw w } 1 1000 rfl rfl rfl trivial (by simp [SV.den, IE.den]) ?_
  conv => arg 7; reduce
  simp only [VC.den, BE.prop, IE.den, NE.den, SV.den, HE.den, WS.den, Int.cast_ofNat_Int]
  refine ⟨by decide, by decide, ?_⟩
  have e : IntKind.u64.wrap (IntKind.u64.wrap (1 * 2 ^ (min (max (0 : Int) 0) 16).toNat) - 1) = 0 := by decide
  rw [e, and_zero64]
  exact (fun hf wr hwr hor => ⟨rfl, by rw [hwr]; exact hf.none, hor⟩)
end Go.Proofs.YtkcjhabbgaaknaaGreat
/- The slots of a word that a function asks for: Match, Free, HasEmpty. -/
namespace Go.Proofs.YtkcjhabbgaaknaaGreat
open E
set_option maxRecDepth 100000
def ints (l : List Nat) : List Value := l.map fun (i : Nat) => Value.int .i64 (i : Int)
theorem ints_length (l : List Nat) : (ints l).length = l.length := by simp [ints]
theorem ints_snoc (l : List Nat) (i : Nat) : ints (l ++ [i]) = ints l ++ [.int .i64 (i : Int)] := by simp [ints]
theorem ints_at {h : Heap} {p : Option Addr} {l : List Nat} (H : row h p (ints l)) {i : Nat} (hi : i < l.length) : ∃ b o, p = some ⟨b, o, none⟩ ∧ get h b (o + i) = some (.int .i64 (l[i] : Nat)) := by
  rcases H with H | ⟨b, o, rfl, H⟩
  · have : l.length = 0 := by rw [← ints_length, H]; rfl
    omega
  · exact ⟨b, o, rfl, H i _ (by simp [ints, hi])⟩
/-- The slots whose byte is so. -/
def slotsOf (f : Nat → Bool) (x n : Nat) : List Nat := (List.range n).filter fun i => f (byteAt x i)
theorem slotsOf_succ (f : Nat → Bool) (x n : Nat) : slotsOf f x (n + 1) = slotsOf f x n ++ if f (byteAt x n) = true then [n] else [] := by
  unfold slotsOf; rw [List.range_succ, List.filter_append]; simp [List.filter_cons]
theorem slotsOf_len (f : Nat → Bool) (x n : Nat) : (slotsOf f x n).length ≤ n := by
  unfold slotsOf; exact Nat.le_trans (List.length_filter_le _ _) (by simp)
theorem mem_slotsOf {f : Nat → Bool} {x n i : Nat} : i ∈ slotsOf f x n ↔ i < n ∧ f (byteAt x i) = true := by simp [slotsOf]
def SlotsR (f : Nat → Bool) (x : Nat) (h : Heap) (o : Os × Array (Nat × ByteArray)) : Ending → World → Prop := fun e w' => ∃ (p : Option Addr) (cap : Nat), e = .returned (.slice p (slotsOf f x 8).length cap) ∧ row w'.heap p (ints (slotsOf f x 8)) ∧ Ext h w'.heap ∧ outw w' = o ∧ ∀ b, b < h.size → ∀ a, p = some a → a.block ≠ b
theorem slots_any (f : Nat → Bool) (x g : Nat) (cs : List Value) (w : World) (hen : enters Tryz.prog g = true)
    (hclo : ∀ (b : Nat) (w1 : World), b < 256 → Ext w.heap w1.heap → Calls Tryz.prog g (.int .u8 (b : Int) :: cs).toArray w1 (RetX (.bool (f b)) w1.heap (outw w1))) :
    Calls Tryz.prog 131 #[.int .u64 (x : Int), cloVal (some (g, cs))] w (SlotsR f x w.heap (outw w)) := by
  refine begins (k131 {}) [.int .u64 (.ofN (.v 0)), .clo 0] [] { n := fun _ => x, c := fun _ => some (g, cs), h := fun _ => w.heap, o := outw w } 1 1000 rfl rfl rfl trivial (by simp [SV.den, IE.den, NE.den]) ?_
  conv => arg 7; reduce
  simp only [VC.den, IE.den, NE.den, SV.den, HE.den, PE.den, WS.den, List.map_cons, List.map_nil, Int.cast_ofNat_Int]
  intro _
  refine looping (k131 {}) [.int .u64 (.ofN (.v 0)), .clo 0, .slice (.v 0) (.v 1) (.v 2), .int .i64 (.ofN (.v 3))] []
    (fun y : Nat × Option Addr × Nat × Heap => { n := fun j => if j = 0 then x else if j = 1 then (slotsOf f x y.1).length else if j = 2 then y.2.2.1 else y.1, p := fun _ => y.2.1, c := fun _ => some (g, cs), h := fun _ => y.2.2.2, o := outw w }) 4 1000
    (fun y => y.1 ≤ 8 ∧ Ext w.heap y.2.2.2 ∧ Own y.2.2.2 w.heap.size y.2.1 y.2.2.1 1 (ints (slotsOf f x y.1))) (fun y => 8 - y.1) (0, none, 0, w.heap) ⟨by simp, Ext.refl _, by exact Own.nil w.heap w.heap.size 1⟩ rfl (by simp [SV.den, IE.den, NE.den, PE.den, slotsOf]) rfl (fun _ => rfl) (fun _ _ => trivial) ?_
  rintro ⟨i, p, cap, h⟩ ⟨hi, hx, hown⟩ N hN
  simp only at hi hx hown
  simp only [SV.den, PE.den, NE.den, IE.den, List.map_cons, List.map_nil, reduceIte, Nat.reduceEqDiff] at hN
  conv => arg 7; reduce
  simp only [VC.den, BE.prop, IE.den, NE.den, SV.den, HE.den, PE.den, BE.den, WS.den, WI.den, List.map_cons, List.map_nil, List.cons_append, List.nil_append, Int.cast_ofNat_Int, reduceIte, Nat.reduceEqDiff, Env.setE, Env.setH, Env.setB, Env.setI, Env.setN, Env.setP, inK_i64]
  refine ⟨fun h1 => ?_, fun h1 _ w1 hw1 ho1 => ?_⟩
  · have hlt : i < 8 := by omega
    intro w1 hw1 ho1
    refine (At_any x i hlt _).mono ?_
    rintro e1 v1 ⟨rfl, hx1, hp1⟩
    rw [hw1] at hx1
    refine ⟨hp1.trans ho1, hx1, ?_⟩
    refine ⟨_, rfl, g, cs, rfl, hen, ?_⟩
    intro w2 hw2 ho2
    refine (hclo _ w2 (byte_lt x i) (by rw [hw2]; exact hx.trans hx1)).mono ?_
    rintro e2 v2 ⟨rfl, hx2, hp2⟩
    rw [hw2] at hx2
    have hX := hx1.trans hx2
    have hs := slotsOf_succ f x i
    have hl := slotsOf_len f x i
    refine ⟨hp2.trans ho2, hx2, _, rfl, fun hb => ?_, fun hb => ⟨by omega, fun _ => ?_⟩⟩
    · have o0 := hown.ext (hX.trans (ext_push v2.heap (.cells #[.int .i64 (i : Int)] 3)))
      refine ⟨(hown.ext hX).ne (Nat.le_refl _), _, o0.app (by simp [ints_length]) (by omega) (by omega), fun h' p' c' ha => ⟨by omega, fun _ => ?_⟩⟩
      have o1 := o0.next (by simp [ints_length]) (by simp) (Nat.le_trans hx.le (hX.trans (ext_push _ _)).le) ha
      have x1 := o0.keep (Nat.le_refl _) (hx.trans (hX.trans (ext_push _ _))) ha
      rw [← ints_snoc] at o1
      rw [if_pos hb] at hs
      have := hN (i + 1, p', c', h') ⟨hlt, x1, by show Own _ _ _ _ _ (ints (slotsOf f x (i + 1))); rw [hs]; exact o1⟩ (by simp only; omega)
      simp only [hs, List.length_append, List.length_cons, List.length_nil] at this
      exact this
    · rw [if_neg hb, List.append_nil] at hs
      have := hN (i + 1, p, cap, v2.heap) ⟨hlt, hx.trans hX, by show Own _ _ _ _ _ (ints (slotsOf f x (i + 1))); rw [hs]; exact hown.ext hX⟩ (by simp only; omega)
      simp only [hs] at this
      exact this
  · have : i = 8 := by omega
    subst this
    exact ⟨p, cap, rfl, by rw [hw1]; exact hown.row, by rw [hw1]; exact hx, ho1, fun b hb => hown.ne_lt hb⟩
theorem Match1_any (b c : Nat) (bl : Nat) (w : World) (hc : CellsAt w.heap bl 0 [.int .u8 (c : Int)]) :
    Calls Tryz.prog 132 #[.int .u8 (b : Int), .pointer (some ⟨bl, 0, none⟩)] w (RetX (.bool (decide (b = c))) w.heap (outw w)) := by
  refine begins (k132 {}) [.int .u8 (.ofN (.v 0)), .ptr (.at (.v 2) (.c 0))] [(.v 2, .c 0, [.int .u8 (.ofN (.v 1))])] { n := fun j => if j = 0 then b else if j = 1 then c else bl, h := fun _ => w.heap, o := outw w } 3 1000 rfl rfl rfl ⟨by simpa [NE.den, SV.den, IE.den] using hc, trivial, trivial⟩ (by simp [SV.den, IE.den, NE.den, PE.den]) ?_
  conv => arg 7; reduce
  simp only [VC.den, IE.den, NE.den, SV.den, HE.den, BE.den, WS.den, List.map_cons, List.map_nil, reduceIte, Nat.reduceEqDiff]
  have e : decide (b = c) = decide ((b : Int) = (c : Int)) := by congr 1; exact propext ⟨fun _ => by omega, fun _ => by omega⟩
  rw [e]
  exact fun _ => (fun hf wr hwr hor => ⟨rfl, by rw [hwr]; exact hf.none, hor⟩)
theorem Free1_any (b : Nat) (w : World) :
    Calls Tryz.prog 133 #[.int .u8 (b : Int)] w (RetX (.bool (decide (128 ≤ b))) w.heap (outw w)) := by
  refine begins (k133 {}) [.int .u8 (.ofN (.v 0))] [] { n := fun j => b, h := fun _ => w.heap, o := outw w } 1 1000 rfl rfl rfl trivial (by simp [SV.den, IE.den, NE.den]) ?_
  conv => arg 7; reduce
  simp only [VC.den, IE.den, NE.den, SV.den, HE.den, BE.den, WS.den, Int.cast_ofNat_Int]
  have e : decide (128 ≤ b) = decide ((128 : Int) ≤ (b : Int)) := by congr 1; exact propext ⟨fun _ => by omega, fun _ => by omega⟩
  rw [e]
  exact (fun hf wr hwr hor => ⟨rfl, by rw [hwr]; exact hf.none, hor⟩)
theorem Match_any (x c : Nat) (_hc : c < 256) (w : World) : Calls Tryz.prog 109 #[.int .u64 (x : Int), .int .u8 (c : Int)] w (SlotsR (fun b => decide (b = c)) x w.heap (outw w)) := by
  refine begins (k109 {}) [.int .u64 (.ofN (.v 0)), .int .u8 (.ofN (.v 1))] [] { n := fun j => if j = 0 then x else c, h := fun _ => w.heap, o := outw w } 2 1000 rfl rfl rfl trivial (by simp [SV.den, IE.den, NE.den]) ?_
  conv => arg 7; reduce
  simp only [VC.den, IE.den, NE.den, SV.den, HE.den, PE.den, WS.den, List.map_cons, List.map_nil, reduceIte, Nat.reduceEqDiff, Env.setE, Env.setH, Env.setN, Env.setP]
  intro hcell w1 hw1 ho1
  refine (slots_any (fun b => decide (b = c)) x 132 [.pointer (some ⟨w.heap.size, 0, none⟩)] w1 (by kernel_rfl) fun b w2 _ hx2 => ?_).mono ?_
  · rw [hw1] at hx2
    exact Match1_any b c w.heap.size w2 (hx2.cellsAt hcell)
  · rintro e1 v1 ⟨p, cap, rfl, hr, hx1, hp1, hne⟩
    rw [hw1] at hx1 hne
    exact ⟨hp1.trans ho1, hx1, p, _, cap, rfl, fun hf w2 hw2 ho2 => ⟨p, cap, rfl, by rw [hw2]; exact hr, by rw [hw2]; exact hf.none, ho2, fun b hb => hne b (by simp; omega)⟩⟩
theorem Free_any (x : Nat) (w : World) : Calls Tryz.prog 113 #[.int .u64 (x : Int)] w (SlotsR (fun b => decide (128 ≤ b)) x w.heap (outw w)) := by
  refine begins (k113 {}) [.int .u64 (.ofN (.v 0))] [] { n := fun j => x, h := fun _ => w.heap, o := outw w } 1 1000 rfl rfl rfl trivial (by simp [SV.den, IE.den, NE.den]) ?_
  conv => arg 7; reduce
  simp only [VC.den, IE.den, NE.den, SV.den, HE.den, PE.den, WS.den, List.map_cons, List.map_nil, reduceIte, Nat.reduceEqDiff, Env.setE, Env.setH, Env.setN, Env.setP]
  intro w1 hw1 ho1
  refine (slots_any (fun b => decide (128 ≤ b)) x 133 [] w1 (by kernel_rfl) fun b w2 _ _ => Free1_any b w2).mono ?_
  rintro e1 v1 ⟨p, cap, rfl, hr, hx1, hp1, hne⟩
  rw [hw1] at hx1 hne
  exact ⟨hp1.trans ho1, hx1, p, _, cap, rfl, fun hf w2 hw2 ho2 => ⟨p, cap, rfl, by rw [hw2]; exact hr, by rw [hw2]; exact hf.none, ho2, hne⟩⟩
def hasE (x : Nat) : Bool := decide (0 < (slotsOf (fun b => decide (b = 128)) x 8).length)
theorem hasE_iff (x : Nat) : hasE x = true ↔ ∃ i, i < 8 ∧ byteAt x i = 128 := by
  unfold hasE
  rw [decide_eq_true_eq, List.length_pos_iff_exists_mem]
  simp [mem_slotsOf]
theorem HasEmpty_any (x : Nat) (w : World) : Calls Tryz.prog 88 #[.int .u64 (x : Int)] w (RetX (.bool (hasE x)) w.heap (outw w)) := by
  refine begins (k88 {}) [.int .u64 (.ofN (.v 0))] [] { n := fun j => x, h := fun _ => w.heap, o := outw w } 1 1000 rfl rfl rfl trivial (by simp [SV.den, IE.den, NE.den]) ?_
  conv => arg 7; reduce
  simp only [VC.den, IE.den, NE.den, SV.den, HE.den, PE.den, BE.den, WS.den, List.map_cons, List.map_nil, Int.cast_ofNat_Int, reduceIte, Nat.reduceEqDiff, Env.setE, Env.setH, Env.setN, Env.setP]
  intro w1 hw1 ho1
  refine (Match_any x 128 (by decide) w1).mono ?_
  rintro e1 v1 ⟨p, cap, rfl, hr, hx1, hp1, _⟩
  rw [hw1] at hx1
  refine ⟨hp1.trans ho1, hx1, p, _, cap, rfl, fun hf w2 hw2 ho2 => ⟨?_, by rw [hw2]; exact hf.none, ho2⟩⟩
  have e : decide ((0 : Int) < ((slotsOf (fun b => decide (b = 128)) x 8).length : Nat)) = hasE x := by
    unfold hasE; congr 1; exact propext ⟨fun _ => by omega, fun _ => by omega⟩
  rw [e]
end Go.Proofs.YtkcjhabbgaaknaaGreat
/- Tables as they lie in memory. -/
namespace Go.Proofs.YtkcjhabbgaaknaaGreat
open E
set_option maxRecDepth 100000
namespace E
theorem CellsAt.at0 {h : Heap} {b j : Nat} {vs : List Value} {v : Value} (H : CellsAt h b 0 vs) (hj : vs[j]? = some v) : E.get h b j = some v := by have := H.get hj; rwa [Nat.zero_add] at this
theorem CellsAt.wr0 {h : Heap} {b j : Nat} {vs : List Value} (H : CellsAt h b 0 vs) (hj : j < vs.length) : (E.get h b j).isSome = true ∧ E.frz h b j = false := by have := H.wr hj; rwa [Nat.zero_add] at this
theorem CellsAt.set0 {h : Heap} {b : Nat} {vs : List Value} (H : CellsAt h b 0 vs) (j : Nat) (v : Value) : CellsAt (setc h b j v) b 0 (vs.set j v) := by have := H.set j v; rwa [Nat.zero_add] at this
end E
theorem get_lt {h : Heap} {b o : Nat} {v : Value} (hg : get h b o = some v) : b < h.size := by
  rcases Nat.lt_or_ge b h.size with e | e
  · exact e
  · unfold E.get at hg; rw [Array.getElem?_eq_none e] at hg; cases hg
theorem get_same {h h' : Heap} {b : Nat} (e : h'[b]? = h[b]?) (o : Nat) : get h' b o = get h b o := by unfold E.get; rw [e]
theorem frz_same {h h' : Heap} {b : Nat} (e : h'[b]? = h[b]?) (o : Nat) : frz h' b o = frz h b o := by unfold E.frz; rw [e]
theorem CellsAt.same {h h' : Heap} {b o : Nat} {vs : List Value} (H : CellsAt h b o vs) (hs : h.size ≤ h'.size) (e : h'[b]? = h[b]?) : CellsAt h' b o vs :=
  ⟨Nat.lt_of_lt_of_le H.1 hs, fun j v hj => by rw [get_same e, frz_same e]; exact H.2 j v hj⟩
theorem E.Frame.cellsAt {F : Nat → Prop} {h h' : Heap} (a : E.Frame F h h') {b o : Nat} {vs : List Value} (H : CellsAt h b o vs) (hb : ¬ F b) : CellsAt h' b o vs :=
  CellsAt.same H a.le (a.old b H.1 hb)
theorem get_ne {h : Heap} {b b' o o' : Nat} {v : Value} (hb : b ≠ b') : get (setc h b o v) b' o' = get h b' o' := by
  rw [get_setc, if_neg (fun e => hb e.1)]
theorem get_off {h : Heap} {b b' o o' : Nat} {v : Value} (hb : o ≠ o') : get (setc h b o v) b' o' = get h b' o' := by
  rw [get_setc, if_neg (fun e => hb e.2.1)]
theorem get_set {h : Heap} {b o : Nat} {v u : Value} (hg : get h b o = some u) : get (setc h b o v) b o = some v := by
  rw [get_setc, if_pos ⟨rfl, rfl, by rw [hg]; rfl⟩]
theorem row_ne {h : Heap} {p : Option Addr} {vs : List Value} (H : row h p vs) {b o : Nat} {v : Value} (hb : ∀ a, p = some a → a.block ≠ b) : row (setc h b o v) p vs := by
  rcases H with H | ⟨b', o', rfl, H⟩
  · exact .inl H
  · exact .inr ⟨b', o', rfl, fun j u hj => by rw [get_ne (fun e => hb _ rfl e.symm)]; exact H j u hj⟩
theorem Tb.by_at {α : Type} (T : Tb α) (g : Nat) {i : Nat} (hi : i < 8) : T.by_ (8 * g + i) = byteAt (T.w g) i := by
  unfold Tb.by_; rw [show (8 * g + i) / 8 = g by omega, show (8 * g + i) % 8 = i by omega]
theorem tight_iff {α : Type} (T : Tb α) (g : Nat) : T.tight g ↔ ¬ hasE (T.w g) = true := by
  rw [hasE_iff]
  unfold Tb.tight
  exact ⟨fun h ⟨i, hi, e⟩ => h i hi (by rw [T.by_at g hi]; exact e), fun h i hi e => h ⟨i, hi, by rw [← T.by_at g hi]; exact e⟩⟩
/-- The groups of a table. -/
structure GrpAt {α : Type} (vc : α → Value) (h : Heap) (gb : Nat) (T : Tb α) : Prop where
  w : ∀ g, g < T.n → get h gb (g * 17) = some (.int .u64 (T.w g : Nat))
  k : ∀ g i, g < T.n → i < 8 → get h gb (g * 17 + 1 + i * 2) = some (.string (bs (T.k (8 * g + i))))
  v : ∀ g i, g < T.n → i < 8 → get h gb (g * 17 + 1 + i * 2 + 1) = some (vc (T.v (8 * g + i)))
  z : ∀ o, o < T.n * 17 → frz h gb o = false
section
variable {α : Type} {vc : α → Value} {h h' : Heap} {gb : Nat} {T : Tb α}
theorem GrpAt.same (H : GrpAt vc h gb T) (e : h'[gb]? = h[gb]?) : GrpAt vc h' gb T :=
  ⟨fun g hg => by rw [get_same e]; exact H.w g hg, fun g i hg hi => by rw [get_same e]; exact H.k g i hg hi, fun g i hg hi => by rw [get_same e]; exact H.v g i hg hi, fun o ho => by rw [frz_same e]; exact H.z o ho⟩
theorem GrpAt.ext (H : GrpAt vc h gb T) (hx : Ext h h') (hb : gb < h.size) : GrpAt vc h' gb T := H.same (hx.old gb hb)
theorem GrpAt.frame {F : Nat → Prop} (H : GrpAt vc h gb T) (hx : E.Frame F h h') (hb : gb < h.size) (hF : ¬ F gb) : GrpAt vc h' gb T := H.same (hx.old gb hb hF)
theorem GrpAt.ne (H : GrpAt vc h gb T) {b o : Nat} {x : Value} (hb : b ≠ gb) : GrpAt vc (setc h b o x) gb T :=
  ⟨fun g hg => by rw [get_ne hb]; exact H.w g hg, fun g i hg hi => by rw [get_ne hb]; exact H.k g i hg hi, fun g i hg hi => by rw [get_ne hb]; exact H.v g i hg hi, fun o ho => by rw [frz_setc]; exact H.z o ho⟩
theorem GrpAt.setW (H : GrpAt vc h gb T) {g : Nat} (hg : g < T.n) (x : Nat) : GrpAt vc (setc h gb (g * 17) (.int .u64 (x : Int))) gb { T with w := upd T.w g x } := by
  refine ⟨fun g' hg' => ?_, fun g' i hg' hi => ?_, fun g' i hg' hi => ?_, fun o ho => by rw [frz_setc]; exact H.z o ho⟩
  · by_cases e : g' = g
    · subst e; rw [get_set (H.w _ hg)]; simp [upd_same]
    · rw [get_off (by omega)]; simp only [upd_ne _ _ e]; exact H.w g' hg'
  · rw [get_off (by omega)]; exact H.k g' i hg' hi
  · rw [get_off (by omega)]; exact H.v g' i hg' hi
theorem GrpAt.setK (H : GrpAt vc h gb T) {g i : Nat} (hg : g < T.n) (hi : i < 8) (x : Key) : GrpAt vc (setc h gb (g * 17 + 1 + i * 2) (.string (bs x))) gb { T with k := upd T.k (8 * g + i) x } := by
  refine ⟨fun g' hg' => ?_, fun g' i' hg' hi' => ?_, fun g' i' hg' hi' => ?_, fun o ho => by rw [frz_setc]; exact H.z o ho⟩
  · rw [get_off (by omega)]; exact H.w g' hg'
  · by_cases e : g' = g ∧ i' = i
    · obtain ⟨rfl, rfl⟩ := e; rw [get_set (H.k _ _ hg hi)]; simp [upd_same]
    · rw [get_off (by omega)]; simp only [upd_ne _ _ (show 8 * g' + i' ≠ 8 * g + i by omega)]; exact H.k g' i' hg' hi'
  · rw [get_off (by omega)]; exact H.v g' i' hg' hi'
theorem GrpAt.setV (H : GrpAt vc h gb T) {g i : Nat} (hg : g < T.n) (hi : i < 8) (x : α) : GrpAt vc (setc h gb (g * 17 + 1 + i * 2 + 1) (vc x)) gb { T with v := upd T.v (8 * g + i) x } := by
  refine ⟨fun g' hg' => ?_, fun g' i' hg' hi' => ?_, fun g' i' hg' hi' => ?_, fun o ho => by rw [frz_setc]; exact H.z o ho⟩
  · rw [get_off (by omega)]; exact H.w g' hg'
  · rw [get_off (by omega)]; exact H.k g' i' hg' hi'
  · by_cases e : g' = g ∧ i' = i
    · obtain ⟨rfl, rfl⟩ := e; rw [get_set (H.v _ _ hg hi)]; simp [upd_same]
    · rw [get_off (by omega)]; simp only [upd_ne _ _ (show 8 * g' + i' ≠ 8 * g + i by omega)]; exact H.v g' i' hg' hi'
end
def Tb.dels {α : Type} (T : Tb α) : Nat := (at_ (fun j => if T.by_ j = 254 then some () else none) (8 * T.n)).length
/-- The hash of a key, under a seed. -/
def hk (seed : Int) (key : Key) : Nat := (hof seed key).toNat
theorem hk_lt (seed : Int) (key : Key) : hk seed key < 2 ^ 64 := by
  have := hof_in seed key
  unfold hk; omega
theorem hk_cast (seed : Int) (key : Key) : hof seed key = (hk seed key : Nat) := by
  have := hof_in seed key
  unfold hk; omega
theorem sev_lt {x : Nat} (h : x < 2 ^ 64) : sev x < 128 := by unfold sev; omega
theorem hi_lt (x : Nat) : hi x < 2 ^ 32 := Nat.mod_lt _ (by decide)
theorem hi_val (x : Nat) (hx : x < 2 ^ 64) : IntKind.i64.wrap (E.intBits .and .u64 ((x : Int).fdiv (2 ^ 32)) 4294967295) = (hi x : Nat) := by
  have e : E.intBits .and .u64 ((x : Int).fdiv (2 ^ 32)) 4294967295 = (hi x : Nat) := by
    have e1 : ((2 : Int) ^ 32) = ((2 ^ 32 : Nat) : Int) := rfl
    rw [e1, fdiv_nat]
    unfold E.intBits
    have h1 : (BitVec.ofInt IntKind.u64.bits ((x / 2 ^ 32 : Nat) : Int)) = BitVec.ofNat 64 (x / 2 ^ 32) := BitVec.ofInt_natCast _ _
    have h2 : (BitVec.ofInt IntKind.u64.bits (4294967295 : Int)) = BitVec.ofNat 64 4294967295 := BitVec.ofInt_natCast 64 4294967295
    have h3 : (BitVec.ofNat 64 (x / 2 ^ 32) &&& BitVec.ofNat 64 4294967295).toNat = hi x := by
      rw [BitVec.toNat_and, BitVec.toNat_ofNat, BitVec.toNat_ofNat, Nat.mod_eq_of_lt (show x / 2 ^ 32 < 2 ^ 64 by omega)]
      exact Nat.and_two_pow_sub_one_eq_mod _ 32
    have h4 : (IntKind.u64.wrap ((BitVec.ofNat 64 (x / 2 ^ 32) &&& BitVec.ofNat 64 4294967295).toNat : Nat)) = (hi x : Nat) := by
      have := hi_lt x
      rw [h3, wrap64, Nat.mod_eq_of_lt (by omega)]
    simp only [h1, h2]
    exact h4
  rw [e]
  have := hi_lt x
  exact wrap_of_in (by show inK .i64 _; rw [inK_i64]; omega)
theorem tmod_nat (a b : Nat) : Int.tmod (a : Int) (b : Int) = ((a % b : Nat) : Int) := by rw [Int.tmod_eq_emod_of_nonneg (by omega)]; rfl
/-- A table. -/
structure TabAt {α : Type} (vc : α → Value) (h : Heap) (tb gb : Nat) (seed : Int) (T : Tb α) : Prop where
  hd : CellsAt h tb 0 [.int .u64 seed, .slice (some ⟨gb, 0, none⟩) T.n T.n, .int .i64 (T.full.length : Nat), .int .i64 (T.dels : Nat)]
  gr : GrpAt vc h gb T
  ne : tb ≠ gb
  ok : T.ok (hk seed)
  few : T.n ≤ 30
  kl : ∀ x ∈ T.full, x.1.length ≤ 9223372036854775807
section
variable {α : Type} {vc : α → Value} {h h' : Heap} {tb gb : Nat} {seed : Int} {T : Tb α}
theorem TabAt.gl (H : TabAt vc h tb gb seed T) : gb < h.size := get_lt (H.gr.w 0 H.ok.pos)
theorem TabAt.tl (H : TabAt vc h tb gb seed T) : tb < h.size := H.hd.1
theorem TabAt.same (H : TabAt vc h tb gb seed T) (hs : h.size ≤ h'.size) (e1 : h'[tb]? = h[tb]?) (e2 : h'[gb]? = h[gb]?) : TabAt vc h' tb gb seed T :=
  ⟨CellsAt.same H.hd hs e1, H.gr.same e2, H.ne, H.ok, H.few, H.kl⟩
theorem TabAt.ext (H : TabAt vc h tb gb seed T) (hx : Ext h h') : TabAt vc h' tb gb seed T := H.same hx.le (hx.old _ H.tl) (hx.old _ H.gl)
theorem TabAt.frame {F : Nat → Prop} (H : TabAt vc h tb gb seed T) (hx : E.Frame F h h') (h1 : ¬ F tb) (h2 : ¬ F gb) : TabAt vc h' tb gb seed T := H.same hx.le (hx.old _ H.tl h1) (hx.old _ H.gl h2)
end
end Go.Proofs.YtkcjhabbgaaknaaGreat
/- A table that is put to, or taken from, is one still. -/
namespace Go.Proofs.YtkcjhabbgaaknaaGreat
open E
set_option maxRecDepth 100000
section
variable {α : Type} {H : Key → Nat} {T : Tb α}
theorem Tb.put_keys (T : Tb α) {j c : Nat} (key : Key) (x : α) {i : Nat} (h : i ≠ j) : (T.put j c key x).k i = T.k i := by simp [Tb.put, upd, h]
theorem Tb.put_key (T : Tb α) {j c : Nat} (key : Key) (x : α) : (T.put j c key x).k j = key := by simp [Tb.put, upd]
theorem Tb.put_n (T : Tb α) {j c : Nat} (key : Key) (x : α) : (T.put j c key x).n = T.n := rfl
theorem Tb.free (h : T.full.length < 8 * T.n) : ∃ j, j < 8 * T.n ∧ 128 ≤ T.by_ j := by
  apply Classical.byContradiction
  intro hn
  have : T.full.length = 8 * T.n := at_full _ _ fun i hi e => hn ⟨i, hi, by
    unfold Tb.cell at e
    split at e
    · cases e
    · omega⟩
  omega
theorem Tb.put_ok (ok : T.ok H) {j c : Nat} (key : Key) (v : α) (hj : j < 8 * T.n) (hb : 128 ≤ T.by_ j) (hno : ∀ x ∈ T.full, x.1 ≠ key) (hc : c = sev (H key)) (hc' : c < 128)
    (hp : ∀ t, t < T.n → (∀ u, u ≤ t → (hi (H key) + u) % T.n ≠ j / 8) → T.tight ((hi (H key) + t) % T.n)) : (T.put j c key v).ok H := by
  have ht : ∀ g, T.tight g → (T.put j c key v).tight g := fun g h i hi => by
    rw [T.put_by key v (by omega)]
    split
    · omega
    · exact h i hi
  refine ⟨ok.pos, fun i hi hb' => ?_, fun i hi hb' t ht' hu => ?_, ?_⟩
  · rw [T.put_by key v (by omega)] at hb' ⊢
    by_cases e : i = j
    · subst e; rw [if_pos rfl, T.put_key]; exact hc
    · rw [if_neg e] at hb' ⊢; rw [T.put_keys key v e]; exact ok.seven i hi hb'
  · rw [T.put_by key v (by omega)] at hb'
    by_cases e : i = j
    · subst e
      rw [T.put_key] at hu ⊢
      exact ht _ (hp t ht' hu)
    · rw [if_neg e] at hb'; rw [T.put_keys key v e] at hu ⊢
      exact ht _ (ok.prob i hi hb' t ht' hu)
  · have hp := (T.put_full key v hj hc' hb).map (·.1)
    rw [hp.nodup_iff, List.map_cons, List.nodup_cons]
    refine ⟨fun h => ?_, ok.uniq⟩
    obtain ⟨x, hx, e⟩ := List.mem_map.1 h
    exact hno x hx e
theorem Tb.del_ok (ok : T.ok H) {j c : Nat} (key : Key) (v : α) (hj : j < 8 * T.n) (hb : T.by_ j < 128) (hc : c = 254 ∨ c = 128 ∧ ¬ T.tight (j / 8)) : (T.put j c key v).ok H := by
  have hc1 : c < 256 ∧ 128 ≤ c := by rcases hc with h | h <;> omega
  have ht : ∀ g, T.tight g → (T.put j c key v).tight g := fun g h i hi => by
    rw [T.put_by key v hc1.1]
    split
    · rename_i e
      rcases hc with h' | ⟨_, h'⟩
      · omega
      · exact absurd (by rw [show j / 8 = g by omega]; exact h) h'
    · exact h i hi
  refine ⟨ok.pos, fun i hi hb' => ?_, fun i hi hb' t ht' hu => ?_, ?_⟩
  · rw [T.put_by key v hc1.1] at hb' ⊢
    by_cases e : i = j
    · rw [if_pos e] at hb'; omega
    · rw [if_neg e] at hb' ⊢; rw [T.put_keys key v e]; exact ok.seven i hi hb'
  · rw [T.put_by key v hc1.1] at hb'
    by_cases e : i = j
    · rw [if_pos e] at hb'; omega
    · rw [if_neg e] at hb'; rw [T.put_keys key v e] at hu ⊢
      exact ht _ (ok.prob i hi hb' t ht' hu)
  · have hp := (T.del_full key v hj hc1.1 hc1.2 hb).map (·.1)
    have := ok.uniq
    rw [hp.nodup_iff, List.map_cons, List.nodup_cons] at this
    exact this.2
theorem Tb.put_dels (T : Tb α) {j c : Nat} (key : Key) (v : α) (hj : j < 8 * T.n) (hc : c < 256) : ((T.put j c key v).dels : Int) = T.dels - (if T.by_ j = 254 then 1 else 0) + (if c = 254 then 1 else 0) := by
  unfold Tb.dels
  rw [T.put_n]
  have e : (fun i => if (T.put j c key v).by_ i = 254 then some () else none) = upd (fun i => if T.by_ i = 254 then some () else none) j (if c = 254 then some () else none) := by
    funext i
    rw [T.put_by key v hc]
    unfold upd
    by_cases h : i = j
    · simp [h]
    · simp [h]
  rw [e]
  have h1 := (at_set (fun i => if T.by_ i = 254 then some () else none) (if c = 254 then some () else none) hj).length_eq
  have h2 := (at_split (fun i => if T.by_ i = 254 then some () else none) hj).length_eq
  rw [h1, h2, List.length_append, List.length_append]
  split <;> split <;> simp <;> omega
theorem Tb.dels_le (T : Tb α) : T.dels ≤ 8 * T.n := at_len _ _
theorem Tb.full_le (T : Tb α) : T.full.length ≤ 8 * T.n := at_len _ _
theorem Tb.turn_ok (ok : T.ok H) {j : Nat} (x : α) (hj : j < 8 * T.n) (hb : T.by_ j < 128) : (T.turn j x).ok H := by
  refine ⟨ok.pos, ok.seven, ok.prob, ?_⟩
  obtain ⟨r, h1, h2⟩ := T.turn_full x hj hb
  have := ok.uniq
  rw [(h1.map (·.1)).nodup_iff] at this
  rw [(h2.map (·.1)).nodup_iff]
  exact this
theorem at_prefix {β : Type} (f : Nat → Option β) {m n : Nat} (h : m ≤ n) : ∃ r, at_ f n = at_ f m ++ r := by
  induction n with
  | zero => obtain rfl : m = 0 := by omega
            exact ⟨[], by simp⟩
  | succ n ih =>
    by_cases e : m = n + 1
    · subst e; exact ⟨[], by simp⟩
    · obtain ⟨r, hr⟩ := ih (by omega)
      exact ⟨r ++ (f n).toList, by rw [at_succ, hr, List.append_assoc]⟩
theorem Tb.cell_some (T : Tb α) {j : Nat} (hb : T.by_ j < 128) : T.cell j = some (T.k j, T.v j) := by unfold Tb.cell; rw [if_pos hb]
theorem Tb.cell_none (T : Tb α) {j : Nat} (hb : ¬ T.by_ j < 128) : T.cell j = none := by unfold Tb.cell; rw [if_neg hb]
theorem each_skip (To : Tb α) {T1 : Tb α} {m : Nat} (hb : ¬ To.by_ m < 128) (hp : T1.full.Perm (at_ To.cell m)) : T1.full.Perm (at_ To.cell (m + 1)) := by
  rw [at_succ, To.cell_none hb]; simpa using hp
theorem each_step (To : Tb α) {T1 : Tb α} {m N : Nat} (hm : m < 8 * To.n) (hu : (To.full.map (·.1)).Nodup) (hkl : ∀ x ∈ To.full, x.1.length ≤ 9223372036854775807) (hroom : To.full.length < N) (hb : To.by_ m < 128) (hp : T1.full.Perm (at_ To.cell m)) :
    (∀ x ∈ T1.full, x.1 ≠ To.k m) ∧ (To.k m).length ≤ 9223372036854775807 ∧ T1.full.length < N ∧ ∀ l : List (Key × α), l.Perm ((To.k m, To.v m) :: T1.full) → l.Perm (at_ To.cell (m + 1)) := by
  have e : at_ To.cell (m + 1) = at_ To.cell m ++ [(To.k m, To.v m)] := by rw [at_succ, To.cell_some hb]; rfl
  obtain ⟨r, hr⟩ := at_prefix To.cell (show m + 1 ≤ 8 * To.n by omega)
  have hr' : To.full = at_ To.cell m ++ [(To.k m, To.v m)] ++ r := by rw [← e]; exact hr
  have hmem : (To.k m, To.v m) ∈ To.full := by rw [hr']; simp
  refine ⟨fun x hx ex => ?_, hkl _ hmem, ?_, fun l hl => ?_⟩
  · rw [hr', List.map_append, List.map_append] at hu
    have h1 := (List.nodup_append.1 hu).1
    have h2 := (List.nodup_append.1 h1).2.2 x.1 (List.mem_map_of_mem (hp.subset hx)) (To.k m) (by simp)
    exact h2 ex
  · have := hp.length_eq
    have h3 := congrArg List.length hr'
    simp only [List.length_append, List.length_cons, List.length_nil] at h3
    omega
  · rw [e]
    have h1 : ((To.k m, To.v m) :: T1.full).Perm (T1.full ++ [(To.k m, To.v m)]) := List.perm_append_comm (l₁ := [(To.k m, To.v m)])
    exact hl.trans (h1.trans (hp.append_right _))
theorem allE_byte {i : Nat} (hi : i < 8) : byteAt 9259542123273814144 i = 128 := by
  obtain rfl | rfl | rfl | rfl | rfl | rfl | rfl | rfl : i = 0 ∨ i = 1 ∨ i = 2 ∨ i = 3 ∨ i = 4 ∨ i = 5 ∨ i = 6 ∨ i = 7 := by omega
  all_goals decide
/-- A table of so many empty groups. -/
def Tb.new (n : Nat) (z : α) : Tb α := ⟨n, fun _ => 9259542123273814144, fun _ => [], fun _ => z⟩
theorem Tb.new_by (n : Nat) (z : α) (j : Nat) : (Tb.new n z).by_ j = 128 := allE_byte (by omega)
theorem Tb.new_full (n : Nat) (z : α) : (Tb.new n z).full = [] := at_none _ _ fun i _ => Tb.cell_none _ (by rw [Tb.new_by]; omega)
theorem Tb.new_dels (n : Nat) (z : α) : (Tb.new n z).dels = 0 := by
  unfold Tb.dels
  rw [at_none _ _ fun i _ => by rw [if_neg (by rw [Tb.new_by]; omega)]]; rfl
theorem Tb.new_ok (n : Nat) (z : α) (hn : 0 < n) : (Tb.new n z).ok H :=
  ⟨hn, fun j _ hb => by rw [Tb.new_by] at hb; omega, fun j _ hb => by rw [Tb.new_by] at hb; omega, by rw [Tb.new_full]; exact List.nodup_nil⟩
end
end Go.Proofs.YtkcjhabbgaaknaaGreat
/- A list of keys and what they have: put to, taken from. -/
namespace Go.Proofs.YtkcjhabbgaaknaaGreat
open E
set_option maxRecDepth 100000
section
variable {α : Type}
def rm (l : List (Key × α)) (key : Key) : List (Key × α) := l.filter fun x => decide (x.1 ≠ key)
def pt (l : List (Key × α)) (key : Key) (v : α) : List (Key × α) := (key, v) :: rm l key
def hasK (l : List (Key × α)) (key : Key) : Bool := l.any fun x => decide (x.1 = key)
theorem mem_rm {l : List (Key × α)} {key : Key} {x : Key × α} : x ∈ rm l key ↔ x ∈ l ∧ x.1 ≠ key := by simp [rm]
theorem rm_none {l : List (Key × α)} {key : Key} (h : ∀ x ∈ l, x.1 ≠ key) : rm l key = l := List.filter_eq_self.2 fun x hx => by simpa using h x hx
theorem nodup_rm {l : List (Key × α)} (key : Key) (h : (l.map (·.1)).Nodup) : ((rm l key).map (·.1)).Nodup := h.sublist ((List.filter_sublist).map _)
theorem nodup_pt {l : List (Key × α)} (key : Key) (v : α) (h : (l.map (·.1)).Nodup) : ((pt l key v).map (·.1)).Nodup := by
  unfold pt
  rw [List.map_cons, List.nodup_cons]
  refine ⟨fun hm => ?_, nodup_rm key h⟩
  obtain ⟨x, hx, e⟩ := List.mem_map.1 hm
  exact (mem_rm.1 hx).2 e
theorem rm_cons {r : List (Key × α)} {key : Key} {u : α} (h : (((key, u) :: r).map (·.1)).Nodup) : rm ((key, u) :: r) key = r := by
  rw [List.map_cons, List.nodup_cons] at h
  have e : rm ((key, u) :: r) key = rm r key := by simp [rm]
  rw [e]
  exact rm_none fun x hx e => h.1 (List.mem_map.2 ⟨x, hx, e⟩)
theorem rm_perm {l l' : List (Key × α)} (key : Key) (h : l.Perm l') : (rm l key).Perm (rm l' key) := h.filter _
theorem put_pt {l l' : List (Key × α)} {key : Key} {v : α} (hu : (l.map (·.1)).Nodup) (H : (∃ u r, l.Perm ((key, u) :: r) ∧ l'.Perm ((key, v) :: r)) ∨ ((∀ x ∈ l, x.1 ≠ key) ∧ l'.Perm ((key, v) :: l))) : l'.Perm (pt l key v) := by
  rcases H with ⟨u, r, a, b⟩ | ⟨a, b⟩
  · have h1 := rm_perm key a
    rw [rm_cons (by rw [← (a.map (·.1)).nodup_iff]; exact hu)] at h1
    exact b.trans (h1.symm.cons _)
  · unfold pt; rw [rm_none a]; exact b
theorem del_rm {l l' : List (Key × α)} {key : Key} {u : α} (hu : (l.map (·.1)).Nodup) (a : l.Perm ((key, u) :: l')) : l'.Perm (rm l key) := by
  have h1 := rm_perm key a
  rw [rm_cons (by rw [← (a.map (·.1)).nodup_iff]; exact hu)] at h1
  exact h1.symm
theorem len_nodup {l K : List Key} (hu : l.Nodup) (h : ∀ x ∈ l, x ∈ K) : l.length ≤ K.length := by
  induction l generalizing K with
  | nil => simp
  | cons a l ih =>
    rw [List.nodup_cons] at hu
    have ha := h a List.mem_cons_self
    have := ih (K := K.erase a) hu.2 fun x hx => by
      rw [List.mem_erase_of_ne (show x ≠ a from fun e => hu.1 (by rw [← e]; exact hx))]
      exact h x (List.mem_cons_of_mem _ hx)
    rw [List.length_erase_of_mem ha] at this
    have := List.length_pos_of_mem ha
    simp only [List.length_cons]
    omega
theorem len_keys {l : List (Key × α)} {K : List Key} (hu : (l.map (·.1)).Nodup) (h : ∀ x ∈ l, x.1 ∈ K) : l.length ≤ K.length := by
  have := len_nodup hu (K := K) fun x hx => by
    obtain ⟨y, hy, rfl⟩ := List.mem_map.1 hx
    exact h y hy
  simpa using this
theorem uniq_val {l : List (Key × α)} (hu : (l.map (·.1)).Nodup) {key : Key} {u v : α} (h1 : (key, u) ∈ l) (h2 : (key, v) ∈ l) : u = v := by
  induction l with
  | nil => cases h1
  | cons a l ih =>
    rw [List.map_cons, List.nodup_cons] at hu
    rcases List.mem_cons.1 h1 with e1 | h1
    · rcases List.mem_cons.1 h2 with e2 | h2
      · have := e1.trans e2.symm; injection this
      · exact absurd (List.mem_map.2 ⟨_, h2, by rw [← e1]⟩) hu.1
    · rcases List.mem_cons.1 h2 with e2 | h2
      · exact absurd (List.mem_map.2 ⟨_, h1, by rw [← e2]⟩) hu.1
      · exact ih hu.2 h1 h2
end
end Go.Proofs.YtkcjhabbgaaknaaGreat
/- Lowest bits, bits read the other way round, cursors. -/
namespace Go.Proofs.YtkcjhabbgaaknaaGreat
open E
set_option maxRecDepth 100000
theorem bits_nat (op : BinOp) (x y : Nat) : E.intBits op .u64 (x : Int) (y : Int) = (match op with | .and => (((BitVec.ofNat 64 x &&& BitVec.ofNat 64 y).toNat : Nat) : Int) | .or => (((BitVec.ofNat 64 x ||| BitVec.ofNat 64 y).toNat : Nat) : Int) | .xor => (((BitVec.ofNat 64 x ^^^ BitVec.ofNat 64 y).toNat : Nat) : Int) | _ => (((BitVec.ofNat 64 x &&& ~~~BitVec.ofNat 64 y).toNat : Nat) : Int)) := by
  have h1 : BitVec.ofInt IntKind.u64.bits ((x : Nat) : Int) = BitVec.ofNat 64 x := BitVec.ofInt_natCast _ _
  have h2 : BitVec.ofInt IntKind.u64.bits ((y : Nat) : Int) = BitVec.ofNat 64 y := BitVec.ofInt_natCast _ _
  have h3 : ∀ z : BitVec 64, IntKind.u64.wrap ((z.toNat : Nat) : Int) = ((z.toNat : Nat) : Int) := fun z => by
    rw [wrap64, Nat.mod_eq_of_lt z.isLt]
  unfold E.intBits
  simp only [h1, h2]
  cases op <;> exact h3 _
theorem and_low {x d : Nat} (hx : x < 2 ^ 64) (hd : d ≤ 64) : E.intBits .and .u64 (x : Int) ((2 ^ d - 1 : Nat) : Int) = ((x % 2 ^ d : Nat) : Int) := by
  rw [bits_nat]
  show (((BitVec.ofNat 64 x &&& BitVec.ofNat 64 (2 ^ d - 1)).toNat : Nat) : Int) = _
  rw [BitVec.toNat_and, BitVec.toNat_ofNat, BitVec.toNat_ofNat, Nat.mod_eq_of_lt hx]
  have : 2 ^ d ≤ 2 ^ 64 := Nat.pow_le_pow_right (by decide) hd
  rw [Nat.mod_eq_of_lt (show 2 ^ d - 1 < 2 ^ 64 by omega), Nat.and_two_pow_sub_one_eq_mod]
theorem Low_gen (x d : Nat) (hx : x < 2 ^ 64) (hd : d ≤ 16) (w : World) : Calls Tryz.prog 81 #[.int .u64 (x : Nat), .int .i64 (d : Nat)] w (RetX (.int .u64 (x % 2 ^ d : Nat)) w.heap (outw w)) := by
  refine begins (k81 {}) [.int .u64 (.ofN (.v 0)), .int .i64 (.ofN (.v 1))] [] { n := fun j => if j = 0 then x else d, h := fun _ => w.heap, o := outw w } 2 1000 rfl rfl rfl trivial (by simp [SV.den, IE.den, NE.den]) ?_
  conv => arg 7; reduce
  simp only [VC.den, BE.prop, IE.den, NE.den, SV.den, HE.den, WS.den, Int.cast_ofNat_Int, reduceIte, Nat.reduceEqDiff]
  have e : min (max (d : Int) 0) 16 = (d : Int) := by omega
  rw [e, Int.toNat_natCast]
  have h0 : (1 : Int) * 2 ^ d = ((2 ^ d : Nat) : Int) := by rw [Int.one_mul]; exact (Int.natCast_pow 2 d).symm
  have h1 : 2 ^ d ≤ 2 ^ 16 := Nat.pow_le_pow_right (by decide) hd
  have h2 : 0 < 2 ^ d := Nat.two_pow_pos d
  have h3 : IntKind.u64.wrap (IntKind.u64.wrap (1 * 2 ^ d) - 1) = ((2 ^ d - 1 : Nat) : Int) := by
    rw [h0, wrap64, Nat.mod_eq_of_lt (by omega), show ((2 ^ d : Nat) : Int) - 1 = ((2 ^ d - 1 : Nat) : Int) by omega, wrap64, Nat.mod_eq_of_lt (by omega)]
  rw [h3, and_low hx (by omega)]
  refine ⟨by omega, by omega, ?_⟩
  exact (fun hf wr hwr hor => ⟨rfl, by rw [hwr]; exact hf.none, hor⟩)
/-- One step of reading bits the other way round. -/
def rstep (k m : Nat) (z : BitVec 64) : BitVec 64 := ((z >>> k) &&& BitVec.ofNat 64 m) ||| ((z &&& BitVec.ofNat 64 m) <<< k)
def r32 (z : BitVec 64) : BitVec 64 := (z >>> 32) ||| (z <<< 32)
def rev64 (z : BitVec 64) : BitVec 64 := r32 (rstep 16 281470681808895 (rstep 8 71777214294589695 (rstep 4 1085102592571150095 (rstep 2 3689348814741910323 (rstep 1 6148914691236517205 z)))))
theorem fdiv_bv (z : BitVec 64) (k : Nat) : ((z.toNat : Nat) : Int).fdiv (2 ^ k) = (((z >>> k).toNat : Nat) : Int) := by
  rw [show ((2 : Int) ^ k) = ((2 ^ k : Nat) : Int) from (Int.natCast_pow 2 k).symm, fdiv_nat, BitVec.toNat_ushiftRight, Nat.shiftRight_eq_div_pow]
theorem shl_bv (z : BitVec 64) (k : Nat) : IntKind.u64.wrap (((z.toNat : Nat) : Int) * 2 ^ k) = (((z <<< k).toNat : Nat) : Int) := by
  rw [show ((2 : Int) ^ k) = ((2 ^ k : Nat) : Int) from (Int.natCast_pow 2 k).symm, ← Int.natCast_mul, wrap64, BitVec.toNat_shiftLeft, Nat.shiftLeft_eq]
theorem and_bv (z : BitVec 64) (m : Nat) : E.intBits .and .u64 ((z.toNat : Nat) : Int) (m : Int) = (((z &&& BitVec.ofNat 64 m).toNat : Nat) : Int) := by
  rw [bits_nat]
  show (((BitVec.ofNat 64 z.toNat &&& BitVec.ofNat 64 m).toNat : Nat) : Int) = _
  rw [BitVec.ofNat_toNat, BitVec.setWidth_eq]
theorem or_bv (z y : BitVec 64) : E.intBits .or .u64 ((z.toNat : Nat) : Int) ((y.toNat : Nat) : Int) = (((z ||| y).toNat : Nat) : Int) := by
  rw [bits_nat]
  show (((BitVec.ofNat 64 z.toNat ||| BitVec.ofNat 64 y.toNat).toNat : Nat) : Int) = _
  rw [BitVec.ofNat_toNat, BitVec.setWidth_eq, BitVec.ofNat_toNat, BitVec.setWidth_eq]
theorem step_bv (z : BitVec 64) (k m : Nat) : E.intBits .or .u64 (E.intBits .and .u64 (((z.toNat : Nat) : Int).fdiv (2 ^ k)) (m : Int)) (IntKind.u64.wrap (E.intBits .and .u64 ((z.toNat : Nat) : Int) (m : Int) * 2 ^ k)) = (((rstep k m z).toNat : Nat) : Int) := by
  rw [fdiv_bv, and_bv, and_bv, shl_bv, or_bv]; rfl
theorem r32_bv (z : BitVec 64) : E.intBits .or .u64 (((z.toNat : Nat) : Int).fdiv (2 ^ 32)) (IntKind.u64.wrap (((z.toNat : Nat) : Int) * 2 ^ 32)) = (((r32 z).toNat : Nat) : Int) := by
  rw [fdiv_bv, shl_bv, or_bv]; rfl
def sg (k i : Nat) : Nat := if (i / k) % 2 = 0 then i + k else i - k
theorem rstep_bit {k m : Nat} (hk : 0 < k) (hm : ∀ i, i < 64 → (BitVec.ofNat 64 m).getLsbD i = decide ((i / k) % 2 = 0)) (hs : ∀ i, i < 64 → sg k i < 64) (z : BitVec 64) (i : Nat) (hi : i < 64) : (rstep k m z).getLsbD i = z.getLsbD (sg k i) := by
  have h1 := hm i hi
  have h2 := hs i hi
  unfold rstep sg at *
  simp only [BitVec.getLsbD_or, BitVec.getLsbD_and, BitVec.getLsbD_ushiftRight, BitVec.getLsbD_shiftLeft, h1, hi, decide_true, Bool.true_and]
  by_cases hp : (i / k) % 2 = 0
  · rw [if_pos hp]
    simp only [hp, decide_true, Bool.and_true]
    by_cases hl : i < k
    · simp [hl, Nat.add_comm]
    · have h3 := hm (i - k) (by omega)
      have h4 : (i - k) / k = i / k - 1 := by
        have := Nat.add_div_right (i - k) hk
        rw [Nat.sub_add_cancel (by omega)] at this
        rw [this]; rfl
      have h5 : 1 ≤ i / k := (Nat.one_le_div_iff hk).2 (by omega)
      rw [h4, decide_eq_false (by omega)] at h3
      simp [h3, Nat.add_comm]
  · rw [if_neg hp]
    simp only [hp, decide_false, Bool.and_false, Bool.false_or]
    have h5 : 1 ≤ i / k := by
      rcases Nat.eq_zero_or_pos (i / k) with h | h
      · rw [h] at hp; exact absurd rfl hp
      · exact h
    have hl : ¬ i < k := fun h => by rw [Nat.div_eq_of_lt h] at h5; omega
    have h3 := hm (i - k) (by omega)
    have h4 : (i - k) / k = i / k - 1 := by
      have := Nat.add_div_right (i - k) hk
      rw [Nat.sub_add_cancel (by omega)] at this
      rw [this]; rfl
    rw [h4, decide_eq_true (by omega)] at h3
    simp [h3, hl]
theorem r32_bit (z : BitVec 64) (i : Nat) (hi : i < 64) : (r32 z).getLsbD i = z.getLsbD (sg 32 i) := by
  unfold r32 sg
  simp only [BitVec.getLsbD_or, BitVec.getLsbD_ushiftRight, BitVec.getLsbD_shiftLeft, hi, decide_true, Bool.true_and]
  by_cases hl : i < 32
  · rw [if_pos (by rw [Nat.div_eq_of_lt hl])]; simp [hl, Nat.add_comm]
  · rw [if_neg (by omega)]
    simp [hl, BitVec.getLsbD_of_ge z (32 + i) (by omega)]
theorem rev64_bit (z : BitVec 64) (i : Nat) (hi : i < 64) : (rev64 z).getLsbD i = z.getLsbD (63 - i) := by
  have h : ∀ j, j < 64 → sg 32 j < 64 ∧ sg 16 (sg 32 j) < 64 ∧ sg 8 (sg 16 (sg 32 j)) < 64 ∧ sg 4 (sg 8 (sg 16 (sg 32 j))) < 64 ∧ sg 2 (sg 4 (sg 8 (sg 16 (sg 32 j)))) < 64 ∧ sg 1 (sg 2 (sg 4 (sg 8 (sg 16 (sg 32 j))))) = 63 - j := by decide
  obtain ⟨a1, a2, a3, a4, a5, a6⟩ := h i hi
  unfold rev64
  rw [r32_bit _ _ hi, rstep_bit (by decide) (by decide) (by decide) _ _ a1, rstep_bit (by decide) (by decide) (by decide) _ _ a2, rstep_bit (by decide) (by decide) (by decide) _ _ a3, rstep_bit (by decide) (by decide) (by decide) _ _ a4, rstep_bit (by decide) (by decide) (by decide) _ _ a5, a6]
/-- A number of 64 bits, read the other way round. -/
def rv (x : Nat) : Nat := (rev64 (BitVec.ofNat 64 x)).toNat
theorem rv_lt (x : Nat) : rv x < 2 ^ 64 := (rev64 _).isLt
theorem rv_bit (x i : Nat) : (rv x).testBit i = (decide (i < 64) && x.testBit (63 - i)) := by
  by_cases hi : i < 64
  · have := rev64_bit (BitVec.ofNat 64 x) i hi
    unfold rv
    rw [BitVec.testBit_toNat, this, BitVec.getLsbD_ofNat]
    simp [hi, show 63 - i < 64 by omega]
  · rw [Nat.testBit_lt_two_pow (Nat.lt_of_lt_of_le (rv_lt x) (Nat.pow_le_pow_right (by decide) (by omega)))]; simp [hi]
theorem rv_rv {x : Nat} (hx : x < 2 ^ 64) : rv (rv x) = x := by
  apply Nat.eq_of_testBit_eq
  intro i
  rw [rv_bit, rv_bit]
  by_cases hi : i < 64
  · simp [hi, show 63 - i < 64 by omega, show 63 - (63 - i) = i by omega]
  · have : x.testBit i = false := Nat.testBit_lt_two_pow (Nat.lt_of_lt_of_le hx (Nat.pow_le_pow_right (by decide) (by omega)))
    simp [hi, this]
theorem rv_div_bit (x d i : Nat) (hd : d ≤ 64) : (rv x / 2 ^ (64 - d)).testBit i = (decide (i < d) && x.testBit (d - 1 - i)) := by
  rw [Nat.testBit_div_two_pow, rv_bit]
  by_cases hi : i < d
  · simp [hi, show i + (64 - d) < 64 by omega, show 63 - (i + (64 - d)) = d - 1 - i by omega]
  · simp [hi, show ¬ i + (64 - d) < 64 by omega]
theorem rv_low {x y d : Nat} (hd : d ≤ 64) : rv x / 2 ^ (64 - d) = rv y / 2 ^ (64 - d) ↔ x % 2 ^ d = y % 2 ^ d := by
  constructor
  · intro h
    apply Nat.eq_of_testBit_eq
    intro i
    rw [Nat.testBit_mod_two_pow, Nat.testBit_mod_two_pow]
    by_cases hi : i < d
    · have := congrArg (fun z => z.testBit (d - 1 - i)) h
      simp only [rv_div_bit _ _ _ hd] at this
      simpa [show d - 1 - i < d by omega, show d - 1 - (d - 1 - i) = i by omega, hi] using this
    · simp [hi]
  · intro h
    apply Nat.eq_of_testBit_eq
    intro i
    rw [rv_div_bit _ _ _ hd, rv_div_bit _ _ _ hd]
    by_cases hi : i < d
    · have := congrArg (fun z => z.testBit (d - 1 - i)) h
      simp only [Nat.testBit_mod_two_pow] at this
      simpa [show d - 1 - i < d by omega, hi] using this
    · simp [hi]
/-- The cursor behind one. -/
def nx (d c : Nat) : Nat := rv (rv c / 2 ^ (64 - d) + 1) / 2 ^ (64 - d)
theorem rvd_lt (x : Nat) {d : Nat} (hd : d ≤ 64) : rv x / 2 ^ (64 - d) < 2 ^ d := by
  rw [Nat.div_lt_iff_lt_mul (Nat.two_pow_pos _), ← Nat.pow_add, show d + (64 - d) = 64 by omega]; exact rv_lt x
theorem nx_last {d c : Nat} (hd : d ≤ 64) (h : rv c / 2 ^ (64 - d) + 1 = 2 ^ d) : nx d c = 0 := by
  unfold nx
  rw [h]
  apply Nat.eq_of_testBit_eq
  intro i
  rw [rv_div_bit _ _ _ hd, Nat.zero_testBit, Nat.testBit_two_pow]
  by_cases hi : i < d
  · simp [show ¬ d = d - 1 - i by omega]
  · simp [hi]
theorem nx_rv {d c : Nat} (hd : d ≤ 64) (h : rv c / 2 ^ (64 - d) + 1 < 2 ^ d) : rv (nx d c) = (rv c / 2 ^ (64 - d) + 1) * 2 ^ (64 - d) := by
  unfold nx
  generalize rv c / 2 ^ (64 - d) + 1 = y at *
  apply Nat.eq_of_testBit_eq
  intro i
  rw [rv_bit, rv_div_bit _ _ _ hd, Nat.testBit_mul_two_pow]
  by_cases hi : i < 64
  · by_cases h2 : 64 - d ≤ i
    · simp [hi, h2, show 63 - i < d by omega, show d - 1 - (63 - i) = i - (64 - d) by omega]
    · simp [h2, show ¬ 63 - i < d by omega]
  · have : y.testBit (i - (64 - d)) = false := Nat.testBit_lt_two_pow (Nat.lt_of_lt_of_le h (Nat.pow_le_pow_right (by decide) (by omega)))
    simp [hi, this]
theorem nx_lt {d : Nat} (c : Nat) (hd : d ≤ 64) : nx d c < 2 ^ d := rvd_lt _ hd
/-- Which side a hash falls to. -/
def side (d x : Nat) : Nat := x / 2 ^ d % 2
theorem side_two (d x : Nat) : side d x = 0 ∨ side d x = 1 := by unfold side; omega
theorem side_mod (d x : Nat) : x % 2 ^ (d + 1) = x % 2 ^ d + 2 ^ d * side d x := Nat.mod_pow_succ
theorem side_low {d D : Nat} (h : d < D) (x : Nat) : side d (x % 2 ^ D) = side d x := by
  have h1 := side_mod d (x % 2 ^ D)
  rw [Nat.mod_mod_of_dvd _ (Nat.pow_dvd_pow 2 h), Nat.mod_mod_of_dvd _ (Nat.pow_dvd_pow 2 (Nat.le_of_lt h)), side_mod d x] at h1
  exact (Nat.eq_of_mul_eq_mul_left (Nat.two_pow_pos d) (Nat.add_left_cancel h1)).symm
theorem rv_zero : rv 0 = 0 := by
  apply Nat.eq_of_testBit_eq
  intro i
  rw [rv_bit]; simp
end Go.Proofs.YtkcjhabbgaaknaaGreat
/- A dict of several nodes, as it lies in memory. -/
namespace Go.Proofs.YtkcjhabbgaaknaaGreat
open E
set_option maxRecDepth 100000
/-- A node: its blocks, how many bits it asks, its table. -/
structure Nd (α : Type) where
  b : Nat
  l : Nat
  t : Nat
  g : Nat
  dep : Nat
  T : Tb α
def Nd.bl {α : Type} (x : Nd α) : List Nat := [x.b, x.l, x.t, x.g]
theorem E.PlainB.same {h h' : Heap} {b : Nat} (H : PlainB h b) (e : h'[b]? = h[b]?) : PlainB h' b := by
  obtain ⟨c, t, g⟩ := H; exact ⟨c, t, e.trans g⟩
theorem E.PlainB.new (h : Heap) (c : Array Value) (t : TypeId) : PlainB (h.push (.cells c t)) h.size := ⟨c, t, by rw [Array.getElem?_push, if_pos rfl]⟩
theorem E.PlainB.push {h : Heap} {b : Nat} (H : PlainB h b) (x : Obj) : PlainB (h.push x) b := H.same ((ext_push h x).old b H.lt)
theorem E.PlainB.setc {h : Heap} {b : Nat} (H : PlainB h b) (b' o : Nat) (v : Value) : PlainB (E.setc h b' o v) b := by
  obtain ⟨c, t, e⟩ := H
  unfold E.setc PlainB
  rw [Array.getElem?_modify, e]
  by_cases hb : b' = b
  · exact ⟨_, _, by rw [if_pos hb]; rfl⟩
  · exact ⟨_, _, by rw [if_neg hb]⟩
structure NdAt {α : Type} (vc : α → Value) (h : Heap) (seed : Int) (x : Nd α) : Prop where
  nc : CellsAt h x.b 0 [.int .i64 (x.dep : Nat), .slice (some ⟨x.l, 0, none⟩) 1 1]
  lc : CellsAt h x.l 0 [.pointer (some ⟨x.t, 0, none⟩)]
  tab : TabAt vc h x.t x.g seed x.T
  pl : PlainB h x.b
  ne : x.bl.Nodup
  room : x.T.full.length ≤ 112
section
variable {α : Type} {vc : α → Value} {h h' : Heap} {seed : Int} {x : Nd α}
theorem NdAt.lt (H : NdAt vc h seed x) : ∀ b ∈ x.bl, b < h.size := by
  intro b hb
  simp only [Nd.bl, List.mem_cons, List.not_mem_nil, or_false] at hb
  rcases hb with rfl | rfl | rfl | rfl
  · exact H.nc.1
  · exact H.lc.1
  · exact H.tab.tl
  · exact H.tab.gl
theorem NdAt.frame {F : Nat → Prop} (H : NdAt vc h seed x) (hx : E.Frame F h h') (hF : ∀ b ∈ x.bl, ¬ F b) : NdAt vc h' seed x :=
  ⟨hx.cellsAt H.nc (hF _ (by simp [Nd.bl])), hx.cellsAt H.lc (hF _ (by simp [Nd.bl])), H.tab.frame hx (hF _ (by simp [Nd.bl])) (hF _ (by simp [Nd.bl])), H.pl.same (hx.old _ H.nc.1 (hF _ (by simp [Nd.bl]))), H.ne, H.room⟩
theorem NdAt.ext (H : NdAt vc h seed x) (hx : Ext h h') : NdAt vc h' seed x := H.frame (hx.frame fun _ => False) fun _ _ => id
end
/-- The directory's cells. -/
def dirC {α : Type} (nd : Nat → Nd α) (n : Nat) : List Value := (List.range n).map fun i => .pointer (some ⟨(nd i).b, 0, none⟩)
theorem dirC_len {α : Type} (nd : Nat → Nd α) (n : Nat) : (dirC nd n).length = n := by simp [dirC]
theorem dirC_get {α : Type} (nd : Nat → Nd α) {n i : Nat} (hi : i < n) : (dirC nd n)[i]? = some (.pointer (some ⟨(nd i).b, 0, none⟩)) := by simp [dirC, hi]
theorem dirC_congr {α : Type} {nd nd' : Nat → Nd α} {n : Nat} (h : ∀ i, i < n → (nd i).b = (nd' i).b) : dirC nd n = dirC nd' n := by
  unfold dirC
  exact List.map_congr_left fun i hi => by rw [h i (List.mem_range.1 hi)]
/-- A dict: S: the blocks that are its own. -/
structure DirAt {α : Type} (vc : α → Value) (h : Heap) (S : Nat → Prop) (d db D C : Nat) (seed : Int) (M : List (Key × α)) (nd : Nat → Nd α) : Prop where
  dc : CellsAt h d 0 [.int .u64 seed, .int .i64 (D : Nat), .slice (some ⟨db, 0, none⟩) (2 ^ D) C, .int .i64 (M.length : Nat)]
  dir : Own h 0 (some ⟨db, 0, none⟩) C 1 (dirC nd (2 ^ D))
  d14 : D ≤ 14
  node : ∀ i, i < 2 ^ D → NdAt vc h seed (nd i)
  dep : ∀ i, i < 2 ^ D → (nd i).dep ≤ D
  same : ∀ i j, i < 2 ^ D → j < 2 ^ D → i % 2 ^ (nd i).dep = j % 2 ^ (nd i).dep → nd j = nd i
  diff : ∀ i j, i < 2 ^ D → j < 2 ^ D → i % 2 ^ (nd i).dep ≠ j % 2 ^ (nd i).dep → ∀ b ∈ (nd i).bl, b ∉ (nd j).bl
  key : ∀ i, i < 2 ^ D → ∀ x ∈ (nd i).T.full, hk seed x.1 % 2 ^ (nd i).dep = i % 2 ^ (nd i).dep
  cont : ∀ x : Key × α, x ∈ M ↔ x ∈ (nd (hk seed x.1 % 2 ^ D)).T.full
  nodup : (M.map (·.1)).Nodup
  own : S d ∧ S db ∧ ∀ i, i < 2 ^ D → ∀ b ∈ (nd i).bl, S b
  ne : d ≠ db ∧ ∀ i, i < 2 ^ D → d ∉ (nd i).bl ∧ db ∉ (nd i).bl
  lt : ∀ b, S b → b < h.size
/-- The blocks of one that got new ones. -/
def grow (S : Nat → Prop) (h h' : Heap) : Nat → Prop := fun b => S b ∨ (h.size ≤ b ∧ b < h'.size)
theorem mod_pow (x : Nat) {a b : Nat} (h : a ≤ b) : x % 2 ^ b % 2 ^ a = x % 2 ^ a := Nat.mod_mod_of_dvd _ (Nat.pow_dvd_pow 2 h)
section
variable {α : Type} {vc : α → Value} {h h' : Heap} {S : Nat → Prop} {d db D C : Nat} {seed : Int} {M M' : List (Key × α)} {nd : Nat → Nd α}
theorem CellsAt.left {b o : Nat} {us vs : List Value} (H : CellsAt h b o (us ++ vs)) : CellsAt h b o us :=
  ⟨H.1, fun j v hj => H.2 j v (by rw [List.getElem?_append_left (List.getElem?_eq_some_iff.1 hj).1]; exact hj)⟩
theorem own_cells {b C : Nat} {vs : List Value} (H : Own h 0 (some ⟨b, 0, none⟩) C 1 vs) : ∃ rest, CellsAt h b 0 (vs ++ rest) ∧ (vs ++ rest).length = C := by
  rcases H with ⟨h, _⟩ | ⟨b', rest, e, _, hc, hl⟩
  · cases h
  · injection e with e; injection e with e; subst e
    exact ⟨rest, hc, by omega⟩
theorem own_frame {F : Nat → Prop} {b C : Nat} {vs : List Value} (H : Own h 0 (some ⟨b, 0, none⟩) C 1 vs) (hx : E.Frame F h h') (hb : ¬ F b) : Own h' 0 (some ⟨b, 0, none⟩) C 1 vs := by
  obtain ⟨rest, hc, hl⟩ := own_cells H
  exact .inr ⟨b, rest, rfl, Nat.zero_le _, hx.cellsAt hc hb, by omega⟩
theorem DirAt.bc (H : DirAt vc h S d db D C seed M nd) : CellsAt h db 0 (dirC nd (2 ^ D)) := by
  obtain ⟨rest, hc, _⟩ := own_cells H.dir
  exact CellsAt.left hc
theorem DirAt.frame {F : Nat → Prop} (H : DirAt vc h S d db D C seed M nd) (hx : E.Frame F h h') (hF : ∀ b, S b → ¬ F b) : DirAt vc h' S d db D C seed M nd :=
  ⟨hx.cellsAt H.dc (hF _ H.own.1), own_frame H.dir hx (hF _ H.own.2.1), H.d14, fun i hi => (H.node i hi).frame hx fun b hb => hF _ (H.own.2.2 i hi b hb), H.dep, H.same, H.diff, H.key, H.cont, H.nodup, H.own, H.ne, fun b hb => Nat.lt_of_lt_of_le (H.lt b hb) hx.le⟩
theorem DirAt.ext (H : DirAt vc h S d db D C seed M nd) (hx : Ext h h') : DirAt vc h' S d db D C seed M nd := H.frame (hx.frame fun _ => False) fun _ _ => id
theorem DirAt.at_lt (_H : DirAt vc h S d db D C seed M nd) (x : Nat) : x % 2 ^ D < 2 ^ D := Nat.mod_lt _ (Nat.two_pow_pos _)
theorem DirAt.at_dep (H : DirAt vc h S d db D C seed M nd) (x : Nat) : x % 2 ^ D % 2 ^ (nd (x % 2 ^ D)).dep = x % 2 ^ (nd (x % 2 ^ D)).dep := mod_pow _ (H.dep _ (H.at_lt x))
theorem DirAt.perm (H : DirAt vc h S d db D C seed M nd) (hp : M.Perm M') : DirAt vc h S d db D C seed M' nd :=
  { H with dc := by rw [← hp.length_eq]; exact H.dc, cont := fun x => by rw [← hp.mem_iff]; exact H.cont x, nodup := by rw [← (hp.map (·.1)).nodup_iff]; exact H.nodup }
theorem DirAt.mem (H : DirAt vc h S d db D C seed M nd) {i : Nat} (hi : i < 2 ^ D) {x : Key × α} (e : hk seed x.1 % 2 ^ (nd i).dep = i % 2 ^ (nd i).dep) : x ∈ M ↔ x ∈ (nd i).T.full := by
  rw [H.cont x, H.same i _ hi (H.at_lt (hk seed x.1)) (by rw [mod_pow _ (H.dep i hi)]; exact e.symm)]
theorem DirAt.wide (H : DirAt vc h' S d db D C seed M nd) (_hz : h.size ≤ h'.size) : DirAt vc h' (grow S h h') d db D C seed M nd := by
  have hl : ∀ b, grow S h h' b → b < h'.size := fun b hb => by
    rcases hb with hb | hb
    · exact H.lt b hb
    · exact hb.2
  exact { H with own := ⟨.inl H.own.1, .inl H.own.2.1, fun i hi b hb => .inl (H.own.2.2 i hi b hb)⟩, lt := hl }
theorem len_rmX {l : List (Key × α)} (hu : (l.map (·.1)).Nodup) {key : Key} {v : α} (hm : (key, v) ∈ l) : (rm l key).length + 1 = l.length := by
  obtain ⟨s, t, rfl⟩ := List.append_of_mem hm
  have h1 : (s ++ (key, v) :: t).Perm ((key, v) :: (s ++ t)) := List.perm_middle
  have := (del_rm hu h1).length_eq
  rw [← this, h1.length_eq, List.length_cons]
/-- A node is another one. -/
def upN (nd : Nat → Nd α) (p r : Nat) (x : Nd α) : Nat → Nd α := fun j => if j % 2 ^ p = r then x else nd j
theorem upN_in {nd : Nat → Nd α} {p r : Nat} {x : Nd α} {j : Nat} (e : j % 2 ^ p = r) : upN nd p r x j = x := if_pos e
theorem upN_out {nd : Nat → Nd α} {p r : Nat} {x : Nd α} {j : Nat} (e : ¬ j % 2 ^ p = r) : upN nd p r x j = nd j := if_neg e
/-- One node's table is another one. -/
theorem DirAt.table {F : Nat → Prop} (H : DirAt vc h S d db D C seed M nd) {i : Nat} (hi : i < 2 ^ D) {g' : Nat} {T' : Tb α} (hf : E.Frame F h h') (hF : ∀ b, F b → b = d ∨ b = (nd i).t ∨ b = (nd i).g)
    (hT : TabAt vc h' (nd i).t g' seed T') (hg : g' = (nd i).g ∨ h.size ≤ g') (hdc : CellsAt h' d 0 [.int .u64 seed, .int .i64 (D : Nat), .slice (some ⟨db, 0, none⟩) (2 ^ D) C, .int .i64 (M'.length : Nat)])
    (hk1 : ∀ x ∈ T'.full, hk seed x.1 % 2 ^ (nd i).dep = i % 2 ^ (nd i).dep) (hr : T'.full.length ≤ 112)
    (hin : ∀ x, hk seed x.1 % 2 ^ (nd i).dep = i % 2 ^ (nd i).dep → (x ∈ M' ↔ x ∈ T'.full)) (hout : ∀ x, hk seed x.1 % 2 ^ (nd i).dep ≠ i % 2 ^ (nd i).dep → (x ∈ M' ↔ x ∈ M)) (hnd : (M'.map (·.1)).Nodup) :
    DirAt vc h' (grow S h h') d db D C seed M' (upN nd (nd i).dep (i % 2 ^ (nd i).dep) { nd i with g := g', T := T' }) := by
  have hN := H.node i hi
  have hne := hN.ne
  simp only [Nd.bl, List.nodup_cons, List.mem_cons, List.not_mem_nil, or_false, not_or, List.nodup_nil, and_true, not_false_eq_true] at hne
  obtain ⟨⟨p1, p2, p3⟩, ⟨p4, p5⟩, p6⟩ := hne
  have l1 := hN.nc.1; have l2 := hN.lc.1; have l3 := hN.tab.tl; have l4 := hN.tab.gl
  have hdn := H.ne.2 i hi
  simp only [Nd.bl, List.mem_cons, List.not_mem_nil, or_false, not_or] at hdn
  obtain ⟨⟨q1, q2, q3, q4⟩, ⟨r1, r2, r3, r4⟩⟩ := hdn
  have hdb : ¬ F db := fun hF' => by rcases hF _ hF' with e | e | e
                                     · exact H.ne.1 e.symm
                                     · exact r3 e
                                     · exact r4 e
  have hgl : g' < h'.size := hT.gl
  have hz := hf.le
  have hdl := H.lt _ H.own.1
  have hdbl := H.lt _ H.own.2.1
  have hnew : ∀ b, b < h.size → b ≠ (nd i).g → b ≠ g' := fun b hb hn e => by rcases hg with hg | hg <;> omega
  have hsame : ∀ j, j < 2 ^ D → j % 2 ^ (nd i).dep = i % 2 ^ (nd i).dep → nd j = nd i := fun j hj e => H.same i j hi hj e.symm
  refine ⟨hdc, ?_, H.d14, fun j hj => ?_, fun j hj => ?_, fun j k hj hk' => ?_, fun j k hj hk' => ?_, fun j hj x hx => ?_, fun x => ?_, hnd, ⟨.inl H.own.1, .inl H.own.2.1, fun j hj b hb => ?_⟩, ⟨H.ne.1, fun j hj => ?_⟩, fun b hb => ?_⟩
  · rw [dirC_congr (nd' := nd) fun j hj => ?_]
    · exact own_frame H.dir hf hdb
    · by_cases e : j % 2 ^ (nd i).dep = i % 2 ^ (nd i).dep
      · rw [upN_in e, hsame j hj e]
      · rw [upN_out e]
  · by_cases e : j % 2 ^ (nd i).dep = i % 2 ^ (nd i).dep
    · rw [upN_in e]
      have hb1 : ¬ F (nd i).b := fun hF' => by rcases hF _ hF' with e | e | e
                                               · exact q1 e.symm
                                               · exact p2 e
                                               · exact p3 e
      have hb2 : ¬ F (nd i).l := fun hF' => by rcases hF _ hF' with e | e | e
                                               · exact q2 e.symm
                                               · exact p4 e
                                               · exact p5 e
      refine ⟨hf.cellsAt hN.nc hb1, hf.cellsAt hN.lc hb2, hT, hN.pl.same (hf.old _ l1 hb1), ?_, hr⟩
      simp only [Nd.bl, List.nodup_cons, List.mem_cons, List.not_mem_nil, or_false, not_or, List.nodup_nil, and_true, not_false_eq_true]
      exact ⟨⟨p1, p2, hnew _ l1 p3⟩, ⟨p4, hnew _ l2 p5⟩, hnew _ l3 p6⟩
    · rw [upN_out e]
      refine (H.node j hj).frame hf fun b hb hF' => ?_
      have hd := H.diff i j hi hj (fun e' => e e'.symm)
      rcases hF _ hF' with e1 | e1 | e1
      · exact (H.ne.2 j hj).1 (by rw [← e1]; exact hb)
      · exact hd (nd i).t (by simp [Nd.bl]) (by rw [← e1]; exact hb)
      · exact hd (nd i).g (by simp [Nd.bl]) (by rw [← e1]; exact hb)
  · by_cases e : j % 2 ^ (nd i).dep = i % 2 ^ (nd i).dep
    · rw [upN_in e]; exact H.dep i hi
    · rw [upN_out e]; exact H.dep j hj
  · by_cases e : j % 2 ^ (nd i).dep = i % 2 ^ (nd i).dep
    · rw [upN_in e]
      intro e2
      rw [upN_in (show k % 2 ^ (nd i).dep = i % 2 ^ (nd i).dep from e2.symm.trans e)]
    · rw [upN_out e]
      intro e2
      have h1 := H.same j k hj hk' e2
      have : ¬ k % 2 ^ (nd i).dep = i % 2 ^ (nd i).dep := fun e3 => by
        have h2 := hsame k hk' e3
        have h3 : nd j = nd i := h1.symm.trans h2
        rw [h3] at e2
        exact e (e2.trans e3)
      rw [upN_out this]; exact h1
  · by_cases e : j % 2 ^ (nd i).dep = i % 2 ^ (nd i).dep
    · rw [upN_in e]
      intro e2 b hb
      have hk2 : ¬ k % 2 ^ (nd i).dep = i % 2 ^ (nd i).dep := fun e3 => e2 (e.trans e3.symm)
      rw [upN_out hk2]
      have hd := H.diff i k hi hk' (fun e' => hk2 e'.symm)
      simp only [Nd.bl, List.mem_cons, List.not_mem_nil, or_false] at hb
      rcases hb with rfl | rfl | rfl | rfl
      · exact hd _ (by simp [Nd.bl])
      · exact hd _ (by simp [Nd.bl])
      · exact hd _ (by simp [Nd.bl])
      · rcases hg with hg | hg
        · rw [hg]; exact hd _ (by simp [Nd.bl])
        · intro hb; have := (H.node k hk').lt _ hb; omega
    · rw [upN_out e]
      intro e2 b hb
      by_cases e3 : k % 2 ^ (nd i).dep = i % 2 ^ (nd i).dep
      · rw [upN_in e3]
        have h2 := hsame k hk' e3
        have hd := H.diff j k hj hk' e2 b hb
        rw [h2] at hd
        simp only [Nd.bl, List.mem_cons, List.not_mem_nil, or_false, not_or] at hd ⊢
        exact ⟨hd.1, hd.2.1, hd.2.2.1, hnew _ ((H.node j hj).lt b hb) hd.2.2.2⟩
      · rw [upN_out e3]; exact H.diff j k hj hk' e2 b hb
  · by_cases e : j % 2 ^ (nd i).dep = i % 2 ^ (nd i).dep
    · rw [upN_in e] at hx ⊢; exact (hk1 x hx).trans e.symm
    · rw [upN_out e] at hx ⊢; exact H.key j hj x hx
  · by_cases e : hk seed x.1 % 2 ^ (nd i).dep = i % 2 ^ (nd i).dep
    · rw [upN_in ((mod_pow _ (H.dep i hi)).trans e)]; exact hin x e
    · rw [upN_out (fun e' => e ((mod_pow _ (H.dep i hi)).symm.trans e'))]
      exact (hout x e).trans (H.cont x)
  · by_cases e : j % 2 ^ (nd i).dep = i % 2 ^ (nd i).dep
    · rw [upN_in e] at hb
      have ho := H.own.2.2 i hi
      simp only [Nd.bl, List.mem_cons, List.not_mem_nil, or_false] at hb
      rcases hb with rfl | rfl | rfl | rfl
      · exact .inl (ho _ (by simp [Nd.bl]))
      · exact .inl (ho _ (by simp [Nd.bl]))
      · exact .inl (ho _ (by simp [Nd.bl]))
      · rcases hg with hg | hg
        · rw [hg]; exact .inl (ho _ (by simp [Nd.bl]))
        · exact .inr ⟨hg, hgl⟩
    · rw [upN_out e] at hb; exact .inl (H.own.2.2 j hj b hb)
  · by_cases e : j % 2 ^ (nd i).dep = i % 2 ^ (nd i).dep
    · rw [upN_in e]
      simp only [Nd.bl, List.mem_cons, List.not_mem_nil, or_false, not_or]
      exact ⟨⟨q1, q2, q3, hnew _ hdl q4⟩, r1, r2, r3, hnew _ hdbl r4⟩
    · rw [upN_out e]; exact H.ne.2 j hj
  · rcases hb with hb | hb
    · exact Nat.lt_of_lt_of_le (H.lt b hb) hz
    · exact hb.2
/-- The directory twice as long. -/
theorem dirC_twice (nd : Nat → Nd α) (n : Nat) : dirC nd n ++ dirC nd n = dirC (fun j => nd (j % n)) (n + n) := by
  unfold dirC
  rw [List.range_add, List.map_append, List.map_map]
  congr 1
  · exact List.map_congr_left fun i hi => by simp only [Nat.mod_eq_of_lt (List.mem_range.1 hi)]
  · exact List.map_congr_left fun i hi => by
      simp only [Function.comp]
      rw [Nat.add_mod_left, Nat.mod_eq_of_lt (List.mem_range.1 hi)]
theorem app_self (H : DirAt vc h S d db D C seed M nd) : AppPre h 1 8 (some ⟨db, 0, none⟩) (2 ^ D) C (.slice (some ⟨db, 0, none⟩) (2 ^ D) C) (dirC nd (2 ^ D)) (dirC nd (2 ^ D)) := by
  have hl := dirC_len nd (2 ^ D)
  have h1 : 2 ^ D ≤ 2 ^ 14 := Nat.pow_le_pow_right (by decide) H.d14
  have hk := H.dir.app (n := 2 ^ D) (m := 2 ^ D) (bytes := 8) (by rw [hl]; omega) (by omega) (by omega)
  refine ⟨⟨Nat.le_refl _, by rw [hl]; simp only [lenV]; omega, H.dir.row⟩, hk.oldL, hk.old, fun u hu => ?_, fun hr => ?_, hk.fit, hk.len⟩
  · unfold dirC at hu
    obtain ⟨i, _, rfl⟩ := List.mem_map.1 hu
    rfl
  · have := hk.room hr
    rw [hl]; simpa using this
theorem appended_frame {e n m C c' : Nat} {olds news : List Value} {p' : Option Addr} (ha : Appended e 1 h (some ⟨db, 0, none⟩) n C m olds news h' p' c') : E.Frame (fun b => b = db) h h' ∧ ∃ b', p' = some ⟨b', 0, none⟩ ∧ (b' = db ∨ h.size ≤ b' ∧ b' < h'.size) := by
  rcases ha with ⟨_, rfl, rfl, _⟩ | ⟨_, _, rest, _, rfl, rfl⟩
  · exact ⟨E.Frame.setcs (F := fun b => b = db) (fun _ => rfl) _ _ (E.Frame.refl _ _), _, rfl, .inl rfl⟩
  · exact ⟨(E.Frame.refl _ _).push _, _, rfl, .inr ⟨Nat.le_refl _, by simp⟩⟩
/-- The directory is doubled. -/
theorem DirAt.double (H : DirAt vc h S d db D C seed M nd) (hD : D < 14) {db' C' : Nat} (hf : E.Frame (fun b => b = db ∨ b = d) h h') (hb : db' = db ∨ h.size ≤ db' ∧ db' < h'.size) (hdir : Own h' 0 (some ⟨db', 0, none⟩) C' 1 (dirC nd (2 ^ D) ++ dirC nd (2 ^ D)))
    (hdc : CellsAt h' d 0 [.int .u64 seed, .int .i64 ((D + 1 : Nat) : Int), .slice (some ⟨db', 0, none⟩) (2 ^ (D + 1)) C', .int .i64 (M.length : Nat)]) :
    DirAt vc h' (grow S h h') d db' (D + 1) C' seed M (fun j => nd (j % 2 ^ D)) := by
  have e2 : 2 ^ (D + 1) = 2 ^ D + 2 ^ D := by rw [Nat.pow_succ]; omega
  have hm : ∀ j, j % 2 ^ D < 2 ^ D := fun j => Nat.mod_lt _ (Nat.two_pow_pos _)
  have hmm : ∀ i j, i % 2 ^ D % 2 ^ (nd (j % 2 ^ D)).dep = i % 2 ^ (nd (j % 2 ^ D)).dep := fun i j => mod_pow _ (H.dep _ (hm j))
  have hz := hf.le
  have hnd : ∀ j b, b ∈ (nd (j % 2 ^ D)).bl → b < h.size ∧ b ≠ d ∧ b ≠ db := fun j b hb' => by
    have := H.ne.2 _ (hm j)
    exact ⟨(H.node _ (hm j)).lt b hb', fun e => this.1 (by rw [← e]; exact hb'), fun e => this.2 (by rw [← e]; exact hb')⟩
  refine ⟨hdc, by rw [e2, ← dirC_twice]; exact hdir, hD, fun i _ => (H.node _ (hm i)).frame hf fun b hb' e => ?_, fun i _ => Nat.le_succ_of_le (H.dep _ (hm i)), fun i j _ _ e => ?_, fun i j _ _ e => ?_, fun i _ x hx => ?_, fun x => ?_, H.nodup,
    ⟨.inl H.own.1, ?_, fun i _ b hb' => .inl (H.own.2.2 _ (hm i) b hb')⟩, ⟨?_, fun i _ => ⟨(H.ne.2 _ (hm i)).1, ?_⟩⟩, fun b hb' => ?_⟩
  · have := hnd i b hb'
    rcases e with e | e
    · exact this.2.2 e
    · exact this.2.1 e
  · exact H.same _ _ (hm i) (hm j) (by rw [hmm, hmm]; exact e)
  · exact H.diff _ _ (hm i) (hm j) (by rw [hmm, hmm]; exact e)
  · rw [H.key _ (hm i) x hx, hmm]
  · rw [mod_pow _ (Nat.le_succ D)]; exact H.cont x
  · rcases hb with hb | hb
    · rw [hb]; exact .inl H.own.2.1
    · exact .inr hb
  · have := H.lt _ H.own.1
    rcases hb with hb | hb
    · rw [hb]; exact H.ne.1
    · omega
  · rcases hb with hb | hb
    · rw [hb]; exact (H.ne.2 _ (hm i)).2
    · intro hb'; have := (hnd i _ hb').1; omega
  · rcases hb' with hb' | hb'
    · exact Nat.lt_of_lt_of_le (H.lt b hb') hz
    · exact hb'.2
/-- One node becomes two. -/
def prt (nd : Nat → Nd α) (p r : Nat) (xA xB : Nd α) : Nat → Nd α := fun j => if j % 2 ^ p = r then (if side p j = 0 then xA else xB) else nd j
theorem prt_A {nd : Nat → Nd α} {p r : Nat} {xA xB : Nd α} {j : Nat} (e : j % 2 ^ p = r) (s : side p j = 0) : prt nd p r xA xB j = xA := by unfold prt; rw [if_pos e, if_pos s]
theorem prt_B {nd : Nat → Nd α} {p r : Nat} {xA xB : Nd α} {j : Nat} (e : j % 2 ^ p = r) (s : side p j = 1) : prt nd p r xA xB j = xB := by unfold prt; rw [if_pos e, if_neg (by rw [s]; decide)]
theorem prt_out {nd : Nat → Nd α} {p r : Nat} {xA xB : Nd α} {j : Nat} (e : ¬ j % 2 ^ p = r) : prt nd p r xA xB j = nd j := if_neg e
theorem next_mod {p j k : Nat} (h1 : j % 2 ^ p = k % 2 ^ p) (h2 : side p j = side p k) : j % 2 ^ (p + 1) = k % 2 ^ (p + 1) := by rw [side_mod, side_mod, h1, h2]
theorem next_mod' {p j k : Nat} (h : j % 2 ^ (p + 1) = k % 2 ^ (p + 1)) : j % 2 ^ p = k % 2 ^ p ∧ side p j = side p k := by
  rw [← mod_pow j (Nat.le_succ p), ← mod_pow k (Nat.le_succ p), ← side_low (Nat.lt_succ_self p) j, ← side_low (Nat.lt_succ_self p) k]
  exact ⟨congrArg (· % 2 ^ p) h, congrArg (side p) h⟩
theorem DirAt.part {F : Nat → Prop} (H : DirAt vc h S d db D C seed M nd) {i : Nat} (hi : i < 2 ^ D) {p r : Nat} (hp : (nd i).dep = p) (hr : i % 2 ^ p = r) (hd : p < D) {xA xB : Nd α} (hf : E.Frame F h h') (hF : ∀ b, F b → b = db)
    (hA : NdAt vc h' seed xA) (hB : NdAt vc h' seed xB) (dA : xA.dep = p + 1) (dB : xB.dep = p + 1) (nA : ∀ b ∈ xA.bl, h.size ≤ b) (nB : ∀ b ∈ xB.bl, h.size ≤ b) (nAB : ∀ b ∈ xA.bl, b ∉ xB.bl)
    (fA : ∀ x, x ∈ xA.T.full ↔ x ∈ (nd i).T.full ∧ side p (hk seed x.1) = 0) (fB : ∀ x, x ∈ xB.T.full ↔ x ∈ (nd i).T.full ∧ side p (hk seed x.1) = 1)
    (hdir : Own h' 0 (some ⟨db, 0, none⟩) C 1 (dirC (prt nd p r xA xB) (2 ^ D))) :
    DirAt vc h' (grow S h h') d db D C seed M (prt nd p r xA xB) := by
  have hsame : ∀ j, j < 2 ^ D → j % 2 ^ p = r → nd j = nd i := fun j hj e => H.same i j hi hj (by rw [hp]; exact hr.trans e.symm)
  have hkey : ∀ x ∈ (nd i).T.full, hk seed x.1 % 2 ^ p = r := fun x hx => by have := H.key i hi x hx; rw [hp, hr] at this; exact this
  have hmem : ∀ x : Key × α, hk seed x.1 % 2 ^ p = r → (x ∈ M ↔ x ∈ (nd i).T.full) := fun x e => H.mem hi (by rw [hp, hr]; exact e)
  have hout : ∀ j k, j < 2 ^ D → k < 2 ^ D → ¬ j % 2 ^ p = r → j % 2 ^ (nd j).dep = k % 2 ^ (nd j).dep → ¬ k % 2 ^ p = r := fun j k hj hk' e e2 e3 => by
    have h1 := H.same j k hj hk' e2
    have h3 : nd j = nd i := h1.symm.trans (hsame k hk' e3)
    rw [h3, hp] at e2
    exact e (e2.trans e3)
  have hdF : d ≠ db := H.ne.1
  have hdl := H.lt _ H.own.1
  have hdbl := H.lt _ H.own.2.1
  have hz := hf.le
  have old : ∀ j, j < 2 ^ D → ∀ b ∈ (nd j).bl, b < h.size := fun j hj => (H.node j hj).lt
  have hdc : CellsAt h' d 0 [.int .u64 seed, .int .i64 (D : Nat), .slice (some ⟨db, 0, none⟩) (2 ^ D) C, .int .i64 (M.length : Nat)] := hf.cellsAt H.dc fun e => hdF (hF _ e)
  refine ⟨hdc, hdir, H.d14, fun j hj => ?_, fun j hj => ?_, fun j k hj hk' => ?_, fun j k hj hk' => ?_, fun j hj x hx => ?_, fun x => ?_, H.nodup, ⟨.inl H.own.1, .inl H.own.2.1, fun j hj b hb => ?_⟩, ⟨H.ne.1, fun j hj => ?_⟩, fun b hb => ?_⟩
  · by_cases e : j % 2 ^ p = r
    · rcases side_two p j with s | s
      · rw [prt_A e s]; exact hA
      · rw [prt_B e s]; exact hB
    · rw [prt_out e]
      exact (H.node j hj).frame hf fun b hb hb' => (H.ne.2 j hj).2 (by rw [← hF _ hb']; exact hb)
  · by_cases e : j % 2 ^ p = r
    · rcases side_two p j with s | s
      · rw [prt_A e s, dA]; exact hd
      · rw [prt_B e s, dB]; exact hd
    · rw [prt_out e]; exact H.dep j hj
  · by_cases e : j % 2 ^ p = r
    · rcases side_two p j with s | s
      · rw [prt_A e s, dA]
        intro e2
        obtain ⟨g1, g2⟩ := next_mod' e2
        rw [prt_A (g1.symm.trans e) (g2.symm.trans s)]
      · rw [prt_B e s, dB]
        intro e2
        obtain ⟨g1, g2⟩ := next_mod' e2
        rw [prt_B (g1.symm.trans e) (g2.symm.trans s)]
    · rw [prt_out e]
      intro e2
      rw [prt_out (hout j k hj hk' e e2)]
      exact H.same j k hj hk' e2
  · by_cases e : j % 2 ^ p = r
    · rcases side_two p j with s | s
      · rw [prt_A e s, dA]
        intro e2 b hb hb'
        by_cases e3 : k % 2 ^ p = r
        · rcases side_two p k with s3 | s3
          · exact e2 (next_mod (e.trans e3.symm) (s.trans s3.symm))
          · rw [prt_B e3 s3] at hb'; exact nAB b hb hb'
        · rw [prt_out e3] at hb'
          have := old k hk' b hb'; have := nA b hb; omega
      · rw [prt_B e s, dB]
        intro e2 b hb hb'
        by_cases e3 : k % 2 ^ p = r
        · rcases side_two p k with s3 | s3
          · rw [prt_A e3 s3] at hb'; exact nAB b hb' hb
          · exact e2 (next_mod (e.trans e3.symm) (s.trans s3.symm))
        · rw [prt_out e3] at hb'
          have := old k hk' b hb'; have := nB b hb; omega
    · rw [prt_out e]
      intro e2 b hb hb'
      by_cases e3 : k % 2 ^ p = r
      · have h1 := old j hj b hb
        rcases side_two p k with s3 | s3
        · rw [prt_A e3 s3] at hb'; have := nA b hb'; omega
        · rw [prt_B e3 s3] at hb'; have := nB b hb'; omega
      · rw [prt_out e3] at hb'
        exact H.diff j k hj hk' e2 b hb hb'
  · by_cases e : j % 2 ^ p = r
    · rcases side_two p j with s | s
      · rw [prt_A e s] at hx ⊢
        obtain ⟨g1, g2⟩ := (fA x).1 hx
        rw [dA]; exact next_mod ((hkey x g1).trans e.symm) (g2.trans s.symm)
      · rw [prt_B e s] at hx ⊢
        obtain ⟨g1, g2⟩ := (fB x).1 hx
        rw [dB]; exact next_mod ((hkey x g1).trans e.symm) (g2.trans s.symm)
    · rw [prt_out e] at hx ⊢; exact H.key j hj x hx
  · have e0 : hk seed x.1 % 2 ^ D % 2 ^ p = hk seed x.1 % 2 ^ p := mod_pow _ (Nat.le_of_lt hd)
    by_cases e : hk seed x.1 % 2 ^ p = r
    · rw [hmem x e]
      rcases side_two p (hk seed x.1) with s | s
      · rw [prt_A (e0.trans e) ((side_low hd _).trans s), fA x]
        exact ⟨fun h => ⟨h, s⟩, fun h => h.1⟩
      · rw [prt_B (e0.trans e) ((side_low hd _).trans s), fB x]
        exact ⟨fun h => ⟨h, s⟩, fun h => h.1⟩
    · rw [prt_out (fun e' => e (e0.symm.trans e'))]; exact H.cont x
  · by_cases e : j % 2 ^ p = r
    · rcases side_two p j with s | s
      · rw [prt_A e s] at hb; exact .inr ⟨nA b hb, hA.lt b hb⟩
      · rw [prt_B e s] at hb; exact .inr ⟨nB b hb, hB.lt b hb⟩
    · rw [prt_out e] at hb; exact .inl (H.own.2.2 j hj b hb)
  · by_cases e : j % 2 ^ p = r
    · rcases side_two p j with s | s
      · rw [prt_A e s]
        exact ⟨fun hb => by have := nA _ hb; omega, fun hb => by have := nA _ hb; omega⟩
      · rw [prt_B e s]
        exact ⟨fun hb => by have := nB _ hb; omega, fun hb => by have := nB _ hb; omega⟩
    · rw [prt_out e]; exact H.ne.2 j hj
  · rcases hb with hb | hb
    · exact Nat.lt_of_lt_of_le (H.lt b hb) hz
    · exact hb.2
theorem DirAt.sub {S' : Nat → Prop} (H : DirAt vc h S d db D C seed M nd) (h1 : ∀ b, S b → S' b) (h2 : ∀ b, S' b → b < h.size) : DirAt vc h S' d db D C seed M nd :=
  { H with own := ⟨h1 _ H.own.1, h1 _ H.own.2.1, fun i hi b hb => h1 _ (H.own.2.2 i hi b hb)⟩, lt := h2 }
theorem DirAt.twice {h0 : Heap} (H : DirAt vc h' (grow (grow S h0 h) h h') d db D C seed M nd) (z1 : h0.size ≤ h.size) (z2 : h.size ≤ h'.size) (hS : ∀ b, S b → b < h0.size) : DirAt vc h' (grow S h0 h') d db D C seed M nd := by
  refine H.sub (fun b hb => ?_) fun b hb => ?_
  · rcases hb with (hb | hb) | hb
    · exact .inl hb
    · exact .inr ⟨hb.1, by omega⟩
    · exact .inr ⟨by omega, hb.2⟩
  · rcases hb with hb | hb
    · have := hS b hb; omega
    · exact hb.2
theorem frame_twice {h0 : Heap} (a : E.Frame S h0 h) (b : E.Frame (grow S h0 h) h h') : E.Frame S h0 h' :=
  a.trans b (fun _ h => h) fun n hn hg => by
    rcases hg with hg | hg
    · exact hg
    · omega
end
end Go.Proofs.YtkcjhabbgaaknaaGreat
/- Cursors: the walks. -/
namespace Go.Proofs.YtkcjhabbgaaknaaGreat
open E
set_option maxRecDepth 100000
theorem cBucket_gen (x d : Nat) (hx : x < 2 ^ 64) (hd : d ≤ 16) (w : World) : Calls Tryz.prog 98 #[.int .u64 (x : Nat), .int .i64 (d : Nat)] w (RetX (.int .u64 (x % 2 ^ d : Nat)) w.heap (outw w)) := by
  refine begins (k98 {}) [.int .u64 (.ofN (.v 0)), .int .i64 (.ofN (.v 1))] [] { n := fun j => if j = 0 then x else d, h := fun _ => w.heap, o := outw w } 2 1000 rfl rfl rfl trivial (by simp [SV.den, IE.den, NE.den]) ?_
  conv => arg 7; reduce
  simp only [VC.den, IE.den, NE.den, SV.den, HE.den, WS.den, List.map_cons, List.map_nil, reduceIte, Nat.reduceEqDiff, Env.setE, Env.setH, Env.setI]
  intro w1 hw1 ho1
  refine (Low_gen x d hx hd _).mono ?_
  rintro e1 v1 ⟨rfl, hx1, hp1⟩
  rw [hw1] at hx1
  refine ⟨hp1.trans ho1, hx1, ?_⟩
  refine ⟨_, rfl, ?_⟩
  exact (fun hf wr hwr hor => ⟨rfl, by rw [hwr]; exact hf.none, hor⟩)
theorem cdepth_gen (d : Nat) (hd : d ≤ 16) (w : World) : Calls Tryz.prog 100 #[.int .i64 (d : Nat)] w (RetX (.int .i64 (d : Nat)) w.heap (outw w)) := by
  refine begins (k100 {}) [.int .i64 (.ofN (.v 0))] [] { n := fun _ => d, h := fun _ => w.heap, o := outw w } 1 1000 rfl rfl rfl trivial (by simp [SV.den, IE.den, NE.den]) ?_
  conv => arg 7; reduce
  simp only [VC.den, IE.den, NE.den, SV.den, HE.den, WS.den, Int.cast_ofNat_Int]
  have e : min (max (d : Int) 0) 16 = (d : Int) := by omega
  rw [e]
  exact (fun hf wr hwr hor => ⟨rfl, by rw [hwr]; exact hf.none, hor⟩)
theorem RevB_any (z : BitVec 64) (w : World) : Calls Tryz.prog 138 #[.int .u64 (z.toNat : Nat)] w (RetX (.int .u64 ((r32 (rstep 16 281470681808895 (rstep 8 71777214294589695 z))).toNat : Nat)) w.heap (outw w)) := by
  refine begins (k138 { wraps := [8, 15, 20] }) [.int .u64 (.ofN (.v 0))] [] { n := fun _ => z.toNat, h := fun _ => w.heap, o := outw w } 1 1000 rfl rfl rfl trivial (by simp [SV.den, IE.den, NE.den]) ?_
  conv => arg 7; reduce
  simp only [VC.den, IE.den, NE.den, SV.den, HE.den, WS.den, Int.cast_ofNat_Int]
  have s1 := step_bv z 8 71777214294589695
  have s2 := step_bv (rstep 8 71777214294589695 z) 16 281470681808895
  have s3 := r32_bv (rstep 16 281470681808895 (rstep 8 71777214294589695 z))
  simp only [Int.cast_ofNat_Int] at s1 s2 s3
  rw [s1, s2, s3]
  exact (fun hf wr hwr hor => ⟨rfl, by rw [hwr]; exact hf.none, hor⟩)
theorem Rev_any (z : BitVec 64) (w : World) : Calls Tryz.prog 128 #[.int .u64 (z.toNat : Nat)] w (RetX (.int .u64 ((rev64 z).toNat : Nat)) w.heap (outw w)) := by
  refine begins (k128 { wraps := [8, 15, 22] }) [.int .u64 (.ofN (.v 0))] [] { n := fun _ => z.toNat, h := fun _ => w.heap, o := outw w } 1 1000 rfl rfl rfl trivial (by simp [SV.den, IE.den, NE.den]) ?_
  conv => arg 7; reduce
  simp only [VC.den, IE.den, NE.den, SV.den, HE.den, WS.den, List.map_cons, List.map_nil, Int.cast_ofNat_Int, reduceIte, Nat.reduceEqDiff, Env.setE, Env.setH, Env.setI]
  have s1 := step_bv z 1 6148914691236517205
  have s2 := step_bv (rstep 1 6148914691236517205 z) 2 3689348814741910323
  have s3 := step_bv (rstep 2 3689348814741910323 (rstep 1 6148914691236517205 z)) 4 1085102592571150095
  simp only [Int.cast_ofNat_Int] at s1 s2 s3
  rw [s1, s2, s3]
  intro w1 hw1 ho1
  refine (RevB_any _ _).mono ?_
  rintro e1 v1 ⟨rfl, hx1, hp1⟩
  rw [hw1] at hx1
  refine ⟨hp1.trans ho1, hx1, ?_⟩
  refine ⟨_, rfl, ?_⟩
  exact (fun hf wr hwr hor => ⟨rfl, by rw [hwr]; exact hf.none, hor⟩)
theorem Rev_nat (x : Nat) (hx : x < 2 ^ 64) (w : World) : Calls Tryz.prog 128 #[.int .u64 (x : Nat)] w (RetX (.int .u64 (rv x : Nat)) w.heap (outw w)) := by
  have := Rev_any (BitVec.ofNat 64 x) w
  rwa [BitVec.toNat_ofNat, Nat.mod_eq_of_lt hx] at this
theorem turned_gen (x d : Nat) (hx : x < 2 ^ 64) (hd : d ≤ 16) (w : World) : Calls Tryz.prog 101 #[.int .u64 (x : Nat), .int .i64 (d : Nat)] w (RetX (.int .u64 (rv x / 2 ^ (64 - d) : Nat)) w.heap (outw w)) := by
  refine begins (k101 {}) [.int .u64 (.ofN (.v 0)), .int .i64 (.ofN (.v 1))] [] { n := fun j => if j = 0 then x else d, h := fun _ => w.heap, o := outw w } 2 1000 rfl rfl rfl trivial (by simp [SV.den, IE.den, NE.den]) ?_
  conv => arg 7; reduce
  simp only [VC.den, BE.prop, IE.den, NE.den, SV.den, HE.den, WS.den, List.map_cons, List.map_nil, Int.cast_ofNat_Int, reduceIte, Nat.reduceEqDiff, Env.setE, Env.setH, Env.setI, inK_i64]
  refine ⟨fun h0 => ?_, fun h0 => ?_⟩
  · have e : rv x / 2 ^ (64 - d) = 0 := Nat.div_eq_of_lt (by rw [show 64 - d = 64 by omega]; exact rv_lt x)
    rw [e]
    exact (fun hf wr hwr hor => ⟨rfl, by rw [hwr]; exact hf.none, hor⟩)
  ·
    intro w1 hw1 ho1
    refine (Rev_nat x hx _).mono ?_
    rintro e1 v1 ⟨rfl, hx1, hp1⟩
    rw [hw1] at hx1
    refine ⟨hp1.trans ho1, hx1, ?_⟩
    refine ⟨_, rfl, ?_⟩
    rw [show (64 : Int) - (d : Int) = ((64 - d : Nat) : Int) by omega]
    have e : ((rv x : Nat) : Int).fdiv (2 ^ (64 - d)) = ((rv x / 2 ^ (64 - d) : Nat) : Int) := by
      rw [show ((2 : Int) ^ (64 - d)) = ((2 ^ (64 - d) : Nat) : Int) from (Int.natCast_pow 2 _).symm, fdiv_nat]
    rw [Int.toNat_natCast, e]
    refine ⟨by omega, by omega, by omega, ?_⟩
    exact (fun hf wr hwr hor => ⟨rfl, by rw [hwr]; exact hf.none, hor⟩)
theorem Next_gen (x d : Nat) (hx : x < 2 ^ 64) (hd : d ≤ 16) (w : World) : Calls Tryz.prog 68 #[.int .u64 (x : Nat), .int .i64 (d : Nat)] w (RetX (.int .u64 (nx d x : Nat)) w.heap (outw w)) := by
  refine begins (k68 {}) [.int .u64 (.ofN (.v 0)), .int .i64 (.ofN (.v 1))] [] { n := fun j => if j = 0 then x else d, h := fun _ => w.heap, o := outw w } 2 1000 rfl rfl rfl trivial (by simp [SV.den, IE.den, NE.den]) ?_
  conv => arg 7; reduce
  simp only [VC.den, IE.den, NE.den, SV.den, HE.den, WS.den, List.map_cons, List.map_nil, Int.cast_ofNat_Int, reduceIte, Nat.reduceEqDiff, Env.setE, Env.setH, Env.setI]
  intro w1 hw1 ho1
  refine (cdepth_gen d hd _).mono ?_
  rintro e1 v1 ⟨rfl, hx1, hp1⟩
  rw [hw1] at hx1
  refine ⟨hp1.trans ho1, hx1, ?_⟩
  refine ⟨_, rfl, ?_⟩
  intro w2 hw2 ho2
  refine (turned_gen x d hx hd _).mono ?_
  rintro e2 v2 ⟨rfl, hx2, hp2⟩
  rw [hw2] at hx2
  refine ⟨hp2.trans ho2, hx2, ?_⟩
  have h1 := rvd_lt x (d := d) (by omega)
  have h2 : 2 ^ d ≤ 2 ^ 16 := Nat.pow_le_pow_right (by decide) hd
  refine ⟨_, rfl, ?_⟩
  rw [show ((rv x / 2 ^ (64 - d) : Nat) : Int) + 1 = ((rv x / 2 ^ (64 - d) + 1 : Nat) : Int) by omega, wrap64, Nat.mod_eq_of_lt (by omega)]
  intro w3 hw3 ho3
  refine (turned_gen (rv x / 2 ^ (64 - d) + 1) d (by omega) hd _).mono ?_
  rintro e3 v3 ⟨rfl, hx3, hp3⟩
  rw [hw3] at hx3
  refine ⟨hp3.trans ho3, hx3, ?_⟩
  refine ⟨_, rfl, ?_⟩
  exact (fun hf wr hwr hor => ⟨rfl, by rw [hwr]; exact hf.none, hor⟩)
end Go.Proofs.YtkcjhabbgaaknaaGreat
