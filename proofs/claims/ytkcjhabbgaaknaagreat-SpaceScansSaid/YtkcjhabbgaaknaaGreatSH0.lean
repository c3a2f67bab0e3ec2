/- Numbers that hold many small numbers, side by side: sums, products and bits of all of them at once. -/
namespace Go.Proofs.YtkcjhabbgaaknaaGreat
set_option maxRecDepth 100000
namespace HS
/-- So many numbers, w bits each. -/
def pk (w : Nat) (f : Nat → Nat) : Nat → Nat
  | 0 => 0
  | n+1 => pk w f n + f n * 2 ^ (w * n)
theorem pk_lt {w : Nat} {f : Nat → Nat} : ∀ {N : Nat}, (∀ i, i < N → f i < 2 ^ w) → pk w f N < 2 ^ (w * N)
  | 0, _ => by simp [pk]
  | n+1, h => by
    have h1 := pk_lt (N := n) fun i hi => h i (by omega)
    have h2 := h n (by omega)
    have h3 : f n * 2 ^ (w * n) + 2 ^ (w * n) ≤ 2 ^ w * 2 ^ (w * n) := by
      have := Nat.mul_le_mul_right (2 ^ (w * n)) (Nat.succ_le_of_lt h2)
      rw [Nat.succ_mul] at this
      exact this
    show pk w f n + f n * 2 ^ (w * n) < 2 ^ (w * (n + 1))
    rw [Nat.mul_succ, Nat.pow_add, Nat.mul_comm (2 ^ (w * n))]
    omega
theorem pk_bit {w : Nat} (hw : 0 < w) {f : Nat → Nat} : ∀ {N : Nat}, (∀ i, i < N → f i < 2 ^ w) → ∀ t, (pk w f N).testBit t = (decide (t < w * N) && (f (t / w)).testBit (t % w))
  | 0, _, t => by simp [pk]
  | n+1, h, t => by
    have h1 := pk_bit hw (N := n) fun i hi => h i (by omega)
    have hl := pk_lt (w := w) (N := n) fun i hi => h i (by omega)
    show (pk w f n + f n * 2 ^ (w * n)).testBit t = _
    rw [Nat.add_comm, Nat.mul_comm (f n), Nat.testBit_two_pow_mul_add _ hl]
    by_cases c : t < w * n
    · rw [if_pos c, h1, decide_eq_true c, decide_eq_true (Nat.lt_of_lt_of_le c (Nat.mul_le_mul_left _ (by omega)))]
    · rw [if_neg c]
      by_cases c2 : t < w * (n + 1)
      · have e : t / w = n := by
          rw [Nat.div_eq_iff hw]
          rw [Nat.mul_succ] at c2
          rw [Nat.mul_comm n w]
          omega
        have e2 : t % w = t - w * n := by
          rw [Nat.mod_eq_sub_mul_div, e]
        rw [decide_eq_true c2, e, e2, Bool.true_and]
      · rw [decide_eq_false c2, Bool.false_and]
        refine Nat.testBit_lt_two_pow (Nat.lt_of_lt_of_le (h n (by omega)) (Nat.pow_le_pow_right (by decide) ?_))
        rw [Nat.mul_succ] at c2
        omega
theorem pk_add {w : Nat} {f g : Nat → Nat} : ∀ N, pk w f N + pk w g N = pk w (fun i => f i + g i) N
  | 0 => rfl
  | n+1 => by
    show pk w f n + f n * 2 ^ (w * n) + (pk w g n + g n * 2 ^ (w * n)) = pk w (fun i => f i + g i) n + (f n + g n) * 2 ^ (w * n)
    rw [← pk_add n, Nat.add_mul]
    omega
theorem pk_mul {w : Nat} {f : Nat → Nat} (c : Nat) : ∀ N, pk w f N * c = pk w (fun i => f i * c) N
  | 0 => Nat.zero_mul _
  | n+1 => by
    show (pk w f n + f n * 2 ^ (w * n)) * c = pk w (fun i => f i * c) n + f n * c * 2 ^ (w * n)
    rw [← pk_mul c n, Nat.add_mul, Nat.mul_right_comm]
theorem pk_congr {w : Nat} {f g : Nat → Nat} : ∀ {N}, (∀ i, i < N → f i = g i) → pk w f N = pk w g N
  | 0, _ => rfl
  | n+1, h => by
    show pk w f n + f n * 2 ^ (w * n) = pk w g n + g n * 2 ^ (w * n)
    rw [pk_congr (N := n) fun i hi => h i (by omega), h n (by omega)]
theorem pk_app {w : Nat} {f : Nat → Nat} (m : Nat) : ∀ n, pk w f (m + n) = pk w f m + pk w (fun i => f (m + i)) n * 2 ^ (w * m)
  | 0 => by simp [pk]
  | n+1 => by
    show pk w f (m + n) + f (m + n) * 2 ^ (w * (m + n)) = pk w f m + (pk w (fun i => f (m + i)) n + f (m + n) * 2 ^ (w * n)) * 2 ^ (w * m)
    rw [pk_app m n, Nat.add_mul, Nat.mul_assoc, ← Nat.pow_add, Nat.mul_add, Nat.add_comm (w * n)]
    omega
/-- X holds f's first N values. -/
structure Pk (w N X : Nat) (f : Nat → Nat) : Prop where
  eq : X = pk w f N
  lt : ∀ i, i < N → f i < 2 ^ w
variable {w N : Nat}
theorem Pk.bit {X : Nat} {f : Nat → Nat} (H : Pk w N X f) (hw : 0 < w) (t : Nat) : X.testBit t = (decide (t < w * N) && (f (t / w)).testBit (t % w)) := by
  rw [H.eq]; exact pk_bit hw H.lt t
theorem Pk.congr {X : Nat} {f g : Nat → Nat} (H : Pk w N X f) (h : ∀ i, i < N → f i = g i) : Pk w N X g :=
  ⟨by rw [H.eq, pk_congr h], fun i hi => by rw [← h i hi]; exact H.lt i hi⟩
theorem Pk.of_bit {X : Nat} {f : Nat → Nat} (hw : 0 < w) (hl : ∀ i, i < N → f i < 2 ^ w) (h : ∀ t, X.testBit t = (decide (t < w * N) && (f (t / w)).testBit (t % w))) : Pk w N X f :=
  ⟨Nat.eq_of_testBit_eq fun t => by rw [h, pk_bit hw hl], hl⟩
theorem Pk.add {X Y : Nat} {f g : Nat → Nat} (H : Pk w N X f) (K : Pk w N Y g) (h : ∀ i, i < N → f i + g i < 2 ^ w) : Pk w N (Nat.add X Y) (fun i => f i + g i) :=
  ⟨by rw [H.eq, K.eq]; exact pk_add N, h⟩
theorem Pk.mul {X : Nat} {f : Nat → Nat} (H : Pk w N X f) (c : Nat) (h : ∀ i, i < N → f i * c < 2 ^ w) : Pk w N (Nat.mul X c) (fun i => f i * c) :=
  ⟨by rw [H.eq]; exact pk_mul c N, h⟩
theorem Pk.mulo {o : Nat} (H : Pk w N o fun _ => 1) (c : Nat) (h : c < 2 ^ w) : Pk w N (Nat.mul c o) (fun _ => c) :=
  ⟨by rw [show Nat.mul c o = o * c from Nat.mul_comm c o, H.eq, pk_mul]; simp, fun _ _ => h⟩
theorem Pk.sub {X o : Nat} {f : Nat → Nat} (Ho : Pk w N o fun _ => 1) (H : Pk w N X f) (c : Nat) (hc : c < 2 ^ w) (h : ∀ i, i < N → f i ≤ c) : Pk w N (Nat.sub (Nat.mul c o) X) (fun i => c - f i) :=
  ⟨by
    have e : pk w (fun i => c - f i) N + pk w f N = pk w (fun _ => c) N := by
      rw [pk_add]; exact pk_congr fun i hi => by have := h i hi; omega
    rw [(Ho.mulo c hc).eq, H.eq, ← e]
    exact Nat.add_sub_cancel _ _, fun i _ => by omega⟩
theorem Pk.land {X Y : Nat} {f g : Nat → Nat} (hw : 0 < w) (H : Pk w N X f) (K : Pk w N Y g) : Pk w N (Nat.land X Y) (fun i => f i &&& g i) :=
  Pk.of_bit hw (fun i hi => Nat.and_lt_two_pow _ (K.lt i hi)) fun t => by
    show (X &&& Y).testBit t = _
    rw [Nat.testBit_and, H.bit hw, K.bit hw, Nat.testBit_and]
    cases decide (t < w * N) <;> simp
theorem Pk.lor {X Y : Nat} {f g : Nat → Nat} (hw : 0 < w) (H : Pk w N X f) (K : Pk w N Y g) : Pk w N (Nat.lor X Y) (fun i => f i ||| g i) :=
  Pk.of_bit hw (fun i hi => Nat.or_lt_two_pow (H.lt i hi) (K.lt i hi)) fun t => by
    show (X ||| Y).testBit t = _
    rw [Nat.testBit_or, H.bit hw, K.bit hw, Nat.testBit_or]
    cases decide (t < w * N) <;> simp
theorem Pk.xor {X Y : Nat} {f g : Nat → Nat} (hw : 0 < w) (H : Pk w N X f) (K : Pk w N Y g) : Pk w N (Nat.xor X Y) (fun i => f i ^^^ g i) :=
  Pk.of_bit hw (fun i hi => Nat.xor_lt_two_pow (H.lt i hi) (K.lt i hi)) fun t => by
    show (X ^^^ Y).testBit t = _
    rw [Nat.testBit_xor, H.bit hw, K.bit hw, Nat.testBit_xor]
    cases decide (t < w * N) <;> simp
/-- Some bits of each. -/
theorem Pk.shr {X o : Nat} {f : Nat → Nat} (hw : 0 < w) (Ho : Pk w N o fun _ => 1) (H : Pk w N X f) (k c m : Nat) (hc : c = 2 ^ m - 1) (hm : m + k ≤ w) : Pk w N (Nat.land (Nat.shiftRight X k) (Nat.mul c o)) (fun i => (f i >>> k) &&& c) := by
  have hp := Nat.two_pow_pos m
  have hcl : c < 2 ^ w := by
    have := Nat.pow_le_pow_right (n := 2) (by decide) (show m ≤ w by omega)
    omega
  refine Pk.of_bit hw (fun i _ => Nat.and_lt_two_pow _ hcl) fun t => ?_
  show ((X >>> k) &&& (Nat.mul c o)).testBit t = _
  rw [Nat.testBit_and, Nat.testBit_shiftRight, H.bit hw, (Ho.mulo c hcl).bit hw, Nat.testBit_and, Nat.testBit_shiftRight, hc, Nat.testBit_two_pow_sub_one]
  by_cases h1 : t % w < m
  · have h2 : t % w + k < w := by omega
    have e : (k + t) / w = t / w := by
      have := Nat.div_add_mod t w
      rw [show k + t = (t % w + k) + w * (t / w) by omega, Nat.add_mul_div_left _ _ hw, Nat.div_eq_of_lt h2, Nat.zero_add]
    have e2 : (k + t) % w = k + t % w := by
      have := Nat.div_add_mod t w
      rw [show k + t = (t % w + k) + w * (t / w) by omega, Nat.add_mul_mod_self_left, Nat.mod_eq_of_lt h2, Nat.add_comm]
    rw [decide_eq_true h1, e, e2]
    by_cases h3 : t < w * N
    · have : t / w < N := Nat.div_lt_of_lt_mul h3
      have h4 : k + t < w * N := by
        have h5 := Nat.div_add_mod t w
        have h6 : w * (t / w) + w ≤ w * N := by
          rw [← Nat.mul_succ]; exact Nat.mul_le_mul_left _ this
        omega
      rw [decide_eq_true h3, decide_eq_true h4]; simp
    · rw [decide_eq_false h3]; simp
  · rw [decide_eq_false h1]; simp
theorem Pk.low {X o : Nat} {f : Nat → Nat} (hw : 0 < w) (Ho : Pk w N o fun _ => 1) (H : Pk w N X f) (c : Nat) (hc : c < 2 ^ w) : Pk w N (Nat.land X (Nat.mul c o)) (fun i => f i &&& c) :=
  H.land hw (Ho.mulo c hc)
/-- Ones, and the numbers from 0 on. -/
def ones (w : Nat) : Nat → Nat
  | 0 => 1
  | k+1 => Nat.add (ones w k) (Nat.shiftLeft (ones w k) (Nat.mul w (Nat.pow 2 k)))
def iota (w : Nat) : Nat → Nat
  | 0 => 0
  | k+1 => Nat.add (iota w k) (Nat.shiftLeft (Nat.add (iota w k) (Nat.mul (Nat.pow 2 k) (ones w k))) (Nat.mul w (Nat.pow 2 k)))
theorem ones_pk (hw : 0 < w) : ∀ k, Pk w (2 ^ k) (ones w k) fun _ => 1
  | 0 => ⟨by simp [ones, pk], fun _ _ => Nat.one_lt_two_pow (by omega)⟩
  | k+1 => by
    refine ⟨?_, fun _ _ => Nat.one_lt_two_pow (by omega)⟩
    show ones w k + (ones w k) <<< (w * 2 ^ k) = _
    rw [show 2 ^ (k + 1) = 2 ^ k + 2 ^ k by rw [Nat.pow_succ]; omega, pk_app, Nat.shiftLeft_eq, ← (ones_pk hw k).eq]
theorem iota_pk (hw : 0 < w) : ∀ k, k ≤ w → Pk w (2 ^ k) (iota w k) fun i => i
  | 0, _ => ⟨by simp [iota, pk], fun i hi => by rw [Nat.pow_zero] at hi; rw [show i = 0 by omega]; exact Nat.two_pow_pos _⟩
  | k+1, hk => by
    refine ⟨?_, fun i hi => Nat.lt_of_lt_of_le hi (Nat.pow_le_pow_right (by decide) hk)⟩
    show iota w k + (iota w k + 2 ^ k * ones w k) <<< (w * 2 ^ k) = _
    rw [show 2 ^ (k + 1) = 2 ^ k + 2 ^ k by rw [Nat.pow_succ]; omega, pk_app, Nat.shiftLeft_eq, ← (iota_pk hw k (by omega)).eq]
    have e : pk w (fun i => 2 ^ k + i) (2 ^ k) = iota w k + 2 ^ k * ones w k := by
      rw [(iota_pk hw k (by omega)).eq, (ones_pk hw k).eq, Nat.mul_comm, pk_mul, pk_add]
      exact pk_congr fun i _ => by omega
    rw [e]
/-- Four numbers of 16 bits in one of 64. -/
def comb (x0 x1 x2 x3 : Nat) : Nat := Nat.add (Nat.add x0 (Nat.mul x1 65536)) (Nat.add (Nat.mul x2 4294967296) (Nat.mul x3 281474976710656))
def one4 (f0 f1 f2 f3 : Nat → Nat) (i : Nat) : Nat := if i % 4 = 0 then f0 (i / 4) else if i % 4 = 1 then f1 (i / 4) else if i % 4 = 2 then f2 (i / 4) else f3 (i / 4)
theorem comb_pk {x0 x1 x2 x3 : Nat} {f0 f1 f2 f3 : Nat → Nat} (H0 : Pk 64 N x0 f0) (H1 : Pk 64 N x1 f1) (H2 : Pk 64 N x2 f2) (H3 : Pk 64 N x3 f3)
    (h0 : ∀ i, i < N → f0 i < 2 ^ 16) (h1 : ∀ i, i < N → f1 i < 2 ^ 16) (h2 : ∀ i, i < N → f2 i < 2 ^ 16) (h3 : ∀ i, i < N → f3 i < 2 ^ 16) :
    Pk 16 (4 * N) (comb x0 x1 x2 x3) (one4 f0 f1 f2 f3) := by
  refine ⟨?_, ?_⟩
  · show x0 + x1 * 65536 + (x2 * 4294967296 + x3 * 281474976710656) = _
    rw [H0.eq, H1.eq, H2.eq, H3.eq]
    clear H0 H1 H2 H3 h0 h1 h2 h3
    induction N with
    | zero => simp [pk]
    | succ n ih =>
      have e : pk 16 (one4 f0 f1 f2 f3) (4 * (n + 1)) = pk 16 (one4 f0 f1 f2 f3) (4 * n) + f0 n * 2 ^ (64 * n) + f1 n * (2 ^ (64 * n) * 65536) + f2 n * (2 ^ (64 * n) * 4294967296) + f3 n * (2 ^ (64 * n) * 281474976710656) := by
        have a0 : one4 f0 f1 f2 f3 (4 * n) = f0 n := by
          unfold one4; rw [if_pos (by omega), show 4 * n / 4 = n by omega]
        have a1 : one4 f0 f1 f2 f3 (4 * n + 1) = f1 n := by
          unfold one4; rw [if_neg (by omega), if_pos (by omega), show (4 * n + 1) / 4 = n by omega]
        have a2 : one4 f0 f1 f2 f3 (4 * n + 2) = f2 n := by
          unfold one4; rw [if_neg (by omega), if_neg (by omega), if_pos (by omega), show (4 * n + 2) / 4 = n by omega]
        have a3 : one4 f0 f1 f2 f3 (4 * n + 3) = f3 n := by
          unfold one4; rw [if_neg (by omega), if_neg (by omega), if_neg (by omega), show (4 * n + 3) / 4 = n by omega]
        have p1 : 2 ^ (64 * n) * 65536 = 2 ^ (16 * (4 * n + 1)) := by
          rw [show 16 * (4 * n + 1) = 64 * n + 16 by omega, Nat.pow_add]
        have p2 : 2 ^ (64 * n) * 4294967296 = 2 ^ (16 * (4 * n + 2)) := by
          rw [show 16 * (4 * n + 2) = 64 * n + 32 by omega, Nat.pow_add]
        have p3 : 2 ^ (64 * n) * 281474976710656 = 2 ^ (16 * (4 * n + 3)) := by
          rw [show 16 * (4 * n + 3) = 64 * n + 48 by omega, Nat.pow_add]
        rw [p1, p2, p3, show 4 * (n + 1) = 4 * n + 1 + 1 + 1 + 1 by omega]
        show pk 16 _ (4 * n) + one4 f0 f1 f2 f3 (4 * n) * 2 ^ (16 * (4 * n)) + one4 f0 f1 f2 f3 (4 * n + 1) * 2 ^ (16 * (4 * n + 1)) + one4 f0 f1 f2 f3 (4 * n + 2) * 2 ^ (16 * (4 * n + 2)) + one4 f0 f1 f2 f3 (4 * n + 3) * 2 ^ (16 * (4 * n + 3)) = _
        rw [a0, a1, a2, a3, show 16 * (4 * n) = 64 * n by omega]
      rw [e, ← ih]
      show pk 64 f0 n + f0 n * 2 ^ (64 * n) + (pk 64 f1 n + f1 n * 2 ^ (64 * n)) * 65536 + ((pk 64 f2 n + f2 n * 2 ^ (64 * n)) * 4294967296 + (pk 64 f3 n + f3 n * 2 ^ (64 * n)) * 281474976710656) = _
      simp only [Nat.add_mul, Nat.mul_assoc]
      omega
  · intro i hi
    unfold one4
    split
    · exact h0 _ (by omega)
    · split
      · exact h1 _ (by omega)
      · split
        · exact h2 _ (by omega)
        · exact h3 _ (by omega)
end HS
end Go.Proofs.YtkcjhabbgaaknaaGreat
/- Which of 32 neighbours may agree in 14 bits: a test that many cases take at once, and what it says of each. -/
namespace Go.Proofs.YtkcjhabbgaaknaaGreat
set_option maxRecDepth 100000
namespace HS
/-- What is told of a neighbour: 14 low bits and which carries there were; 14 bits from the 29th on; what lies below these. -/
structure U where
  a : Nat
  hi : Nat
  nhi : Nat
  lo : Nat
  nlo : Nat
def sFin (x t b1 b2 : Nat) : Nat := (((4 - (((((b1 + 16383) &&& (b2 + 16383)) ||| x) >>> 14) &&& 3)) >>> 2) &&& 1) ||| (((t ^^^ (t + 1)) >>> 15) &&& 1)
def sBad (x d n : Nat) : Nat := ((x ^^^ d) ^^^ (d * 2)) &&& n
def sNX (x : Nat) : Nat := 16383 ^^^ (((x &&& 16383) * 2) &&& 16383)
def sE3 (x t n d : Nat) : Nat := sFin x t (sBad x d n) (sBad x (d + 1) n)
def sE2 (x t hu nhv : Nat) : Nat := sE3 x t (sNX x) (((hu + nhv) + ((t >>> 15) &&& 1)) &&& 16383)
/-- May both agree? -/
def sE (u v : U) : Nat := sE2 (u.a ^^^ v.a) (u.lo + v.nlo) u.hi v.nhi
def sQ (p h : Nat) : Nat := (p * 0x1b97f4a7c15 + (h &&& 2047) * 0x41500000000) &&& 0x7ffffffffff
def sU3 (a hi lo : Nat) : U := ⟨a, hi, 16383 - hi, lo, 32767 - lo⟩
def sU2 (l h q : Nat) : U := sU3 (((q &&& 16383) + ((l >>> 14) &&& 1) * 16384) + ((h >>> 14) &&& 1) * 32768) ((q >>> 29) &&& 16383) ((q >>> 14) &&& 32767)
def sU1 (l h : Nat) : U := sU2 l h (sQ ((l ^^^ h) &&& 16383) h)
def sU (A B u : Nat) : U := sU1 (B + 435 * u) (A + 256 * u)
/- The same, for many. -/
structure W where
  a : Nat
  hi : Nat
  lo : Nat
def wQ (o L H Q : Nat) : W :=
  W.mk (Nat.add (Nat.add (Nat.land Q (Nat.mul 16383 o)) (Nat.mul (Nat.land (Nat.shiftRight L 14) (Nat.mul 1 o)) 16384)) (Nat.mul (Nat.land (Nat.shiftRight H 14) (Nat.mul 1 o)) 32768))
    (Nat.land (Nat.shiftRight Q 29) (Nat.mul 16383 o)) (Nat.land (Nat.shiftRight Q 14) (Nat.mul 32767 o))
def wP (o L H p : Nat) : W := wQ o L H (Nat.land (Nat.add (Nat.mul p 0x1b97f4a7c15) (Nat.mul (Nat.land H (Nat.mul 2047 o)) 0x41500000000)) (Nat.mul 0x7ffffffffff o))
def wLH (o L H : Nat) : W := wP o L H (Nat.land (Nat.xor L H) (Nat.mul 16383 o))
def wide (o PA PB c u : Nat) : W := wLH o (Nat.add PB (Nat.mul (Nat.mul 435 u) o)) (Nat.add PA (Nat.mul (Nat.add c (Nat.mul 256 u)) o))
def mkU (o : Nat) (a hi lo : Nat) : U := ⟨a, hi, Nat.sub (Nat.mul 16383 o) hi, lo, Nat.sub (Nat.mul 32767 o) lo⟩
def mk4 (o : Nat) (w0 w1 w2 w3 : W) : U := mkU o (comb w0.a w1.a w2.a w3.a) (comb w0.hi w1.hi w2.hi w3.hi) (comb w0.lo w1.lo w2.lo w3.lo)
def unit (o o6 PA PB c u : Nat) : U := mk4 o (wide o6 PA PB c u) (wide o6 PA PB (Nat.add c 4096) u) (wide o6 PA PB (Nat.add c 8192) u) (wide o6 PA PB (Nat.add c 12288) u)
def eFin (o X t b1 b2 : Nat) : Nat :=
  Nat.lor (Nat.land (Nat.shiftRight (Nat.sub (Nat.mul 4 o) (Nat.land (Nat.shiftRight (Nat.lor (Nat.land (Nat.add b1 (Nat.mul 16383 o)) (Nat.add b2 (Nat.mul 16383 o))) X) 14) (Nat.mul 3 o))) 2) (Nat.mul 1 o))
   (Nat.land (Nat.shiftRight (Nat.xor t (Nat.add t o)) 15) (Nat.mul 1 o))
def bad (X D n : Nat) : Nat := Nat.land (Nat.xor (Nat.xor X D) (Nat.mul D 2)) n
def e3 (o X t n D : Nat) : Nat := eFin o X t (bad X D n) (bad X (Nat.add D o) n)
def eNX (o X : Nat) : Nat := Nat.xor (Nat.mul 16383 o) (Nat.land (Nat.mul (Nat.land X (Nat.mul 16383 o)) 2) (Nat.mul 16383 o))
def e2 (o X t hu nhv : Nat) : Nat := e3 o X t (eNX o X) (Nat.land (Nat.add (Nat.add hu nhv) (Nat.land (Nat.shiftRight t 15) (Nat.mul 1 o))) (Nat.mul 16383 o))
def edge (o : Nat) (u v : U) : Nat := e2 o (Nat.xor u.a v.a) (Nat.add u.lo v.nlo) u.hi v.nhi
theorem and_le (a b : Nat) : a &&& b ≤ b := Nat.and_le_right
theorem eFin_pk {N o X t b1 b2 : Nat} {x t' d1 d2 : Nat → Nat} (Ho : Pk 16 N o fun _ => 1) (HX : Pk 16 N X x) (Ht : Pk 16 N t t') (H1 : Pk 16 N b1 d1) (H2 : Pk 16 N b2 d2)
    (ht : ∀ i, i < N → t' i + 1 < 2 ^ 16) (h1 : ∀ i, i < N → d1 i < 2 ^ 14) (h2 : ∀ i, i < N → d2 i < 2 ^ 14) : Pk 16 N (eFin o X t b1 b2) (fun i => sFin (x i) (t' i) (d1 i) (d2 i)) := by
  have p := Nat.lt_irrefl 0
  refine Pk.lor (by decide) ?_ (Pk.shr (by decide) Ho (Ht.xor (by decide) (Ht.add Ho ht)) 15 1 1 rfl (by decide))
  refine Pk.shr (by decide) Ho (Ho.sub (Pk.shr (by decide) Ho (Pk.lor (by decide) (Pk.land (by decide) (H1.add (Ho.mulo 16383 (by decide)) fun i hi => ?_) (H2.add (Ho.mulo 16383 (by decide)) fun i hi => ?_)) HX) 14 3 2 rfl (by decide)) 4 (by decide) fun i _ => ?_) 2 1 1 rfl (by decide)
  · have := h1 i hi; omega
  · have := h2 i hi; omega
  · exact Nat.le_trans (and_le _ _) (by decide)
theorem bad_pk {N X D n : Nat} {x d n' : Nat → Nat} (HX : Pk 16 N X x) (HD : Pk 16 N D d) (Hn : Pk 16 N n n') (hd : ∀ i, i < N → d i ≤ 2 ^ 14) : Pk 16 N (bad X D n) (fun i => sBad (x i) (d i) (n' i)) :=
  Pk.land (by decide) (Pk.xor (by decide) (HX.xor (by decide) HD) (HD.mul 2 fun i hi => by have := hd i hi; omega)) Hn
theorem eNX_pk {N o X : Nat} {x : Nat → Nat} (Ho : Pk 16 N o fun _ => 1) (HX : Pk 16 N X x) : Pk 16 N (eNX o X) (fun i => sNX (x i)) :=
  Pk.xor (by decide) (Ho.mulo 16383 (by decide)) (Pk.low (by decide) Ho ((Pk.low (by decide) Ho HX 16383 (by decide)).mul 2 fun i _ => by have := and_le (x i) 16383; omega) 16383 (by decide))
theorem sNX_lt (x : Nat) : sNX x < 2 ^ 14 := Nat.xor_lt_two_pow (by decide) (Nat.lt_of_le_of_lt (and_le _ _) (by decide))
theorem sBad_lt (x d n : Nat) (h : n < 2 ^ 14) : sBad x d n < 2 ^ 14 := Nat.and_lt_two_pow _ h
theorem e2_pk {N o X t hu nhv : Nat} {x t' h' g' : Nat → Nat} (Ho : Pk 16 N o fun _ => 1) (HX : Pk 16 N X x) (Ht : Pk 16 N t t') (H1 : Pk 16 N hu h') (H2 : Pk 16 N nhv g')
    (ht : ∀ i, i < N → t' i + 1 < 2 ^ 16) (h1 : ∀ i, i < N → h' i < 2 ^ 14) (h2 : ∀ i, i < N → g' i < 2 ^ 14) : Pk 16 N (e2 o X t hu nhv) (fun i => sE2 (x i) (t' i) (h' i) (g' i)) := by
  have Hn := eNX_pk Ho HX
  have HD : Pk 16 N _ fun i => ((h' i + g' i) + ((t' i >>> 15) &&& 1)) &&& 16383 :=
    Pk.low (by decide) Ho ((H1.add H2 fun i hi => by have := h1 i hi; have := h2 i hi; omega).add (Pk.shr (by decide) Ho Ht 15 1 1 rfl (by decide)) fun i hi => by
      have := h1 i hi; have := h2 i hi; have := and_le (t' i >>> 15) 1; omega) 16383 (by decide)
  refine eFin_pk Ho HX Ht (bad_pk HX HD Hn fun i hi => ?_) (bad_pk HX (HD.add Ho fun i hi => ?_) Hn fun i hi => ?_) ht (fun i _ => sBad_lt _ _ _ (sNX_lt _)) (fun i _ => sBad_lt _ _ _ (sNX_lt _))
  · have := and_le ((h' i + g' i) + ((t' i >>> 15) &&& 1)) 16383; omega
  · have := and_le ((h' i + g' i) + ((t' i >>> 15) &&& 1)) 16383; omega
  · have := and_le ((h' i + g' i) + ((t' i >>> 15) &&& 1)) 16383; omega
/-- So many neighbours' data. -/
structure PkU (N : Nat) (V : U) (f : Nat → U) : Prop where
  a : Pk 16 N V.a fun i => (f i).a
  hi : Pk 16 N V.hi fun i => (f i).hi
  nhi : Pk 16 N V.nhi fun i => (f i).nhi
  lo : Pk 16 N V.lo fun i => (f i).lo
  nlo : Pk 16 N V.nlo fun i => (f i).nlo
  hil : ∀ i, i < N → (f i).hi < 2 ^ 14
  nhil : ∀ i, i < N → (f i).nhi < 2 ^ 14
  lol : ∀ i, i < N → (f i).lo < 2 ^ 15
  nlol : ∀ i, i < N → (f i).nlo < 2 ^ 15
theorem edge_pk {N o : Nat} {u v : U} {f g : Nat → U} (Ho : Pk 16 N o fun _ => 1) (Hu : PkU N u f) (Hv : PkU N v g) : Pk 16 N (edge o u v) (fun i => sE (f i) (g i)) :=
  e2_pk Ho (Hu.a.xor (by decide) Hv.a) (Hu.lo.add Hv.nlo fun i hi => by have := Hu.lol i hi; have := Hv.nlol i hi; omega) Hu.hi Hv.nhi
    (fun i hi => by have := Hu.lol i hi; have := Hv.nlol i hi; omega) Hu.hil Hv.nhil
structure PkW (N : Nat) (V : W) (f : Nat → U) : Prop where
  a : Pk 64 N V.a fun i => (f i).a
  hi : Pk 64 N V.hi fun i => (f i).hi
  lo : Pk 64 N V.lo fun i => (f i).lo
theorem sU_a (A B u : Nat) : (sU A B u).a < 2 ^ 16 := by
  show (_ &&& 16383) + (_ &&& 1) * 16384 + (_ &&& 1) * 32768 < _
  have h1 := and_le (sQ (((B + 435 * u) ^^^ (A + 256 * u)) &&& 16383) (A + 256 * u)) 16383
  have h2 := and_le ((B + 435 * u) >>> 14) 1
  have h3 := and_le ((A + 256 * u) >>> 14) 1
  omega
theorem sU_hi (A B u : Nat) : (sU A B u).hi < 2 ^ 14 := Nat.lt_of_le_of_lt (and_le _ _) (by decide)
theorem sU_lo (A B u : Nat) : (sU A B u).lo < 2 ^ 15 := Nat.lt_of_le_of_lt (and_le _ _) (by decide)
theorem wide_pk {N o PA PB c u : Nat} {A B : Nat → Nat} (Ho : Pk 64 N o fun _ => 1) (HA : Pk 64 N PA A) (HB : Pk 64 N PB B) (hA : ∀ i, i < N → A i < 2 ^ 16) (hB : ∀ i, i < N → B i < 2 ^ 16) (hc : c < 2 ^ 16) (hu : u < 2 ^ 16) :
    PkW N (wide o PA PB c u) (fun i => sU (A i + c) (B i) u) := by
  have HL : Pk 64 N (Nat.add PB (Nat.mul (Nat.mul 435 u) o)) fun i => B i + 435 * u :=
    HB.add (Ho.mulo (435 * u) (by omega)) fun i hi => by have := hB i hi; omega
  have HH : Pk 64 N (Nat.add PA (Nat.mul (Nat.add c (Nat.mul 256 u)) o)) fun i => A i + c + 256 * u :=
    (HA.add (Ho.mulo (c + 256 * u) (by omega)) fun i hi => by have := hA i hi; omega).congr fun i _ => by omega
  have HQ : Pk 64 N _ fun i => sQ (((B i + 435 * u) ^^^ (A i + c + 256 * u)) &&& 16383) (A i + c + 256 * u) :=
    Pk.low (by decide) Ho (((Pk.low (by decide) Ho (HL.xor (by decide) HH) 16383 (by decide)).mul 0x1b97f4a7c15 fun i _ => by
        have := and_le ((B i + 435 * u) ^^^ (A i + c + 256 * u)) 16383; omega).add ((Pk.low (by decide) Ho HH 2047 (by decide)).mul 0x41500000000 fun i _ => by
        have := and_le (A i + c + 256 * u) 2047; omega) fun i _ => by
        have := and_le ((B i + 435 * u) ^^^ (A i + c + 256 * u)) 16383; have := and_le (A i + c + 256 * u) 2047; omega) 0x7ffffffffff (by decide)
  exact ⟨((Pk.low (by decide) Ho HQ 16383 (by decide)).add ((Pk.shr (by decide) Ho HL 14 1 1 rfl (by decide)).mul 16384 fun i _ => by
      have := and_le ((B i + 435 * u) >>> 14) 1; omega) fun i _ => by
      have := and_le ((B i + 435 * u) >>> 14) 1
      have := and_le (sQ (((B i + 435 * u) ^^^ (A i + c + 256 * u)) &&& 16383) (A i + c + 256 * u)) 16383
      omega).add ((Pk.shr (by decide) Ho HH 14 1 1 rfl (by decide)).mul 32768 fun i _ => by
      have := and_le ((A i + c + 256 * u) >>> 14) 1; omega) fun i _ => by
      have := and_le ((B i + 435 * u) >>> 14) 1
      have := and_le ((A i + c + 256 * u) >>> 14) 1
      have := and_le (sQ (((B i + 435 * u) ^^^ (A i + c + 256 * u)) &&& 16383) (A i + c + 256 * u)) 16383
      omega,
    Pk.shr (by decide) Ho HQ 29 16383 14 rfl (by decide), Pk.shr (by decide) Ho HQ 14 32767 15 rfl (by decide)⟩
theorem one4_all (F : Nat → Nat → Nat) (i : Nat) : one4 (F 0) (F 1) (F 2) (F 3) i = F (i % 4) (i / 4) := by
  unfold one4
  split
  · rename_i h; rw [h]
  · split
    · rename_i h; rw [h]
    · split
      · rename_i h; rw [h]
      · rw [show i % 4 = 3 by omega]
/-- The case at a number: the 14 low bits of both halves. -/
def caseA (c i : Nat) : Nat := i / 4 / 512 + (c + i % 4 * 4096)
def caseB (i : Nat) : Nat := i / 4 % 512 * 32
theorem unit_pk {K c o o6 PA PB u : Nat} (hK : K ≤ 13) (Ho : Pk 16 (4 * 2 ^ K) o fun _ => 1) (Ho6 : Pk 64 (2 ^ K) o6 fun _ => 1) (HA : Pk 64 (2 ^ K) PA fun i => i / 512) (HB : Pk 64 (2 ^ K) PB fun i => i % 512 * 32) (hc : c < 4096) (hu : u < 32) :
    PkU (4 * 2 ^ K) (unit o o6 PA PB c u) (fun i => sU (caseA c i) (caseB i) u) := by
  have hK2 : 2 ^ K ≤ 2 ^ 13 := Nat.pow_le_pow_right (by decide) hK
  have W0 := wide_pk (c := c) (u := u) Ho6 HA HB (fun i hi => by omega) (fun i hi => by omega) (by omega) (by omega)
  have W1 := wide_pk (c := c + 4096) (u := u) Ho6 HA HB (fun i hi => by omega) (fun i hi => by omega) (by omega) (by omega)
  have W2 := wide_pk (c := c + 8192) (u := u) Ho6 HA HB (fun i hi => by omega) (fun i hi => by omega) (by omega) (by omega)
  have W3 := wide_pk (c := c + 12288) (u := u) Ho6 HA HB (fun i hi => by omega) (fun i hi => by omega) (by omega) (by omega)
  have Pa := (comb_pk W0.a W1.a W2.a W3.a (fun i _ => sU_a _ _ _) (fun i _ => sU_a _ _ _) (fun i _ => sU_a _ _ _) (fun i _ => sU_a _ _ _)).congr (g := fun i => (sU (caseA c i) (caseB i) u).a) fun i _ => by
    rw [show caseA c i = i / 4 / 512 + (c + i % 4 * 4096) from rfl, show caseB i = i / 4 % 512 * 32 from rfl]
    exact one4_all (fun s m => (sU (m / 512 + (c + s * 4096)) (m % 512 * 32) u).a) i
  have l14 : ∀ A B u, (sU A B u).hi < 2 ^ 16 := fun A B u => Nat.lt_trans (sU_hi A B u) (by decide)
  have l15 : ∀ A B u, (sU A B u).lo < 2 ^ 16 := fun A B u => Nat.lt_trans (sU_lo A B u) (by decide)
  have Ph := (comb_pk W0.hi W1.hi W2.hi W3.hi (fun i _ => l14 _ _ _) (fun i _ => l14 _ _ _) (fun i _ => l14 _ _ _) (fun i _ => l14 _ _ _)).congr (g := fun i => (sU (caseA c i) (caseB i) u).hi) fun i _ => by
    rw [show caseA c i = i / 4 / 512 + (c + i % 4 * 4096) from rfl, show caseB i = i / 4 % 512 * 32 from rfl]
    exact one4_all (fun s m => (sU (m / 512 + (c + s * 4096)) (m % 512 * 32) u).hi) i
  have Pl := (comb_pk W0.lo W1.lo W2.lo W3.lo (fun i _ => l15 _ _ _) (fun i _ => l15 _ _ _) (fun i _ => l15 _ _ _) (fun i _ => l15 _ _ _)).congr (g := fun i => (sU (caseA c i) (caseB i) u).lo) fun i _ => by
    rw [show caseA c i = i / 4 / 512 + (c + i % 4 * 4096) from rfl, show caseB i = i / 4 % 512 * 32 from rfl]
    exact one4_all (fun s m => (sU (m / 512 + (c + s * 4096)) (m % 512 * 32) u).lo) i
  have b1 : ∀ i, i < 4 * 2 ^ K → (sU (caseA c i) (caseB i) u).hi < 2 ^ 14 := fun i _ => sU_hi _ _ _
  have b2 : ∀ i, i < 4 * 2 ^ K → (sU (caseA c i) (caseB i) u).lo < 2 ^ 15 := fun i _ => sU_lo _ _ _
  exact ⟨Pa, Ph, Ho.sub Ph 16383 (by decide) fun i hi => by have := b1 i hi; omega, Pl, Ho.sub Pl 32767 (by decide) fun i hi => by have := b2 i hi; omega,
    b1, fun i _ => Nat.lt_of_le_of_lt (Nat.sub_le _ _) (by decide), b2, fun i _ => Nat.lt_of_le_of_lt (Nat.sub_le _ _) (by decide)⟩
end HS
end Go.Proofs.YtkcjhabbgaaknaaGreat
/- No four of one kind: a search through many cases at once, and what it says of each of them. -/
namespace Go.Proofs.YtkcjhabbgaaknaaGreat
set_option maxRecDepth 100000
namespace HS
def edges (o : Nat) (u : U) : List U → List Nat
  | [] => []
  | v::vs => edge o u v :: edges o u vs
def rows (o : Nat) : List U → List (List Nat)
  | [] => []
  | u::us => edges o u us :: rows o us
def zipAnd (c : Nat) : List Nat → List Nat → List Nat
  | x::xs, e::es => Nat.land (Nat.land x c) e :: zipAnd c xs es
  | _, _ => []
def step (f : List Nat → List (List Nat) → Bool) : List Nat → List (List Nat) → Bool
  | c::cs, r::rs => (bif Nat.beq c 0 then true else f (zipAnd c cs r) rs) && step f cs rs
  | _, _ => true
def free : Nat → List Nat → List (List Nat) → Bool
  | 0 => fun _ _ => false
  | d+1 => step (free d)
def units (o o6 PA PB c : Nat) : List Nat → List U
  | [] => []
  | n::ns => unit o o6 PA PB c n :: units o o6 PA PB c ns
def rep (x : Nat) : List Nat → List Nat
  | [] => []
  | _::ns => x :: rep x ns
def l32 : List Nat := [0, 1, 2, 3, 4, 5, 6, 7, 8, 9, 10, 11, 12, 13, 14, 15, 16, 17, 18, 19, 20, 21, 22, 23, 24, 25, 26, 27, 28, 29, 30, 31]
def bads : List Nat → Nat
  | [] => 0
  | n::ns => Nat.lor (Nat.pow 2 (Nat.mul 16 n)) (bads ns)
def chk2 (good : Nat) (us : List U) (o : Nat) : Bool := free 4 (rep good l32) (rows o us)
/-- 4 * 2 ^ K cases: none has four that may all agree, but those that are named. -/
def chk (K c : Nat) (bad : List Nat) : Bool :=
  (fun o o6 i => (fun PA PB => chk2 (Nat.xor o (Nat.land o (bads bad))) (units o o6 PA PB c l32) o) (Nat.land (Nat.shiftRight i 9) (Nat.mul 31 o6)) (Nat.mul (Nat.land i (Nat.mul 511 o6)) 32))
    (ones 16 (Nat.add K 2)) (ones 64 K) (iota 64 K)
/- The same of one case. -/
def rowsB {α : Type} (e : α → α → Bool) : List α → List (List Bool)
  | [] => []
  | u::us => us.map (e u) :: rowsB e us
def zipAndB (c : Bool) : List Bool → List Bool → List Bool
  | x::xs, e::es => ((x && c) && e) :: zipAndB c xs es
  | _, _ => []
def stepB (f : List Bool → List (List Bool) → Bool) : List Bool → List (List Bool) → Bool
  | c::cs, r::rs => (!c || f (zipAndB c cs r) rs) && stepB f cs rs
  | _, _ => true
def freeB : Nat → List Bool → List (List Bool) → Bool
  | 0 => fun _ _ => false
  | d+1 => stepB (freeB d)
theorem zip_bit (t c : Nat) : ∀ xs es : List Nat, (zipAnd c xs es).map (·.testBit t) = zipAndB (c.testBit t) (xs.map (·.testBit t)) (es.map (·.testBit t))
  | [], _ => by simp [zipAnd, zipAndB]
  | _::_, [] => by simp [zipAnd, zipAndB]
  | x::xs, e::es => by
    show ((x &&& c) &&& e).testBit t :: (zipAnd c xs es).map (·.testBit t) = _
    rw [zip_bit t c xs es, Nat.testBit_and, Nat.testBit_and]
    rfl
theorem step_bit {f : List Nat → List (List Nat) → Bool} {g : List Bool → List (List Bool) → Bool} (t : Nat) (h : ∀ cs rs, f cs rs = true → g (cs.map (·.testBit t)) (rs.map (·.map (·.testBit t))) = true) :
    ∀ cs rs, step f cs rs = true → stepB g (cs.map (·.testBit t)) (rs.map (·.map (·.testBit t))) = true
  | [], _, _ => by simp [stepB]
  | _::_, [], _ => by simp [stepB]
  | c::cs, r::rs, H => by
    have H : ((bif Nat.beq c 0 then true else f (zipAnd c cs r) rs) && step f cs rs) = true := H
    rw [Bool.and_eq_true] at H
    show ((!(c.testBit t) || g (zipAndB (c.testBit t) (cs.map (·.testBit t)) (r.map (·.testBit t))) (rs.map (·.map (·.testBit t)))) && stepB g _ _) = true
    rw [Bool.and_eq_true]
    refine ⟨?_, step_bit t h cs rs H.2⟩
    by_cases hc : c = 0
    · rw [hc, Nat.zero_testBit]; rfl
    · have h1 := H.1
      rw [show Nat.beq c 0 = false from by cases c with | zero => exact absurd rfl hc | succ n => rfl] at h1
      have h2 := h _ _ h1
      rw [zip_bit] at h2
      rw [h2, Bool.or_true]
theorem free_bit (t : Nat) : ∀ d cs rs, free d cs rs = true → freeB d (cs.map (·.testBit t)) (rs.map (·.map (·.testBit t))) = true
  | 0, _, _, h => Bool.noConfusion h
  | d+1, cs, rs, h => step_bit t (free_bit t d) cs rs h
theorem zip_map {α : Type} (c : Bool) (p q : α → Bool) : ∀ l : List α, zipAndB c (l.map p) (l.map q) = l.map fun x => (p x && c) && q x
  | [] => rfl
  | x::l => by
    show ((p x && c) && q x) :: zipAndB c (l.map p) (l.map q) = _
    rw [zip_map c p q l]; rfl
/-- Nothing was found: so there are no d that all go together. -/
theorem freeB_sound {α : Type} (e : α → α → Bool) : ∀ (d : Nat) (p : α → Bool) (us : List α), freeB d (us.map p) (rowsB e us) = true → ∀ l : List α, l.Sublist us → l.length = d → l.Pairwise (fun x y => e x y = true) → (∀ x ∈ l, p x = true) → False
  | 0, _, _, h, _, _, _, _, _ => Bool.noConfusion h
  | d+1, p, [], _, l, hs, hl, _, _ => by
    rw [List.sublist_nil.1 hs] at hl; simp at hl
  | d+1, p, u::us, h, l, hs, hl, hp, ha => by
    have h : ((!(p u) || freeB d (zipAndB (p u) (us.map p) (us.map (e u))) (rowsB e us)) && stepB (freeB d) (us.map p) (rowsB e us)) = true := h
    rw [Bool.and_eq_true] at h
    cases hs with
    | cons _ hs => exact freeB_sound e (d+1) p us h.2 l hs hl hp ha
    | cons_cons _ hs =>
      rename_i l
      have hu := ha u (by simp)
      have h1 := h.1
      rw [hu, Bool.not_true, Bool.false_or, zip_map] at h1
      rw [List.pairwise_cons] at hp
      refine freeB_sound e d _ us h1 l hs (by simpa using hl) hp.2 fun x hx => ?_
      rw [ha x (by simp [hx]), hp.1 x hx]; rfl
/-- All of a list of numbers' data, many cases at once. -/
theorem edges_bit {N o t : Nat} (Ho : Pk 16 N o fun _ => 1) {u : U} {f : Nat → U} (Hu : PkU N u f) (ht : t < N) {mk : Nat → U} {g : Nat → Nat → U} (hm : ∀ n, n < 32 → PkU N (mk n) (g n)) :
    ∀ ns : List Nat, (∀ n ∈ ns, n < 32) → (edges o u (ns.map mk)).map (·.testBit (16 * t)) = ns.map fun n => (sE (f t) (g n t)).testBit 0
  | [], _ => rfl
  | n::ns, h => by
    show (edge o u (mk n)).testBit (16 * t) :: (edges o u (ns.map mk)).map (·.testBit (16 * t)) = _
    rw [edges_bit Ho Hu ht hm ns fun n hn => h n (by simp [hn]), (edge_pk Ho Hu (hm n (h n (by simp)))).bit (by decide), decide_eq_true (by omega), Nat.mul_div_cancel_left _ (by decide), Nat.mul_mod_right, Bool.true_and]
    rfl
theorem rows_bit {N o t : Nat} (Ho : Pk 16 N o fun _ => 1) (ht : t < N) {mk : Nat → U} {g : Nat → Nat → U} (hm : ∀ n, n < 32 → PkU N (mk n) (g n)) :
    ∀ ns : List Nat, (∀ n ∈ ns, n < 32) → (rows o (ns.map mk)).map (·.map (·.testBit (16 * t))) = rowsB (fun m n => (sE (g m t) (g n t)).testBit 0) ns
  | [], _ => rfl
  | n::ns, h => by
    show (edges o (mk n) (ns.map mk)).map (·.testBit (16 * t)) :: (rows o (ns.map mk)).map (·.map (·.testBit (16 * t))) = _
    rw [rows_bit Ho ht hm ns fun n hn => h n (by simp [hn]), edges_bit Ho (hm n (h n (by simp))) ht hm ns fun n hn => h n (by simp [hn])]
    rfl
theorem units_map (o o6 PA PB c : Nat) : ∀ ns : List Nat, units o o6 PA PB c ns = ns.map (unit o o6 PA PB c)
  | [] => rfl
  | n::ns => by
    show unit o o6 PA PB c n :: units o o6 PA PB c ns = _
    rw [units_map o o6 PA PB c ns]; rfl
theorem rep_map (x : Nat) : ∀ ns : List Nat, rep x ns = ns.map fun _ => x
  | [] => rfl
  | n::ns => by
    show x :: rep x ns = _
    rw [rep_map x ns]; rfl
theorem bads_bit {t : Nat} : ∀ l : List Nat, (bads l).testBit (16 * t) = true → t ∈ l
  | [], h => by rw [show bads [] = 0 from rfl, Nat.zero_testBit] at h; cases h
  | n::ns, h => by
    have h : ((2 ^ (16 * n)) ||| bads ns).testBit (16 * t) = true := h
    rw [Nat.testBit_or, Bool.or_eq_true, Nat.testBit_two_pow] at h
    rcases h with h | h
    · have := of_decide_eq_true h
      rw [show t = n by omega]; simp
    · exact List.mem_cons_of_mem _ (bads_bit ns h)
theorem l32_lt : ∀ n ∈ l32, n < 32 := by decide
/-- What a test says of each of its cases. -/
theorem chk_sound {K c : Nat} {bad : List Nat} (hK : K ≤ 13) (hc : c < 4096) (H : chk K c bad = true) {t : Nat} (ht : t < 4 * 2 ^ K) (hb : t ∉ bad) {l : List Nat} (hs : l.Sublist l32) (hl : l.length = 4)
    (hp : l.Pairwise fun m n => (sE (sU (caseA c t) (caseB t) m) (sU (caseA c t) (caseB t) n)).testBit 0 = true) : False := by
  have Ho : Pk 16 (4 * 2 ^ K) (ones 16 (Nat.add K 2)) fun _ => 1 := by
    have := ones_pk (w := 16) (by decide) (K + 2)
    rw [Nat.pow_add, Nat.mul_comm] at this
    exact this
  have Ho6 := ones_pk (w := 64) (by decide) K
  have Hi := iota_pk (w := 64) (by decide) K (by omega)
  have hK2 : 2 ^ K ≤ 2 ^ 13 := Nat.pow_le_pow_right (by decide) hK
  have HA : Pk 64 (2 ^ K) (Nat.land (Nat.shiftRight (iota 64 K) 9) (Nat.mul 31 (ones 64 K))) fun i => i / 512 :=
    (Pk.shr (by decide) Ho6 Hi 9 31 5 rfl (by decide)).congr fun i hi => by
      rw [Nat.shiftRight_eq_div_pow, Nat.and_two_pow_sub_one_eq_mod (i / 2 ^ 9) 5]
      omega
  have HB : Pk 64 (2 ^ K) (Nat.mul (Nat.land (iota 64 K) (Nat.mul 511 (ones 64 K))) 32) fun i => i % 512 * 32 :=
    ((Pk.low (by decide) Ho6 Hi 511 (by decide)).mul 32 fun i _ => by have := and_le i 511; omega).congr fun i _ => by
      rw [Nat.and_two_pow_sub_one_eq_mod i 9]
  have H : free 4 (rep (Nat.xor (ones 16 (Nat.add K 2)) (Nat.land (ones 16 (Nat.add K 2)) (bads bad))) l32) (rows (ones 16 (Nat.add K 2)) (units (ones 16 (Nat.add K 2)) (ones 64 K) (Nat.land (Nat.shiftRight (iota 64 K) 9) (Nat.mul 31 (ones 64 K))) (Nat.mul (Nat.land (iota 64 K) (Nat.mul 511 (ones 64 K))) 32) c l32)) = true := H
  have h1 := free_bit (16 * t) _ _ _ H
  rw [units_map, rows_bit Ho ht (fun n hn => unit_pk (u := n) hK Ho Ho6 HA HB hc hn) l32 l32_lt, rep_map, List.map_map] at h1
  refine freeB_sound _ 4 _ l32 h1 l hs hl hp fun x _ => ?_
  show ((ones 16 (K + 2)) ^^^ ((ones 16 (K + 2)) &&& bads bad)).testBit (16 * t) = true
  have ho : (ones 16 (K + 2)).testBit (16 * t) = true := by
    rw [Ho.bit (by decide), decide_eq_true (by omega), Nat.mul_mod_right]; rfl
  have hbb : (bads bad).testBit (16 * t) = false := by
    cases h : (bads bad).testBit (16 * t)
    · rfl
    · exact absurd (bads_bit bad h) hb
  rw [Nat.testBit_xor, Nat.testBit_and, ho, hbb]; rfl
end HS
end Go.Proofs.YtkcjhabbgaaknaaGreat
/- The cases in which four of one kind may agree. -/
namespace Go.Proofs.YtkcjhabbgaaknaaGreat
set_option maxRecDepth 100000
namespace HS
def exL : List (List Nat) := [
  [],
  [16154],
  [],
  [12066, 19048, 19049],
  [8261, 8263, 9285, 9287, 9799, 16613],
  [],
  [],
  [6313, 6314, 6570, 24810, 25321],
  [18260],
  [9917, 9925, 12388, 12664],
  [18304, 29241, 29257],
  [6282, 19225],
  [6613],
  [4189, 4191, 5213, 5215, 5727, 9909, 9933],
  [9892, 10716],
  [],
  [],
  [30745],
  [],
  [24336],
  [],
  [],
  [18826, 18830],
  [4214],
  [4166, 4236, 24906],
  [10210, 12632],
  [6785, 22924, 29257],
  [28744, 28957],
  [1786, 7753, 7817],
  [27028],
  [10672, 10684, 30990],
  [30800],
  [],
  [],
  [22532, 24656],
  [],
  [],
  [],
  [],
  [31366],
  [],
  [],
  [],
  [],
  [7737, 7745, 7793, 7809],
  [1585, 1649, 12398, 12580, 12581],
  [],
  [],
  [],
  [],
  [10672, 10674, 11696, 11698, 12210, 30660],
  [10092],
  [],
  [],
  [8972, 25264],
  [10874, 12352],
  [7756],
  [14338],
  [],
  [],
  [8686],
  [22405],
  [],
  [12368, 29005],
  [],
  [],
  [28740],
  [],
  [4761, 6334, 23298],
  [],
  [],
  [16476, 18013],
  [],
  [4605, 4607, 5629, 5631, 6143],
  [],
  [20684],
  [23182],
  [8436],
  [],
  [],
  [22577],
  [],
  [31061],
  [12870, 28792],
  [4029],
  [],
  [18954, 18958, 19465, 19469],
  [6384, 12858, 12878],
  [18532],
  [],
  [],
  [28776],
  [4013, 14550, 14678, 15061, 15189],
  [],
  [],
  [6440],
  [],
  [],
  [],
  [],
  [4214, 14233],
  [6422, 6933, 8941],
  [6276],
  [],
  [12492],
  [],
  [18692],
  [27996],
  [1881, 4198, 12484, 14526, 14542, 14590, 14598, 14606, 14654, 14670, 15037, 15053, 15101, 15109, 15117, 15165, 15181],
  [8382, 8446, 8510, 8893, 8957, 9021],
  [],
  [],
  [],
  [],
  [4469],
  [20529],
  [],
  [14810],
  [16423],
  [],
  [],
  [16289],
  [4453],
  [],
  [],
  [2145, 12886, 13397],
  [],
  [],
  [],
  [14406, 14418, 22530, 23042],
  [21907],
  [12870],
  [30837],
  [],
  [],
  [12878],
  [26876, 28413],
  [14402, 25418, 26440],
  [9102],
  [10491, 24909],
  [],
  [5212, 5727, 8149],
  [],
  [484, 2021, 30769],
  [],
  [],
  [16573, 30797],
  [12870, 14980, 14981, 30168, 30683],
  [],
  [],
  [],
  [12858, 12878],
  [6396],
  [],
  [18565, 19076],
  [24267, 26641],
  [6216, 6328, 6344, 7753, 7881, 8469],
  [],
  [],
  [16031, 18553],
  [11823],
  [],
  [],
  [],
  [],
  [],
  [],
  [14545, 18752],
  [13971],
  [],
  [],
  [],
  [6192, 6208, 6256, 6264, 6272, 6320, 6336, 7729, 7745, 7793, 7801, 7809, 7857, 7873],
  [48, 112, 176, 1585, 1649, 1713, 4064],
  [15082],
  [8481, 14505, 30893],
  [16517],
  [31065],
  [25252],
  [],
  [14505],
  [8013],
  [],
  [],
  [8015],
  [4209],
  [13174],
  [],
  [12520],
  [241, 4552, 6089, 12886, 13397],
  [],
  [],
  [],
  [14541],
  [29296],
  [30475],
  [211, 721, 723, 1745, 1747, 26681],
  [],
  [],
  [],
  [],
  [],
  [12387, 12897, 12899, 13921, 13923, 16387, 17920],
  [],
  [10444, 11981, 22925],
  [5340, 5855, 6108, 6111],
  [17912, 18427],
  [],
  [],
  [31129],
  [16908, 29164, 30687],
  [],
  [8325],
  [],
  [16900, 24616, 24617],
  [29045],
  [3763],
  [],
  [29148, 29259],
  [],
  [8341, 12101, 14549, 14613],
  [],
  [27032],
  [],
  [],
  [],
  [],
  [18367],
  [6520],
  [6421],
  [],
  [3877],
  [],
  [],
  [27073, 29243, 29259],
  [16233, 28432, 29388],
  [2333, 6260, 6262, 6504, 7284, 7286, 7798, 11393, 12708, 13980, 13981, 14533, 14541, 14589, 14605, 16040],
  [8381, 8445],
  [16044],
  [14517],
  [17824],
  [14469, 14471, 14983, 15493, 15495, 31193],
  [32567],
  [],
  [12728],
  [],
  [20912],
  [],
  [14669],
  [14453, 14455, 14967, 15477, 15479],
  [14344, 14673, 29256, 29515],
  [],
  [12648, 14661, 24849],
  [4544, 4552, 6089, 8589],
  [14665, 26660, 26968],
  [8195, 19176]]
def exc (k : Nat) : List Nat := exL.getD k []
end HS
end Go.Proofs.YtkcjhabbgaaknaaGreat
