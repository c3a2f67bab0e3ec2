import Derived.Test.YtkcjhabbgaaknaaGreatSH30
import Derived.Test.YtkcjhabbgaaknaaGreatSH31
import Derived.Test.YtkcjhabbgaaknaaGreatSH32
import Derived.Test.YtkcjhabbgaaknaaGreatSH33
import Derived.Test.YtkcjhabbgaaknaaGreatSH34
import Derived.Test.YtkcjhabbgaaknaaGreatSH35
import Derived.Test.YtkcjhabbgaaknaaGreatSH36
import Derived.Test.YtkcjhabbgaaknaaGreatSH37
import Derived.Test.YtkcjhabbgaaknaaGreatSH6
import Derived.Test.YtkcjhabbgaaknaaGreatSA
/- Of 32 neighbours at most nine agree in the 14 lowest bits. -/
namespace Go.Proofs.YtkcjhabbgaaknaaGreat
set_option maxRecDepth 100000
namespace HS
theorem tests (k : Nat) (h : k < 256) : chk 13 (16 * k) (exc k) = true := by
  by_cases h1 : k < 32
  · exact tests0 k (by omega) h1
  by_cases h2 : k < 64
  · exact tests1 k (by omega) h2
  by_cases h3 : k < 96
  · exact tests2 k (by omega) h3
  by_cases h4 : k < 128
  · exact tests3 k (by omega) h4
  by_cases h5 : k < 160
  · exact tests4 k (by omega) h5
  by_cases h6 : k < 192
  · exact tests5 k (by omega) h6
  by_cases h7 : k < 224
  · exact tests6 k (by omega) h7
  · exact tests7 k (by omega) h
/-- The test that a case is in, and where. -/
def tk (A : Nat) : Nat := A % 4096 / 16
def tt (A B : Nat) : Nat := 4 * (A % 16 * 512 + B / 32) + A / 4096
theorem tk_lt (A : Nat) : tk A < 256 := by unfold tk; omega
theorem caseA_tt {A B : Nat} (hA : A < 2 ^ 14) (hB : B < 2 ^ 14) : caseA (16 * tk A) (tt A B) = A := by
  unfold caseA tk
  have h1 : tt A B / 4 = A % 16 * 512 + B / 32 := by unfold tt; omega
  have h2 : tt A B % 4 = A / 4096 := by unfold tt; omega
  rw [h1, h2, show (A % 16 * 512 + B / 32) / 512 = A % 16 by omega]
  omega
theorem caseB_tt {A B : Nat} (hA : A < 2 ^ 14) (hB : B < 2 ^ 14) (h32 : B % 32 = 0) : caseB (tt A B) = B := by
  unfold caseB
  have h1 : tt A B / 4 = A % 16 * 512 + B / 32 := by unfold tt; omega
  rw [h1]
  omega
def named (A B : Nat) : Prop := tt A B ∈ exc (tk A)
theorem no4 {A B : Nat} (hA : A < 2 ^ 14) (hB : B < 2 ^ 14) (h32 : B % 32 = 0) (hn : ¬ named A B) {l : List Nat} (hs : l.Sublist l32) (hp : l.Pairwise fun m n => sEB (sU A B m) (sU A B n) = true) : l.length ≤ 3 := by
  by_cases h : l.length ≤ 3
  · exact h
  · exfalso
    have hl : (l.take 4).length = 4 := by rw [List.length_take]; omega
    refine chk_sound (K := 13) (c := 16 * tk A) (by decide) (by have := tk_lt A; omega) (tests _ (tk_lt A)) (t := tt A B) (by unfold tt; omega) hn ((List.take_sublist 4 l).trans hs) hl ?_
    rw [caseA_tt hA hB, caseB_tt hA hB h32]
    exact hp.sublist (List.take_sublist 4 l)
theorem named_tot {A B : Nat} (hA : A < 2 ^ 14) (hB : B < 2 ^ 14) (h32 : B % 32 = 0) (hn : named A B) : tot A A B ≤ 9 ∧ tot A ((A + 1) % 2 ^ 14) B ≤ 9 ∧ tot ((A + 16383) % 2 ^ 14) A B ≤ 9 := by
  have h := List.all_eq_true.1 (exAll_ok _ (tk_lt A)) _ hn
  rw [caseA_tt hA hB, caseB_tt hA hB h32] at h
  unfold exOK at h
  rw [Bool.and_eq_true, Bool.and_eq_true] at h
  exact ⟨Nat.le_of_ble_eq_true h.1.1, Nat.le_of_ble_eq_true h.1.2, Nat.le_of_ble_eq_true h.2⟩
/-- The neighbours of 2 ^ 32 * A + B. -/
def nb (A B u : Nat) : Nat := (2 ^ 32 * A + B + 1099511628211 * u) % 2 ^ 64
def over (B : Nat) : Nat := if B / 2 ^ 14 = 2 ^ 18 - 1 then 1 else 0
def Ab (A B b : Nat) : Nat := (A + b * over B) % 2 ^ 14
theorem over_le (B : Nat) : over B ≤ 1 := by unfold over; split <;> omega
/-- A neighbour's halves. -/
theorem nb_parts {A B u b : Nat} (_hA : A < 2 ^ 32) (hB : B < 2 ^ 32) (hu : u < 32) (hb : (B % 2 ^ 14 + 435 * u) / 2 ^ 14 = b) :
    nb A B u = 2 ^ 32 * ((A + b * over B + 256 * u) % 2 ^ 32) + (B + 435 * u) % 2 ^ 32 := by
  have hb1 : b = 0 ∨ b = 1 := by omega
  have e1 : ∀ x r : Nat, r < 2 ^ 32 → (2 ^ 32 * x + r) % 2 ^ 64 = 2 ^ 32 * (x % 2 ^ 32) + r := by intro x r hr; omega
  have e2 : (B + 435 * u) / 2 ^ 32 = b * over B := by
    unfold over
    rcases hb1 with rfl | rfl
    · rw [Nat.zero_mul]; omega
    · rw [Nat.one_mul]
      split <;> omega
  unfold nb
  rw [← e2, show 2 ^ 32 * A + B + 1099511628211 * u = 2 ^ 32 * (A + (B + 435 * u) / 2 ^ 32 + 256 * u) + (B + 435 * u) % 2 ^ 32 by omega, e1 _ _ (Nat.mod_lt _ (by decide))]
theorem sU_form {A B u : Nat} (hA : A < 2 ^ 14) (hB : B < 2 ^ 14) (hu : u < 32) :
    sU A B u = sU3 (2 ^ 14 * ((B + 435 * u) / 2 ^ 14 + 2 * ((A + 256 * u) / 2 ^ 14)) + sQ (((B + 435 * u) ^^^ (A + 256 * u)) &&& 16383) (A + 256 * u) % 2 ^ 14) (sQ (((B + 435 * u) ^^^ (A + 256 * u)) &&& 16383) (A + 256 * u) / 2 ^ 29) (sQ (((B + 435 * u) ^^^ (A + 256 * u)) &&& 16383) (A + 256 * u) / 2 ^ 14 % 2 ^ 15) := by
  unfold sU sU1 sU2
  have hq : sQ (((B + 435 * u) ^^^ (A + 256 * u)) &&& 16383) (A + 256 * u) < 2 ^ 43 := by
    unfold sQ; rw [and43]; exact Nat.mod_lt _ (by decide)
  generalize sQ (((B + 435 * u) ^^^ (A + 256 * u)) &&& 16383) (A + 256 * u) = q at hq ⊢
  rw [and14, and14, and15, and1, and1, Nat.shiftRight_eq_div_pow, Nat.shiftRight_eq_div_pow, Nat.shiftRight_eq_div_pow, Nat.shiftRight_eq_div_pow]
  have l1 : (B + 435 * u) / 2 ^ 14 < 2 := by omega
  have l2 : (A + 256 * u) / 2 ^ 14 < 2 := by omega
  rw [Nat.mod_eq_of_lt l1, Nat.mod_eq_of_lt l2]
  rw [show q % 2 ^ 14 + (B + 435 * u) / 2 ^ 14 * 16384 + (A + 256 * u) / 2 ^ 14 * 32768 = 2 ^ 14 * ((B + 435 * u) / 2 ^ 14 + 2 * ((A + 256 * u) / 2 ^ 14)) + q % 2 ^ 14 by omega, show q / 2 ^ 29 % 2 ^ 14 = q / 2 ^ 29 by omega]
theorem sQ_same {p h h' : Nat} (e : h % 2 ^ 11 = h' % 2 ^ 11) : sQ p h = sQ p h' := by
  unfold sQ; rw [and11, and11, e]
/-- What a neighbour's 14 bits are made of. -/
theorem fin_nb {A B u b : Nat} (hA : A < 2 ^ 32) (hB : B < 2 ^ 32) (hu : u < 32) (hb : (B % 2 ^ 14 + 435 * u) / 2 ^ 14 = b) :
    fin_ (nb A B u) % 2 ^ 14 = (sQ (((B % 2 ^ 14 + 435 * u) ^^^ (Ab A B b + 256 * u)) &&& 16383) (Ab A B b + 256 * u) % 2 ^ 14) ^^^
      ((sQ (((B % 2 ^ 14 + 435 * u) ^^^ (Ab A B b + 256 * u)) &&& 16383) (Ab A B b + 256 * u) +
        2 ^ 14 * (((((B / 2 ^ 14 + b) % 2 ^ 18) ^^^ (((A + b * over B) / 2 ^ 14 + (Ab A B b + 256 * u) / 2 ^ 14) % 2 ^ 18)) * 0x1b97f4a7c15) % 2 ^ 29)) / 2 ^ 29 % 2 ^ 14) := by
  rw [nb_parts hA hB hu hb, fin_low (Nat.mod_lt _ (by decide)) (Nat.mod_lt _ (by decide)), and14, Nat.xor_mod_two_pow]
  have e1 : (B + 435 * u) % 2 ^ 32 % 2 ^ 14 = (B % 2 ^ 14 + 435 * u) % 2 ^ 14 := by omega
  have e2 : (A + b * over B + 256 * u) % 2 ^ 32 % 2 ^ 14 = (Ab A B b + 256 * u) % 2 ^ 14 := by unfold Ab; omega
  have e3 : (B + 435 * u) % 2 ^ 32 / 2 ^ 14 = (B / 2 ^ 14 + b) % 2 ^ 18 := by omega
  have e4 : (A + b * over B + 256 * u) % 2 ^ 32 / 2 ^ 14 = ((A + b * over B) / 2 ^ 14 + (Ab A B b + 256 * u) / 2 ^ 14) % 2 ^ 18 := by unfold Ab; omega
  have e5 : ((A + b * over B + 256 * u) % 2 ^ 32) % 2 ^ 11 = (Ab A B b + 256 * u) % 2 ^ 11 := by unfold Ab; omega
  rw [e1, e2, e3, e4, sQ_same e5]
theorem pair {A B u v b a : Nat} (hA : A < 2 ^ 32) (hB : B < 2 ^ 32) (hu : u < 32) (hv : v < 32)
    (bu : (B % 2 ^ 14 + 435 * u) / 2 ^ 14 = b) (bv : (B % 2 ^ 14 + 435 * v) / 2 ^ 14 = b) (au : (Ab A B b + 256 * u) / 2 ^ 14 = a) (av : (Ab A B b + 256 * v) / 2 ^ 14 = a)
    (h : fin_ (nb A B u) % 2 ^ 14 = fin_ (nb A B v) % 2 ^ 14) : sEB (sU (Ab A B b) (B % 2 ^ 14) u) (sU (Ab A B b) (B % 2 ^ 14) v) = true := by
  rw [fin_nb hA hB hu bu, fin_nb hA hB hv bv, au, av] at h
  have hA' : Ab A B b < 2 ^ 14 := Nat.mod_lt _ (by decide)
  have hB' : B % 2 ^ 14 < 2 ^ 14 := Nat.mod_lt _ (by decide)
  unfold sEB
  rw [sU_form hA' hB' hu, sU_form hA' hB' hv, bu, bv, au, av]
  have hq : ∀ p h, sQ p h < 2 ^ 43 := fun p h => by unfold sQ; rw [and43]; exact Nat.mod_lt _ (by decide)
  exact sE_of (hq _ _) (hq _ _) h
theorem cover4 {l : List Nat} {p q r s : Nat → Bool} (h : ∀ x ∈ l, p x = true ∨ q x = true ∨ r x = true ∨ s x = true) :
    l.length ≤ (l.filter p).length + (l.filter q).length + ((l.filter r).length + (l.filter s).length) := by
  induction l with
  | nil => simp
  | cons x l ih =>
    have h1 := ih fun y hy => h y (List.mem_cons_of_mem _ hy)
    have h2 := h x (by simp)
    rw [List.filter_cons, List.filter_cons, List.filter_cons, List.filter_cons, List.length_cons]
    revert h2
    cases p x <;> cases q x <;> cases r x <;> cases s x <;> intro h2 <;> simp at h2 ⊢ <;> omega
/-- Of 32 neighbours at most nine agree in 14 bits. -/
theorem few {A B : Nat} (hA : A < 2 ^ 32) (hB : B < 2 ^ 32) (h32 : B % 32 = 0) {c : Nat} {l : List Nat} (hs : l.Sublist l32) (hc : ∀ u ∈ l, fin_ (nb A B u) % 2 ^ 14 = c) : l.length ≤ 9 := by
  have hlt : ∀ u ∈ l, u < 32 := fun u hu => l32_lt u (hs.subset hu)
  have hA' : ∀ b, Ab A B b < 2 ^ 14 := fun b => Nat.mod_lt _ (by decide)
  have hB' : B % 2 ^ 14 < 2 ^ 14 := Nat.mod_lt _ (by decide)
  have hB32 : B % 2 ^ 14 % 32 = 0 := by omega
  -- those of a kind
  have S : ∀ b a, (l.filter fun u => decide ((B % 2 ^ 14 + 435 * u) / 2 ^ 14 = b) && decide ((Ab A B b + 256 * u) / 2 ^ 14 = a)).Sublist (kindOf (Ab A B b) (B % 2 ^ 14) b a) := fun b a => hs.filter _
  have P : ∀ b a, (l.filter fun u => decide ((B % 2 ^ 14 + 435 * u) / 2 ^ 14 = b) && decide ((Ab A B b + 256 * u) / 2 ^ 14 = a)).Pairwise (fun m n => sEB (sU (Ab A B b) (B % 2 ^ 14) m) (sU (Ab A B b) (B % 2 ^ 14) n) = true) := fun b a => by
    refine List.pairwise_iff_forall_sublist.2 fun {m n} hmn => ?_
    have hm := hmn.subset (show m ∈ [m, n] by simp)
    have hn := hmn.subset (show n ∈ [m, n] by simp)
    simp only [List.mem_filter, Bool.and_eq_true, decide_eq_true_eq] at hm hn
    exact pair hA hB (hlt m hm.1) (hlt n hn.1) hm.2.1 hn.2.1 hm.2.2 hn.2.2 ((hc m hm.1).trans (hc n hn.1).symm)
  have C := cover4 (l := l) (p := fun u => decide ((B % 2 ^ 14 + 435 * u) / 2 ^ 14 = 0) && decide ((Ab A B 0 + 256 * u) / 2 ^ 14 = 0)) (q := fun u => decide ((B % 2 ^ 14 + 435 * u) / 2 ^ 14 = 0) && decide ((Ab A B 0 + 256 * u) / 2 ^ 14 = 1))
    (r := fun u => decide ((B % 2 ^ 14 + 435 * u) / 2 ^ 14 = 1) && decide ((Ab A B 1 + 256 * u) / 2 ^ 14 = 0)) (s := fun u => decide ((B % 2 ^ 14 + 435 * u) / 2 ^ 14 = 1) && decide ((Ab A B 1 + 256 * u) / 2 ^ 14 = 1)) fun u hu => by
      have h1 := hlt u hu
      have h2 := hA' 0
      have h3 := hA' 1
      simp only [Bool.and_eq_true, decide_eq_true_eq]
      omega
  have e1 : Ab A B 1 = Ab A B 0 ∨ Ab A B 1 = (Ab A B 0 + 1) % 2 ^ 14 := by
    have := over_le B
    unfold Ab
    omega
  have L : ∀ b a, (l.filter fun u => decide ((B % 2 ^ 14 + 435 * u) / 2 ^ 14 = b) && decide ((Ab A B b + 256 * u) / 2 ^ 14 = a)).length ≤ cqn (Ab A B b) (B % 2 ^ 14) b a := fun b a => by
    have h1 := cq_sound sEB 32 ((kindOf (Ab A B b) (B % 2 ^ 14) b a).map (sU (Ab A B b) (B % 2 ^ 14))) _ (by rw [List.length_map]; exact List.length_filter_le _ _) ((S b a).map _) (List.pairwise_map.2 (P b a))
    rwa [List.length_map] at h1
  by_cases n0 : named (Ab A B 0) (B % 2 ^ 14)
  · have h1 := named_tot (hA' 0) hB' hB32 n0
    have h2 : tot (Ab A B 0) (Ab A B 1) (B % 2 ^ 14) ≤ 9 := by
      rcases e1 with e | e <;> rw [e]
      · exact h1.1
      · exact h1.2.1
    have h00 := L 0 0; have h01 := L 0 1; have h10 := L 1 0; have h11 := L 1 1
    unfold tot at h2
    omega
  · by_cases n1 : named (Ab A B 1) (B % 2 ^ 14)
    · have h1 := named_tot (hA' 1) hB' hB32 n1
      have h2 : tot (Ab A B 0) (Ab A B 1) (B % 2 ^ 14) ≤ 9 := by
        have e2 : Ab A B 0 = Ab A B 1 ∨ Ab A B 0 = (Ab A B 1 + 16383) % 2 ^ 14 := by
          have := hA' 0
          omega
        rcases e2 with e | e
        · rw [e]; exact h1.1
        · rw [e]; exact h1.2.2
      have h00 := L 0 0; have h01 := L 0 1; have h10 := L 1 0; have h11 := L 1 1
      unfold tot at h2
      omega
    · have t00 := no4 (hA' 0) hB' hB32 n0 ((S 0 0).trans (List.filter_sublist)) (P 0 0)
      have t01 := no4 (hA' 0) hB' hB32 n0 ((S 0 1).trans (List.filter_sublist)) (P 0 1)
      have t10 := no4 (hA' 1) hB' hB32 n1 ((S 1 0).trans (List.filter_sublist)) (P 1 0)
      have t11 := no4 (hA' 1) hB' hB32 n1 ((S 1 1).trans (List.filter_sublist)) (P 1 1)
      -- one of four kinds is empty
      have E : ∀ b a, (l.filter fun u => decide ((B % 2 ^ 14 + 435 * u) / 2 ^ 14 = b) && decide ((Ab A B b + 256 * u) / 2 ^ 14 = a)).length = 0 ∨ ∃ u, u < 32 ∧ (B % 2 ^ 14 + 435 * u) / 2 ^ 14 = b ∧ (Ab A B b + 256 * u) / 2 ^ 14 = a := fun b a => by
        cases h : (l.filter fun u => decide ((B % 2 ^ 14 + 435 * u) / 2 ^ 14 = b) && decide ((Ab A B b + 256 * u) / 2 ^ 14 = a)) with
        | nil => left; rfl
        | cons u r =>
          right
          have hm : u ∈ (l.filter fun u => decide ((B % 2 ^ 14 + 435 * u) / 2 ^ 14 = b) && decide ((Ab A B b + 256 * u) / 2 ^ 14 = a)) := by rw [h]; simp
          simp only [List.mem_filter, Bool.and_eq_true, decide_eq_true_eq] at hm
          exact ⟨u, hlt u hm.1, hm.2.1, hm.2.2⟩
      rcases E 0 1 with h | ⟨u, hu, hu1, hu2⟩
      · omega
      rcases E 1 0 with h | ⟨v, hv, hv1, hv2⟩
      · omega
      rcases E 1 1 with h | ⟨x, hx, hx1, hx2⟩
      · omega
      exfalso
      have h2 := hA' 0
      have h3 := hA' 1
      rcases e1 with e | e <;> omega
end HS
end Go.Proofs.YtkcjhabbgaaknaaGreat
/- Of the keys of the law no 113 agree in the 14 lowest bits of their hashes, whatever the seed. -/
namespace Go.Proofs.YtkcjhabbgaaknaaGreat
open E
set_option maxRecDepth 100000
theorem xor_nat {x y : Nat} (hx : x < 2 ^ 64) (hy : y < 2 ^ 64) : E.intBits .xor .u64 (x : Int) (y : Int) = ((x ^^^ y : Nat) : Int) := by
  rw [bits_nat]
  show (((BitVec.ofNat 64 x ^^^ BitVec.ofNat 64 y).toNat : Nat) : Int) = _
  rw [BitVec.toNat_xor, BitVec.toNat_ofNat, BitVec.toNat_ofNat, Nat.mod_eq_of_lt hx, Nat.mod_eq_of_lt hy]
theorem xor_lt {x y : Nat} (hx : x < 2 ^ 64) (hy : y < 2 ^ 64) : x ^^^ y < 2 ^ 64 := Nat.xor_lt_two_pow hx hy
/-- The hash of a text, ahead of its last mixing. -/
def hN (seed : Int) (l : List UInt8) : Nat := (l.foldl hstep (E.intBits .xor .u64 14695981039346656037 seed)).toNat
theorem fold_in (l : List UInt8) : ∀ h : Int, 0 ≤ h ∧ h < 2 ^ 64 → 0 ≤ l.foldl hstep h ∧ l.foldl hstep h < 2 ^ 64 := by
  induction l with
  | nil => intro h hh; exact hh
  | cons b l ih =>
    intro h _
    refine ih _ ?_
    have := wrap_in64 (E.intBits .xor .u64 h (b.toNat : Int) * 1099511628211)
    rw [inK_u64] at this
    unfold hstep
    omega
theorem init_in (seed : Int) : 0 ≤ E.intBits .xor .u64 14695981039346656037 seed ∧ E.intBits .xor .u64 14695981039346656037 seed < 2 ^ 64 := by
  have := bits_in .xor 14695981039346656037 seed
  rw [inK_u64] at this
  omega
theorem hN_in (seed : Int) (l : List UInt8) : l.foldl hstep (E.intBits .xor .u64 14695981039346656037 seed) = ((hN seed l : Nat) : Int) ∧ hN seed l < 2 ^ 64 := by
  have := fold_in l _ (init_in seed)
  unfold hN
  omega
theorem hN_snoc (seed : Int) (l : List UInt8) (b : UInt8) : hN seed (l ++ [b]) = ((hN seed l ^^^ b.toNat) * 1099511628211) % 2 ^ 64 := by
  have h1 := hN_in seed l
  have hb : b.toNat < 2 ^ 64 := Nat.lt_trans (UInt8.toNat_lt b) (by decide)
  have h2 : hstep (l.foldl hstep (E.intBits .xor .u64 14695981039346656037 seed)) b = ((((hN seed l ^^^ b.toNat) * 1099511628211) % 2 ^ 64 : Nat) : Int) := by
    rw [h1.1]
    unfold hstep
    rw [xor_nat h1.2 hb, show (((hN seed l ^^^ b.toNat : Nat) : Int) * 1099511628211) = (((hN seed l ^^^ b.toNat) * 1099511628211 : Nat) : Int) by omega, wrap64]
  show (List.foldl hstep _ (l ++ [b])).toNat = _
  rw [List.foldl_append, List.foldl_cons, List.foldl_nil, h2, Int.toNat_natCast]
theorem fin_lt64 (z : Nat) : HS.mulG z < 2 ^ 64 := Nat.mod_lt _ (by decide)
theorem hk_fin (seed : Int) (l : List UInt8) : hk seed l = HS.fin_ (hN seed l) := by
  have h1 := hN_in seed l
  have hs1 : hN seed l / 2 ^ 32 < 2 ^ 64 := Nat.lt_of_le_of_lt (Nat.div_le_self _ _) h1.2
  have hg := fin_lt64 (hN seed l ^^^ hN seed l >>> 32)
  have e1 : IntKind.u64.wrap (E.intBits .xor .u64 ((hN seed l : Nat) : Int) (((hN seed l : Nat) : Int).fdiv (2 ^ 32)) * 11400714819323198485) = ((HS.mulG (hN seed l ^^^ hN seed l >>> 32) : Nat) : Int) := by
    rw [show ((2 : Int) ^ 32) = ((2 ^ 32 : Nat) : Int) from rfl, fdiv_nat, xor_nat h1.2 hs1, ← Nat.shiftRight_eq_div_pow]
    show IntKind.u64.wrap (((hN seed l ^^^ hN seed l >>> 32 : Nat) : Int) * ((11400714819323198485 : Nat) : Int)) = _
    rw [← Int.natCast_mul, wrap64]
    rfl
  have e2 : hof seed l = ((HS.fin_ (hN seed l) : Nat) : Int) := by
    unfold hof
    simp only
    rw [h1.1, e1, show ((2 : Int) ^ 29) = ((2 ^ 29 : Nat) : Int) from rfl, fdiv_nat, xor_nat hg (Nat.lt_of_le_of_lt (Nat.div_le_self _ _) hg), ← Nat.shiftRight_eq_div_pow]
    rfl
  unfold hk
  rw [e2, Int.toNat_natCast]
theorem u8_of {n : Nat} (h : n < 256) : (UInt8.ofNat n).toNat = n := by
  rw [UInt8.toNat_ofNat']; exact Nat.mod_eq_of_lt h
theorem mem_l32 : ∀ n, n < 32 → n ∈ HS.l32 := by decide
theorem len_nodupN {l K : List Nat} (hu : l.Nodup) (h : ∀ x ∈ l, x ∈ K) : l.length ≤ K.length := by
  induction l generalizing K with
  | nil => simp
  | cons a l ih =>
    rw [List.nodup_cons] at hu
    have ha := h a List.mem_cons_self
    have := ih (K := K.erase a) hu.2 fun x hx => by
      rw [List.mem_erase_of_ne (show x ≠ a from fun e => hu.1 (by rw [← e]; exact hx))]
      exact h x (List.mem_cons_of_mem _ hx)
    rw [List.length_erase_of_mem ha] at this
    have := List.length_pos_of_mem ha
    simp only [List.length_cons]
    omega
/-- Last letters of one row of 32 have neighbouring hashes. -/
theorem near (s base : Nat) (hbase : ∀ u, u < 32 → base + u = base ^^^ u) : ∃ A B r, A < 2 ^ 32 ∧ B < 2 ^ 32 ∧ B % 32 = 0 ∧ r < 32 ∧ ∀ u, u < 32 → ((s ^^^ (base + u)) * 1099511628211) % 2 ^ 64 = HS.nb A B (r ^^^ u) := by
  refine ⟨(32 * ((s ^^^ base) / 32) * 1099511628211) % 2 ^ 64 / 2 ^ 32, (32 * ((s ^^^ base) / 32) * 1099511628211) % 2 ^ 64 % 2 ^ 32, (s ^^^ base) % 32, by omega, by omega, by omega, by omega, fun u hu => ?_⟩
  rw [hbase u hu, ← Nat.xor_assoc]
  generalize s ^^^ base = t
  have h1 : (t ^^^ u) % 32 = (t % 32) ^^^ u := by
    have := Nat.xor_mod_two_pow (a := t) (b := u) (n := 5)
    rw [show (2 : Nat) ^ 5 = 32 from rfl, Nat.mod_eq_of_lt hu] at this
    exact this
  have h2 : (t ^^^ u) / 32 = t / 32 := by
    have := Nat.xor_div_two_pow (a := t) (b := u) (n := 5)
    rw [show (2 : Nat) ^ 5 = 32 from rfl, Nat.div_eq_of_lt hu, Nat.xor_zero] at this
    exact this
  have h3 : t ^^^ u = 32 * (t / 32) + ((t % 32) ^^^ u) := by rw [← h1, ← h2]; omega
  unfold HS.nb
  rw [h3]
  generalize (t % 32) ^^^ u = v
  omega
theorem rows9 (seed : Int) (pre : List UInt8) (base : Nat) (hbase : ∀ u, u < 32 → base + u = base ^^^ u) (hb : base ≤ 224) (c : Nat) (lu : List Nat) (hn : lu.Nodup) (hlt : ∀ u ∈ lu, u < 32) (hc : ∀ u ∈ lu, hk seed (pre ++ [UInt8.ofNat (base + u)]) % 2 ^ 14 = c) : lu.length ≤ 9 := by
  obtain ⟨A, B, r, hA, hB, hB32, hr, hnb⟩ := near (hN seed pre) base hbase
  have hx : ∀ a b, a < 32 → b < 32 → a ^^^ b < 32 := fun a b ha hb => Nat.xor_lt_two_pow (n := 5) ha hb
  have hrr : ∀ u, r ^^^ (r ^^^ u) = u := fun u => by rw [← Nat.xor_assoc, Nat.xor_self, Nat.zero_xor]
  have hsub : (HS.l32.filter fun v => decide ((r ^^^ v) ∈ lu)).Sublist HS.l32 := List.filter_sublist
  have h9 := HS.few hA hB hB32 (c := c) hsub (fun v hv => by
    have hm := List.mem_filter.1 hv
    have hm2 : r ^^^ v ∈ lu := by simpa using hm.2
    have := hc _ hm2
    have hu := hlt _ hm2
    rw [hk_fin, hN_snoc, u8_of (show base + (r ^^^ v) < 256 by omega), hnb _ hu, hrr] at this
    exact this)
  have hnd : (lu.map (r ^^^ ·)).Nodup := List.pairwise_map.2 (hn.imp fun {x y} h e => h (by have := congrArg (r ^^^ ·) e; simpa only [hrr] using this))
  have hle := len_nodupN hnd (K := HS.l32.filter fun v => decide ((r ^^^ v) ∈ lu)) fun x hx' => by
    obtain ⟨u, hu, rfl⟩ := List.mem_map.1 hx'
    exact List.mem_filter.2 ⟨mem_l32 _ (hx r u hr (hlt u hu)), by simpa only [hrr, decide_eq_true_eq] using hu⟩
  rw [List.length_map] at hle
  omega
theorem parts {α : Type} (p : Nat → α → Bool) (c : Nat) : ∀ (n : Nat) (l : List α), (∀ k ∈ l, ∃ g, g < n ∧ p g k = true) → (∀ g, g < n → ∀ l' : List α, l'.Sublist l → (∀ k ∈ l', p g k = true) → l'.length ≤ c) → l.length ≤ n * c
  | 0, l, h, _ => by
    cases l with
    | nil => simp
    | cons a l => obtain ⟨g, hg, _⟩ := h a List.mem_cons_self; omega
  | n + 1, l, h, hc => by
    have h1 := hc n (Nat.lt_succ_self n) (l.filter (p n)) List.filter_sublist fun k hk => (List.mem_filter.1 hk).2
    have h2 := parts p c n (l.filter fun k => !p n k) (fun k hk => by
      obtain ⟨h3, h4⟩ := List.mem_filter.1 hk
      obtain ⟨g, hg, hp⟩ := h k h3
      refine ⟨g, ?_, hp⟩
      rcases Nat.lt_or_eq_of_le (Nat.le_of_lt_succ hg) with h5 | h5
      · exact h5
      · rw [h5] at hp; rw [hp] at h4; cases h4) fun g hg l' hl' hp => hc g (Nat.lt_succ_of_lt hg) l' (hl'.trans List.filter_sublist) hp
    have h3 : l.length = (l.filter (p n)).length + (l.filter fun k => !p n k).length := by
      rw [← List.countP_eq_length_filter, ← List.countP_eq_length_filter, List.length_eq_countP_add_countP (p n)]
      congr 2
      funext k
      cases p n k <;> rfl
    rw [h3, Nat.add_mul]
    omega
/-- The law's keys. -/
def stayK (i : Nat) : Key := [115, 116, 97, 121, UInt8.ofNat (97 + i / 26), UInt8.ofNat (97 + i % 26)]
def otherK (x : Nat) : Key := if x < 31 then [111, 116, 104, 101, 114, UInt8.ofNat (97 + x)] else [111, 116, 104, 101, 114, 194, UInt8.ofNat (97 + x)]
def lawK : List Key := (List.range 250).map stayK ++ (List.range 60).map otherK
def gpre (g : Nat) : List UInt8 := if g < 10 then [115, 116, 97, 121, UInt8.ofNat (97 + g)] else if g = 10 then [111, 116, 104, 101, 114] else [111, 116, 104, 101, 114, 194]
def gbase (g : Nat) : Nat := if g = 11 then 128 else 96
theorem gpre_ne : ∀ g, g < 12 → ∀ g', g' < 12 → gpre g = gpre g' → g = g' := by decide +kernel
theorem stay_grp : ∀ i, i < 250 → stayK i = gpre (i / 26) ++ [UInt8.ofNat (gbase (i / 26) + (1 + i % 26))] := by decide +kernel
theorem other_grp : ∀ x, x < 60 → otherK x = (if x < 31 then gpre 10 ++ [UInt8.ofNat (gbase 10 + (x + 1))] else gpre 11 ++ [UInt8.ofNat (gbase 11 + (x - 31))]) := by decide +kernel
theorem base_xor : ∀ g, g < 12 → ∀ u, u < 32 → gbase g + u = gbase g ^^^ u := by decide +kernel
theorem law_grp {k : Key} (hk' : k ∈ lawK) : ∃ g, g < 12 ∧ ∃ u, u < 32 ∧ k = gpre g ++ [UInt8.ofNat (gbase g + u)] := by
  unfold lawK at hk'
  rcases List.mem_append.1 hk' with h | h
  · obtain ⟨i, hi, rfl⟩ := List.mem_map.1 h
    have hi := List.mem_range.1 hi
    exact ⟨i / 26, by omega, 1 + i % 26, by omega, stay_grp i hi⟩
  · obtain ⟨x, hx, rfl⟩ := List.mem_map.1 h
    have hx := List.mem_range.1 hx
    by_cases h31 : x < 31
    · exact ⟨10, by decide, x + 1, by omega, by rw [other_grp x hx, if_pos h31]⟩
    · exact ⟨11, by decide, x - 31, by omega, by rw [other_grp x hx, if_neg h31]⟩
theorem law_few (seed : Int) (l : List Key) (c : Nat) (hn : l.Nodup) (hK : ∀ k ∈ l, k ∈ lawK) (hc : ∀ k ∈ l, hk seed k % 2 ^ 14 = c) : l.length ≤ 112 := by
  have h12 := parts (fun g k => decide (k.dropLast = gpre g)) 9 12 l (fun k hk' => by
    obtain ⟨g, hg, u, hu, rfl⟩ := law_grp (hK k hk')
    exact ⟨g, hg, by simp⟩) fun g hg l' hl' hp => by
    have hform : ∀ k ∈ l', ∃ u, u < 32 ∧ k = gpre g ++ [UInt8.ofNat (gbase g + u)] := fun k hk' => by
      obtain ⟨g', hg', u, hu, e⟩ := law_grp (hK k (hl'.subset hk'))
      have h1 : k.dropLast = gpre g := by simpa using hp k hk'
      have h2 : gpre g' = gpre g := by rw [← h1, e]; simp
      rw [gpre_ne g' hg' g hg h2] at e
      exact ⟨u, hu, e⟩
    have hbg : gbase g ≤ 224 := by unfold gbase; split <;> omega
    have hlast : ∀ u, u < 32 → (((gpre g ++ [UInt8.ofNat (gbase g + u)]).getLast?.getD 0).toNat - gbase g) = u := fun u hu => by
      rw [List.getLast?_concat, Option.getD_some, u8_of (show gbase g + u < 256 by unfold gbase; split <;> omega)]
      omega
    have h9 := rows9 seed (gpre g) (gbase g) (base_xor g hg) hbg c (l'.map fun k => (k.getLast?.getD 0).toNat - gbase g) (List.pairwise_map.2 ((hn.sublist hl').imp_of_mem fun {a b} ha hb hne e => by
        obtain ⟨u, hu, rfl⟩ := hform a ha
        obtain ⟨v, hv, rfl⟩ := hform b hb
        rw [hlast u hu, hlast v hv] at e
        exact hne (by rw [e])))
      (fun x hx => by
        obtain ⟨k, hk', rfl⟩ := List.mem_map.1 hx
        obtain ⟨u, hu, rfl⟩ := hform k hk'
        rw [hlast u hu]; exact hu)
      (fun x hx => by
        obtain ⟨k, hk', rfl⟩ := List.mem_map.1 hx
        obtain ⟨u, hu, rfl⟩ := hform k hk'
        rw [hlast u hu]
        exact hc _ (hl'.subset hk'))
    rwa [List.length_map] at h9
  omega
end Go.Proofs.YtkcjhabbgaaknaaGreat
