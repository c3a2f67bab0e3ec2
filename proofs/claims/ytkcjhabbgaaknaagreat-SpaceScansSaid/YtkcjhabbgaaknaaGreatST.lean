import Derived.Test.YtkcjhabbgaaknaaGreatSS
import Derived.Test.YtkcjhabbgaaknaaGreatSH7
/- The law's chain of scans, as plain mathematics. -/
namespace Go.Proofs.YtkcjhabbgaaknaaGreat
open E
set_option maxRecDepth 100000
def lawKe : List Key := (List.range 60).map otherK
theorem law_ok (seed : Int) : KyOk lawK lawKe seed := ⟨fun l c hn hK hc => law_few seed l c hn hK hc, by decide +kernel, by decide +kernel, by decide +kernel⟩
theorem stay_in {i : Nat} (hi : i < 250) : stayK i ∈ lawK := List.mem_append_left _ (List.mem_map.2 ⟨i, List.mem_range.2 hi, rfl⟩)
theorem other_in {x : Nat} (hx : x < 60) : otherK x ∈ lawK := List.mem_append_right _ (List.mem_map.2 ⟨x, List.mem_range.2 hx, rfl⟩)
theorem other_ke {x : Nat} (hx : x < 60) : otherK x ∈ lawKe := List.mem_map.2 ⟨x, List.mem_range.2 hx, rfl⟩
theorem stay_other (i : Nat) (_ : i < 250) (x : Nat) (_ : x < 60) : stayK i ≠ otherK x := fun e => by
  have h1 : (stayK i).head? = some 115 := rfl
  have h2 : (otherK x).head? = some 111 := by unfold otherK; split <;> rfl
  rw [e, h2] at h1
  exact absurd h1 (by decide)
theorem stay_num : ∀ i, i < 250 → 26 * (((stayK i).getD 4 0).toNat - 97) + (((stayK i).getD 5 0).toNat - 97) = i := by decide +kernel
theorem stay_inj (i : Nat) (hi : i < 250) (j : Nat) (hj : j < 250) (e : stayK i = stayK j) : i = j := by
  rw [← stay_num i hi, ← stay_num j hj, e]
/-- The keys that stay are there. -/
def Stays (md : List (Key × Option Addr)) (k : Nat) : Prop := ∀ i, i < k → hasK md (stayK i) = true
section
variable {md md' : List (Key × Option Addr)} {me me' : List (Key × Int)} {now : Int} {k : Nat}
theorem hasK_iff {α : Type} {l : List (Key × α)} {key : Key} : hasK l key = true ↔ ∃ v, (key, v) ∈ l := by
  unfold hasK
  rw [List.any_eq_true]
  constructor
  · rintro ⟨x, hx, e⟩
    exact ⟨x.2, by have : x.1 = key := by simpa using e
                   rw [← this]; exact hx⟩
  · rintro ⟨v, hv⟩
    exact ⟨_, hv, by simp⟩
theorem stay_alive (hk : k ≤ 250) (H : Stays md k) (hme : ∀ x ∈ me, x.1 ∈ lawKe) {i : Nat} (hi : i < k) : alive md me now (stayK i) = true := by
  unfold alive
  rw [H i hi]
  have : ¬ deadB me (stayK i) now = true := fun hd => by
    obtain ⟨a, ha, _⟩ := deadB_iff.1 hd
    obtain ⟨x, hx, e⟩ := List.mem_map.1 (hme _ ha)
    exact stay_other i (by omega) x (List.mem_range.1 hx) e.symm
  rw [Bool.not_eq_true] at this
  rw [this]; rfl
theorem Stays.tc (hk : k ≤ 250) (H : Stays md k) (hme : ∀ x ∈ me, x.1 ∈ lawKe) (hT : Tc md me now md' me') : Stays md' k := fun i hi => by
  have h1 := hT.al (stayK i)
  rw [stay_alive hk H hme hi] at h1
  unfold alive at h1
  simp only [Bool.and_eq_true] at h1
  exact h1.1
theorem Stays.rm (hk : k ≤ 250) (H : Stays md k) {x : Nat} (hx : x < 60) : Stays (rm md (otherK x)) k := fun i hi => by
  rw [hasK_rm, H i hi]
  simp [stay_other i (by omega) x hx]
theorem Stays.pt (hk : k ≤ 250) (H : Stays md k) {x : Nat} (hx : x < 60) (v : Option Addr) : Stays (pt md (otherK x) v) k := fun i hi => by
  obtain ⟨u, hu⟩ := hasK_iff.1 (H.rm hk hx i hi)
  exact hasK_iff.2 ⟨u, List.mem_cons_of_mem _ hu⟩
theorem Stays.tM (hk : k ≤ 250) (H : Stays md k) {x : Nat} (hx : x < 60) : Stays (tM md me (otherK x) now) k := by
  unfold Go.Proofs.YtkcjhabbgaaknaaGreat.tM
  split
  · exact H.rm hk hx
  · exact H
end
/-- How many keys stand ahead of a place. -/
def ahead (seed : Int) (R : Nat) : Nat := (lawK.filter fun k => decide (rv (hk seed k) < R)).length
theorem ahead_le (seed : Int) (R : Nat) : ahead seed R ≤ 310 := Nat.le_trans (List.length_filter_le _ _) (by decide +kernel)
theorem filter_lt {α : Type} {p q : α → Bool} : ∀ {l : List α}, (∀ x ∈ l, p x = true → q x = true) → (l.filter p).length ≤ (l.filter q).length ∧ ((∃ x ∈ l, p x = false ∧ q x = true) → (l.filter p).length < (l.filter q).length)
  | [], _ => ⟨Nat.le_refl _, fun ⟨_, h, _⟩ => by cases h⟩
  | a :: l, h => by
    have ih := filter_lt (l := l) (p := p) (q := q) fun x hx => h x (List.mem_cons_of_mem _ hx)
    have ha := h a List.mem_cons_self
    rw [List.filter_cons, List.filter_cons]
    cases hp : p a with
    | true =>
      rw [ha hp]
      simp only [if_true, List.length_cons]
      refine ⟨by omega, fun ⟨x, hx, h1, h2⟩ => ?_⟩
      rcases List.mem_cons.1 hx with rfl | hx
      · rw [hp] at h1; cases h1
      · have := ih.2 ⟨x, hx, h1, h2⟩; omega
    | false =>
      cases hq : q a with
      | true =>
        simp only [if_true, List.length_cons, Bool.false_eq_true, if_false]
        exact ⟨by omega, fun _ => by omega⟩
      | false =>
        simp only [Bool.false_eq_true, if_false]
        refine ⟨ih.1, fun ⟨x, hx, h1, h2⟩ => ?_⟩
        rcases List.mem_cons.1 hx with rfl | hx
        · rw [hq] at h2; cases h2
        · exact ih.2 ⟨x, hx, h1, h2⟩
theorem ahead_mono (seed : Int) {R R' : Nat} (h : R ≤ R') : ahead seed R ≤ ahead seed R' :=
  (filter_lt fun k _ hk' => by simp only [decide_eq_true_eq] at *; omega).1
theorem ahead_lt (seed : Int) {R R' : Nat} (_h : R ≤ R') {k : Key} (hk' : k ∈ lawK) (h1 : R ≤ rv (hk seed k)) (h2 : rv (hk seed k) < R') : ahead seed R < ahead seed R' :=
  (filter_lt fun k _ hk' => by simp only [decide_eq_true_eq] at *; omega).2 ⟨k, hk', by simpa using h1, by simpa using h2⟩
/-- What a scan in the chain does. -/
theorem scan_law {md : List (Key × Option Addr)} {seed : Int} {D c n c' : Nat} {l0 : List Key} (H : ScanE md seed D c n l0 c') (hD : D ≤ 14) (hR : 2 ^ (64 - D) ∣ rv c) (hn : 1 ≤ n) (hmd : ∀ x ∈ md, x.1 ∈ lawK) :
    c' < 2 ^ 64 ∧ (∀ k, hasK md k = true → rv c ≤ rv (hk seed k) → (c' ≠ 0 → rv (hk seed k) < rv c') → k ∈ l0) ∧
    (c' ≠ 0 → 2 ^ (64 - D) ∣ rv c' ∧ 10 + rv c / 2 ^ 50 + 10 * ahead seed (rv c) ≤ rv c' / 2 ^ 50 + 10 * ahead seed (rv c')) := by
  obtain ⟨m, hm, hS, hc', hend, hcnt⟩ := H
  have hW : 0 < 2 ^ (64 - D) := Nat.two_pow_pos _
  have hV : 2 ^ (64 - D) = 2 ^ (14 - D) * 2 ^ 50 := by rw [← Nat.pow_add]; congr 1; omega
  have hV1 : 1 ≤ 2 ^ (14 - D) := Nat.two_pow_pos _
  obtain ⟨r, hr⟩ := hR
  have hrc : rv c / 2 ^ (64 - D) = r := by rw [hr, Nat.mul_div_cancel_left _ hW]
  rw [hrc] at hS hend
  refine ⟨hc', fun k hk1 hk2 hk3 => (hS k).2 ⟨hasK_iff.1 hk1, ?_, ?_⟩, fun hnz => ?_⟩
  · rw [Nat.le_div_iff_mul_le hW, Nat.mul_comm, ← hr]; exact hk2
  · rw [Nat.div_lt_iff_lt_mul hW]
    rcases hend with ⟨e, hz⟩ | ⟨_, hnz, e⟩
    · rw [e, ← Nat.pow_add, show D + (64 - D) = 64 by omega]; exact rv_lt _
    · rw [← e]; exact hk3 hnz
  · obtain ⟨_, _, e⟩ : r + m < 2 ^ D ∧ c' ≠ 0 ∧ rv c' = (r + m) * 2 ^ (64 - D) := by
      rcases hend with ⟨_, hz⟩ | h
      · exact absurd hz hnz
      · exact h
    refine ⟨⟨r + m, by rw [e, Nat.mul_comm]⟩, ?_⟩
    have e2 : rv c' = rv c + m * 2 ^ (14 - D) * 2 ^ 50 := by rw [e, hr, Nat.add_mul, Nat.mul_comm r, Nat.mul_assoc, ← hV]
    have hdiv : rv c' / 2 ^ 50 = rv c / 2 ^ 50 + m * 2 ^ (14 - D) := by rw [e2, Nat.add_mul_div_right _ _ (by decide)]
    have hmv : m ≤ m * 2 ^ (14 - D) := Nat.le_mul_of_pos_right m hV1
    have hle : rv c ≤ rv c' := by omega
    have hmono := ahead_mono seed hle
    rcases hcnt with h | h | h
    · exact absurd h hnz
    · cases l0 with
      | nil => simp at h; omega
      | cons k l0 =>
        obtain ⟨⟨v, hv⟩, h1, h2⟩ := (hS k).1 List.mem_cons_self
        have h3 : rv c ≤ rv (hk seed k) := by
          rw [Nat.le_div_iff_mul_le hW, Nat.mul_comm, ← hr] at h1; exact h1
        have h4 : rv (hk seed k) < rv c' := by
          rw [Nat.div_lt_iff_lt_mul hW, ← e] at h2; exact h2
        have := ahead_lt seed hle (hmd _ hv) h3 h4
        omega
    · omega
end Go.Proofs.YtkcjhabbgaaknaaGreat
/- The law SpaceScans: its keys. -/
namespace Go.Proofs.YtkcjhabbgaaknaaGreat
open E
set_option maxRecDepth 100000
def intsI (l : List Int) : List Value := l.map fun i => Value.int .i64 i
theorem intsI_length (l : List Int) : (intsI l).length = l.length := by simp [intsI]
theorem intsI_at {h : Heap} {p : Option Addr} {l : List Int} (H : row h p (intsI l)) {i : Nat} (hi : i < l.length) : ∃ b o, p = some ⟨b, o, none⟩ ∧ get h b (o + i) = some (.int .i64 l[i]) := by
  rcases H with H | ⟨b, o, rfl, H⟩
  · have : l.length = 0 := by rw [← intsI_length, H]; rfl
    omega
  · exact ⟨b, o, rfl, H i _ (by simp [intsI, hi])⟩
theorem stay_name : ∀ i : Nat, i < 250 → bytesOf [115, 116, 97, 121] ++ utf8 (IntKind.i32.wrap (97 + Int.tmod (Int.tdiv (i : Int) 26) 26)) ++ utf8 (IntKind.i32.wrap (97 + Int.tmod (i : Int) 26)) = stayK i := by decide +kernel
theorem other_name : ∀ x : Nat, x < 60 → bytesOf [111, 116, 104, 101, 114] ++ utf8 (IntKind.i32.wrap (97 + (x : Int))) = otherK x := by decide +kernel
theorem keyF_any (i : Nat) (hi : i < 250) (w : World) : Calls Tryz.prog 16 #[.int .i64 (i : Nat)] w (RetX (.string (bs (stayK i))) w.heap (outw w)) := by
  refine begins (k16 {}) [.int .i64 (.ofN (.v 0))] [] { n := fun _ => i, h := fun _ => w.heap, o := outw w } 1 1000 rfl rfl rfl trivial (by simp [SV.den, IE.den, NE.den]) ?_
  conv => arg 7; reduce
  simp only [VC.den, BE.prop, IE.den, NE.den, SE.den, SV.den, HE.den, WS.den, Int.cast_ofNat_Int, inK_i64]
  have hnm := stay_name i hi
  have hlen := congrArg List.length hnm
  have h6 : (stayK i).length = 6 := rfl
  have h4 : (bytesOf [115, 116, 97, 121]).length = 4 := rfl
  have hd : Int.tdiv (i : Int) 26 = ((i / 26 : Nat) : Int) := by rw [Int.tdiv_eq_ediv_of_nonneg (by omega)]; rfl
  have hm : Int.tmod (i : Int) 26 = ((i % 26 : Nat) : Int) := by rw [Int.tmod_eq_emod_of_nonneg (by omega)]; rfl
  have hm2 : Int.tmod ((i / 26 : Nat) : Int) 26 = ((i / 26 % 26 : Nat) : Int) := by rw [Int.tmod_eq_emod_of_nonneg (by omega)]; rfl
  rw [List.length_append, List.length_append, h6, h4] at hlen
  refine ⟨by rw [hd]; omega, by rw [hd, hm2]; omega, by omega, by rw [hm]; omega, by rw [List.length_append, h4]; omega, ?_⟩
  rw [hnm]
  exact (fun hf wr hwr hor => ⟨rfl, by rw [hwr]; exact hf.none, hor⟩)
/-- A row of truths. -/
def bools (f : Nat → Bool) (n : Nat) : List Value := (List.range n).map fun i => .bool (f i)
theorem bools_len (f : Nat → Bool) (n : Nat) : (bools f n).length = n := by simp [bools]
theorem bools_get (f : Nat → Bool) {n i : Nat} (hi : i < n) : (bools f n)[i]? = some (.bool (f i)) := by simp [bools, hi]
theorem bools_set (f : Nat → Bool) (n t : Nat) (b : Bool) : (bools f n).set t (.bool b) = bools (fun j => if j = t then b else f j) n := by
  apply List.ext_getElem
  · simp [bools]
  · intro i h1 h2
    by_cases e : i = t
    · subst e; simp [bools]
    · simp [bools, e, List.getElem_set_ne (Ne.symm e)]
theorem bools_congr {f g : Nat → Bool} {n : Nat} (h : ∀ i, i < n → f i = g i) : bools f n = bools g n := by
  unfold bools
  exact List.map_congr_left fun i hi => by rw [h i (List.mem_range.1 hi)]
theorem copies_bools (n : Nat) : copies n [Value.bool false] = bools (fun _ => false) n := by
  apply List.ext_getElem?
  intro i
  by_cases hi : i < n
  · rw [copies_get _ _ _ (by simpa using hi), bools_get _ hi]; simp [Nat.mod_one]
  · rw [List.getElem?_eq_none (by rw [copies_length]; simpa using hi), List.getElem?_eq_none (by rw [bools_len]; omega)]
end Go.Proofs.YtkcjhabbgaaknaaGreat
/- The law SpaceScans: what a scan told is looked at. -/
namespace Go.Proofs.YtkcjhabbgaaknaaGreat
open E
set_option maxRecDepth 100000
abbrev o4 : Opts := { wraps := [117] }
/-- The blocks that the law keeps. -/
def lawZ (h0 : Heap) (tb : Nat) : Nat → Prop := fun b => b < h0.size + 1 ∨ b = tb
abbrev LoopN := List Value → Heap → Os × Array (Nat × ByteArray) → Prop
abbrev Kt (N : LoopN) : List KI := [KI.blk 3, KI.seq [1, 1, 0, 0, 1, 0, 1, 1, 1, 1, 1, 1, 1, 1, 1], KI.nxt 174 [2, 3, 9, 10, 11, 13, 14, 15, 16] N, KI.blk 2, KI.seq [1, 1, 1, 1, 1, 1, 1, 1, 1, 1]]
theorem row_frame {F : Nat → Prop} {h h' : Heap} {q : Option Addr} {vs : List Value} (hr : row h q vs) (hf : E.Frame F h h') (hF : ∀ a, q = some a → ¬ F a.block) : row h' q vs := by
  rcases hr with hr | ⟨b, o, rfl, hr⟩
  · exact .inl hr
  · refine .inr ⟨b, o, rfl, fun j v hj => ?_⟩
    have hg := hr j v hj
    rw [get_same (hf.old b (get_lt hg) (hF _ rfl))]; exact hg
/-- The vals at the others' loop. -/
abbrev valsE (cs os : List Int) (p q : Option Addr) (cap ocap k sb tb turn nxt : Nat) (j : Int) : List Value := [.slice p cs.length cap, .slice q os.length ocap, .pointer (some ⟨sb, 0, none⟩), .int .i64 (k : Nat), .func (.func 16) #[] #[], .slice (some ⟨tb, 0, none⟩) k k, .int .i64 (turn : Nat), .int .i64 (turn : Nat), .int .u64 (nxt : Nat), .int .i64 j]
abbrev pathE : List Nat := [0, 0, 1, 0, 1, 1, 1, 1, 0, 0, 1, 0, 0, 1, 0, 1, 1, 1, 1, 1, 1, 1, 1, 1]
abbrev KE (N : LoopN) : List KI := KI.blk 8 :: KI.seq [1, 1, 1, 1, 1, 0, 0, 1, 0, 0, 1, 0, 1, 1, 1, 1, 1, 1, 1, 1, 1] :: Kt N
set_option maxHeartbeats 1000000 in
theorem listL (R : Ending → World → Prop) (N0 : LoopN) (oo : Os × Array (Nat × ByteArray)) (seed : Int) (cs os : List Int) (p q : Option Addr) (cap ocap k sb tb nxt turn : Nat) (hk0 : k ≤ 250) (h0 h : Heap) (l : List Key) (lq : Option Addr) (lcap : Nat) (hll : l.length ≤ 2000)
    (D : Nat) (md md0 : List (Key × Option Addr)) (me me0 : List (Key × Int)) (f : Nat → Bool) (hlK : ∀ key ∈ l, key ∈ lawK) (hal : ∀ key ∈ l, alive md0 me0 turn key = true) (hT0 : Tc md0 me0 turn md me)
    (hx : Ext h0 h) (HS : SyS (fun b => lawZ h0 tb b ∨ ∃ a, lq = some a ∧ b = a.block) lawK lawKe seed D h sb md me) (hrow : row h lq (strs l)) (hne : ∀ a, lq = some a → a.block ≠ tb) (htb : h0.size ≤ tb) (hc : CellsAt h tb 0 (bools f k))
    (fin : ∀ h' D' md' me', Ext h0 h' → D ≤ D' → SyS (fun b => lawZ h0 tb b ∨ ∃ a, lq = some a ∧ b = a.block) lawK lawKe seed D' h' sb md' me' → Tc md0 me0 turn md' me' → CellsAt h' tb 0 (bools (fun j => f j || decide (stayK j ∈ l)) k) → AtLoop Tryz.prog (c4 o4) Tryz.f4 R pathE (KE N0) (valsE cs os p q cap ocap k sb tb turn nxt 0) h' oo) :
    AtLoop Tryz.prog (c4 o4) Tryz.f4 R [0, 0, 1, 0, 1, 1, 1, 0, 0, 1, 0, 0, 1, 0, 1, 1, 1, 1, 1, 1, 1, 1, 1] (KI.blk 4 :: KI.seq [1, 1, 1, 1, 0, 0, 1, 0, 0, 1, 0, 1, 1, 1, 1, 1, 1, 1, 1, 1] :: Kt N0)
      [.slice p cs.length cap, .slice q os.length ocap, .pointer (some ⟨sb, 0, none⟩), .int .i64 (k : Nat), .func (.func 16) #[] #[], .slice (some ⟨tb, 0, none⟩) k k, .int .i64 (turn : Nat), .int .i64 (turn : Nat), .slice lq l.length lcap, .int .u64 (nxt : Nat), .int .i64 0] h oo := by
  have hK := law_ok seed
  refine looping (k4 o4) [.slice (.v 0) (.v 0) (.v 1), .slice (.v 1) (.v 2) (.v 3), .ptr (.at (.v 4) (.c 0)), .int .i64 (.ofN (.v 5)), .fn (.func 16) [] [], .slice (.at (.v 6) (.c 0)) (.v 5) (.v 5), .int .i64 (.ofN (.v 7)), .int .i64 (.ofN (.v 7)), .slice (.v 2) (.v 8) (.v 9), .int .u64 (.ofN (.v 10)), .int .i64 (.ofN (.v 11))] []
    (fun y : Nat × Nat × List (Key × Option Addr) × List (Key × Int) × Heap => { n := fun j => if j = 0 then cs.length else if j = 1 then cap else if j = 2 then os.length else if j = 3 then ocap else if j = 4 then sb else if j = 5 then k else if j = 6 then tb else if j = 7 then turn else if j = 8 then l.length else if j = 9 then lcap else if j = 10 then nxt else y.1, p := fun j => if j = 0 then p else if j = 1 then q else lq, h := fun _ => y.2.2.2.2, o := oo }) 12 1000
    (fun y => y.1 ≤ l.length ∧ Ext h0 y.2.2.2.2 ∧ SyS (fun b => lawZ h0 tb b ∨ ∃ a, lq = some a ∧ b = a.block) lawK lawKe seed y.2.1 y.2.2.2.2 sb y.2.2.1 y.2.2.2.1 ∧ D ≤ y.2.1 ∧ Tc md0 me0 turn y.2.2.1 y.2.2.2.1 ∧ row y.2.2.2.2 lq (strs l) ∧ CellsAt y.2.2.2.2 tb 0 (bools (fun j => f j || decide (stayK j ∈ l.take y.1)) k))
    (fun y => l.length - y.1) (0, D, md, me, h) ⟨Nat.zero_le _, hx, HS, Nat.le_refl _, hT0, hrow, by simpa using hc⟩ rfl (by simp [SV.den, IE.den, NE.den, PE.den]) rfl (fun _ => rfl) (fun _ _ => trivial) ?_
  clear hc HS hx hrow hT0
  rintro ⟨i, D1, md1, me1, h1⟩ ⟨hi, hx, HS, hDD, hT, hrow, hc⟩ N hN
  simp only at hi hx HS hDD hT hrow hc
  simp only [SV.den, PE.den, NE.den, IE.den, List.map_cons, List.map_nil, reduceIte, Nat.reduceEqDiff] at hN
  conv => arg 7; reduce
  simp only [VC.den, BE.prop, IE.den, NE.den, SE.den, SV.den, HE.den, PE.den, BE.den, WS.den, WI.den, noneIn, List.map_cons, List.map_nil, Int.cast_ofNat_Int, reduceIte, Nat.reduceEqDiff, Env.setE, Env.setH, Env.setS, Env.setN, Env.setP, Env.setW]
  refine ⟨fun h1' => ?_, fun h1' _ => ?_⟩
  · have hlt : i < l.length := by omega
    have hq1 : ∀ a, lq = some a → ¬ ¬ (lawZ h0 tb a.block ∨ ∃ a', lq = some a' ∧ a.block = a'.block) := fun a ha hn => hn (.inr ⟨a, ha, rfl⟩)
    obtain ⟨lb, lo, rfl, g0⟩ := strs_atX hrow hlt
    have hne1 : lb ≠ tb := hne _ rfl
    refine ⟨lb, lo, rfl, h1', _, g0, fun w1 hw1 ho1 => ?_⟩
    refine (Get_Y hK l[i] turn w1 (by rw [hw1]; exact HS) (hlK _ (List.getElem_mem hlt))).mono ?_
    rintro e1 v1 ⟨pp, ok, rfl, hH, hf1, hp1, D2, hD2, H2⟩
    rw [hw1] at hf1
    have hpp : pp ≠ none := (has_alive HS.vals hH).2 (by rw [hT.al]; exact hal _ (List.getElem_mem hlt))
    have hT2 := hT.trans (Tc.one l[i])
    have x2 := frame_old hf1 hx (fun b hb => .inl (.inl (by omega)))
    have hc2 := hf1.cellsAt hc (fun h => h (.inl (.inr rfl)))
    have hrow2 := row_frame hrow hf1 hq1
    refine ⟨hp1.trans ho1, _, hf1, trivial, _, rfl, fun h => absurd h hpp, fun _ _ => ?_⟩
    refine looping (k4 o4) [.slice (.v 0) (.v 0) (.v 1), .slice (.v 1) (.v 2) (.v 3), .ptr (.at (.v 4) (.c 0)), .int .i64 (.ofN (.v 5)), .fn (.func 16) [] [], .slice (.at (.v 6) (.c 0)) (.v 5) (.v 5), .int .i64 (.ofN (.v 7)), .int .i64 (.ofN (.v 7)), .slice (.at (.v 12) (.v 13)) (.v 8) (.v 9), .int .u64 (.ofN (.v 10)), .int .i64 (.ofN (.v 11)), .int .i64 (.ofN (.v 14))] []
      (fun y : Nat × Heap => { n := fun j => if j = 0 then cs.length else if j = 1 then cap else if j = 2 then os.length else if j = 3 then ocap else if j = 4 then sb else if j = 5 then k else if j = 6 then tb else if j = 7 then turn else if j = 8 then l.length else if j = 9 then lcap else if j = 10 then nxt else if j = 11 then i else if j = 12 then lb else if j = 13 then lo else y.1, p := fun j => if j = 0 then p else q, h := fun _ => y.2, o := oo }) 15 1000
      (fun y => y.1 ≤ k ∧ E.Frame (fun b => b = tb) v1.heap y.2 ∧ CellsAt y.2 tb 0 (bools (fun j => (f j || decide (stayK j ∈ l.take i)) || (decide (j < y.1) && decide (stayK j = l[i]))) k))
      (fun y => k - y.1) (0, v1.heap) ⟨Nat.zero_le _, E.Frame.refl _ _, by simpa using hc2⟩ rfl (by simp [SV.den, IE.den, NE.den, PE.den]) rfl (fun _ => rfl) (fun _ _ => trivial) ?_
    rintro ⟨j, h2⟩ ⟨hj, hf2, hc3⟩ N2 hN2
    simp only at hj hf2 hc3
    simp only [SV.den, PE.den, NE.den, IE.den, List.map_cons, List.map_nil, reduceIte, Nat.reduceEqDiff] at hN2
    conv => arg 7; reduce
    simp only [VC.den, BE.prop, IE.den, NE.den, SE.den, SV.den, HE.den, PE.den, BE.den, WS.den, WI.den, List.map_cons, List.map_nil, Int.cast_ofNat_Int, reduceIte, Nat.reduceEqDiff, Env.setE, Env.setH, Env.setB, Env.setS, inK_i64]
    refine ⟨fun hjk => ?_, fun hjk => ⟨by omega, fun _ => ?_⟩⟩
    · have hjk' : j < k := by omega
      have g1 := hc3.at0 (bools_get _ hjk')
      simp only [Nat.lt_irrefl, decide_false, Bool.false_and, Bool.or_false] at g1
      have hwr := hc3.wr0 (j := j) (by rw [bools_len]; exact hjk')
      have key : ∀ (hh : Heap) (b : Bool), CellsAt hh tb 0 (bools (fun x => (f x || decide (stayK x ∈ l.take i)) || (decide (x < j) && decide (stayK x = l[i]))) k) → b = ((f j || decide (stayK j ∈ l.take i)) || decide (stayK j = l[i])) → CellsAt (setc hh tb j (.bool b)) tb 0 (bools (fun x => (f x || decide (stayK x ∈ l.take i)) || (decide (x < j + 1) && decide (stayK x = l[i]))) k) := by
        intro hh b hcc hb
        have := hcc.set0 j (.bool b)
        rw [bools_set] at this
        rw [bools_congr (g := fun x => if x = j then b else (f x || decide (stayK x ∈ l.take i)) || (decide (x < j) && decide (stayK x = l[i]))) fun x hx => ?_]
        · exact this
        · by_cases e : x = j
          · subst e; simp [hb]
          · have : decide (x < j + 1) = decide (x < j) := by rw [Bool.eq_iff_iff]; simp only [decide_eq_true_eq]; omega
            simp [e, this]
      refine ⟨hjk, _, g1, fun ht => ⟨⟨hjk, hwr.1, hwr.2, by omega, fun _ => ?_⟩, trivial⟩, fun hf' => ⟨by omega, l[i], ?_, fun w3 hw3 ho3 => ?_⟩⟩
      · exact hN2 (j + 1, _) ⟨hjk', hf2.set (b := tb) (fun _ => rfl) _ _, key h2 true hc3 (by rw [ht]; rfl)⟩ (by simp only; omega)
      · rcases row_frame hrow2 hf2 (fun a ha => hne a ha) with hr0 | ⟨b', o', e, hr0⟩
        · have := congrArg List.length hr0
          rw [strs_length] at this
          simp only [List.length_nil] at this
          omega
        · injection e with e; injection e with e1 e2; subst e1 e2
          exact hr0 i _ (by simp [strs, hlt])
      · refine (keyF_any j (by omega) w3).mono ?_
        rintro e3 v3 ⟨rfl, hx3, hp3⟩
        rw [hw3] at hx3
        have hc4 := hx3.cellsAt hc3
        have hwr4 := hc4.wr0 (j := j) (by rw [bools_len]; exact hjk')
        refine ⟨hp3.trans ho3, hx3, _, rfl, hjk, hwr4.1, hwr4.2, by omega, fun _ => ?_⟩
        refine hN2 (j + 1, _) ⟨hjk', (hf2.trans (hx3.frame (fun _ => False)) (fun _ h => h) (fun _ _ h => h.elim)).set (b := tb) (fun _ => rfl) _ _, key _ _ hc4 ?_⟩ (by simp only; omega)
        rw [Bool.not_eq_true] at hf'
        rw [hf', Bool.false_or, Bool.eq_iff_iff]
        simp only [decide_eq_true_eq]
        exact ⟨fun e => e.symm, fun e => e.symm⟩
    · have hjk' : j = k := by omega
      subst hjk'
      have hxx : Ext h0 h2 := ((x2.frame (fun _ => False)).trans hf2 (H := fun b => b = tb) (fun _ h => h.elim) (fun _ _ h => h)).ext fun n hn e => by omega
      have hcc : CellsAt h2 tb 0 (bools (fun x => f x || decide (stayK x ∈ l.take (i + 1))) j) := by
        rw [bools_congr (g := fun x => (f x || decide (stayK x ∈ l.take i)) || (decide (x < j) && decide (stayK x = l[i]))) fun x hx => ?_]
        · exact hc3
        · rw [List.take_succ_eq_append_getElem hlt]
          have : decide (stayK x ∈ l.take i ++ [l[i]]) = (decide (stayK x ∈ l.take i) || decide (stayK x = l[i])) := by
            rw [Bool.eq_iff_iff]; simp only [decide_eq_true_eq, Bool.or_eq_true, List.mem_append, List.mem_singleton]
          simp only [this, hx, decide_true, Bool.true_and, Bool.or_assoc]
      exact hN (i + 1, D2, _, _, h2) ⟨hlt, hxx, H2.wr (hf2.mono fun b _ e => by rw [e]; exact .inl (.inr rfl)), Nat.le_trans hDD hD2, hT2, row_frame hrow2 hf2 (fun a ha => hne a ha), hcc⟩ (by simp only; omega)
  · have hil : i = l.length := by omega
    subst hil
    rw [List.take_length] at hc
    exact fin h1 D1 md1 me1 hx hDD HS hT hc
end Go.Proofs.YtkcjhabbgaaknaaGreat
/- The law SpaceScans: what is done to other keys between. -/
namespace Go.Proofs.YtkcjhabbgaaknaaGreat
open E
set_option maxRecDepth 100000
abbrev pathF : List Nat := [0, 0, 1, 0, 1, 1, 1, 1, 1, 1, 1, 1, 1, 1]
abbrev KF : List KI := [KI.blk 11, KI.seq [1, 1, 1, 1, 1, 1, 1, 1, 1, 1, 1]]
theorem put_other {Z : Nat → Prop} {K Ke : List Key} {seed : Int} {D : Nat} {sb : Nat} {md : List (Key × Option Addr)} {me : List (Key × Int)} (hK : KyOk K Ke seed) (vb : Nat) (t : List UInt8) (key : Key) (now : Int) (h1 : Heap) (w : World) (H : SyS Z K Ke seed D h1 sb md me) (hx : Ext h1 w.heap) (hvb : h1.size ≤ vb) (hk : key ∈ K) (hT : TextAt w.heap vb t) :
    Calls Tryz.prog 7 #[.pointer (some ⟨sb, 0, none⟩), .string (bs key), .pointer (some ⟨vb, 0, none⟩), .int .i64 now] w fun e w' => e = .returned (.int .i64 0) ∧ SyR Z K Ke seed D w.heap (outw w) sb (pt (tM md me key now) key (some ⟨vb, 0, none⟩)) (rm (tM me me key now) key) w' := by
  have hz := hx.le
  have hvl := hT.1
  have HZ := H.zl
  have HS4 : SyS (fun b => Z b ∨ b = vb) K Ke seed D w.heap sb md me := H.zed hx fun b hb => by
    rcases hb with hb | hb
    · have := HZ b hb; exact ⟨.inl hb, by omega⟩
    · exact ⟨.inr (by omega), by omega⟩
  refine (Put_Y (Z := fun b => Z b ∨ b = vb) hK vb t key now w HS4 hk hT (.inr rfl)).mono ?_
  rintro e w' ⟨rfl, hf, ho, D', hD', H'⟩
  have HZ' := H'.zl
  exact ⟨rfl, hf.mono fun b _ h hz => h (.inl hz), ho, D', hD', H'.zed (Ext.refl _) fun b hb => ⟨.inl (.inl hb), HZ' b (.inl hb)⟩⟩
set_option maxHeartbeats 1000000 in
theorem othersL (R : Ending → World → Prop) (N0 : LoopN) (oo : Os × Array (Nat × ByteArray)) (seed : Int) (cs os : List Int) (p q : Option Addr) (cap ocap k sb tb nxt turn : Nat) (hk0 : k ≤ 250) (ht : turn < 3000) (h0 h : Heap) (hq : row h0 q (intsI os)) (_hol : os.length ≤ 9223372036854775807)
    (D : Nat) (md : List (Key × Option Addr)) (me : List (Key × Int)) (g : Nat → Bool) (hst : Stays md k) (hx : Ext h0 h) (HS : SyS (lawZ h0 tb) lawK lawKe seed D h sb md me) (hc : CellsAt h tb 0 (bools g k))
    (finN : nxt ≠ 0 → ∀ h' D' md' me', Ext h0 h' → D ≤ D' → SyS (lawZ h0 tb) lawK lawKe seed D' h' sb md' me' → Stays md' k → CellsAt h' tb 0 (bools g k) → N0 [.slice p cs.length cap, .slice q os.length ocap, .pointer (some ⟨sb, 0, none⟩), .int .i64 (k : Nat), .func (.func 16) #[] #[], .slice (some ⟨tb, 0, none⟩) k k, .int .u64 (nxt : Nat), .int .i64 ((turn : Int) + 1), .int .i64 ((turn : Int) + 1)] h' oo)
    (finF : nxt = 0 → ∀ h', Ext h0 h' → CellsAt h' tb 0 (bools g k) → AtLoop Tryz.prog (c4 o4) Tryz.f4 R pathF KF [.int .i64 (k : Nat), .slice (some ⟨tb, 0, none⟩) k k, .int .u64 (nxt : Nat), .int .i64 0] h' oo) :
    AtLoop Tryz.prog (c4 o4) Tryz.f4 R pathE (KE N0) (valsE cs os p q cap ocap k sb tb turn nxt 0) h oo := by
  have hK := law_ok seed
  refine looping (k4 o4) [.slice (.v 0) (.v 0) (.v 1), .slice (.v 1) (.v 2) (.v 3), .ptr (.at (.v 4) (.c 0)), .int .i64 (.ofN (.v 5)), .fn (.func 16) [] [], .slice (.at (.v 6) (.c 0)) (.v 5) (.v 5), .int .i64 (.ofN (.v 7)), .int .i64 (.ofN (.v 7)), .int .u64 (.ofN (.v 8)), .int .i64 (.ofN (.v 9))] []
    (fun y : Nat × Nat × List (Key × Option Addr) × List (Key × Int) × Heap => { n := fun j => if j = 0 then cs.length else if j = 1 then cap else if j = 2 then os.length else if j = 3 then ocap else if j = 4 then sb else if j = 5 then k else if j = 6 then tb else if j = 7 then turn else if j = 8 then nxt else y.1, p := fun j => if j = 0 then p else q, h := fun _ => y.2.2.2.2, o := oo }) 10 1000
    (fun y => y.1 ≤ 6 ∧ Ext h0 y.2.2.2.2 ∧ D ≤ y.2.1 ∧ SyS (lawZ h0 tb) lawK lawKe seed y.2.1 y.2.2.2.2 sb y.2.2.1 y.2.2.2.1 ∧ Stays y.2.2.1 k ∧ CellsAt y.2.2.2.2 tb 0 (bools g k))
    (fun y => 6 - y.1) (0, D, md, me, h) ⟨Nat.zero_le _, hx, Nat.le_refl _, HS, hst, hc⟩ rfl (by simp [SV.den, IE.den, NE.den, PE.den]) rfl (fun _ => rfl) (fun _ _ => trivial) ?_
  clear hc HS hst hx
  rintro ⟨j, D1, md1, me1, h1⟩ ⟨hj, hx, hDD, HS, hst, hc⟩ N hN
  simp only at hj hx hDD HS hst hc
  simp only [SV.den, PE.den, NE.den, IE.den, List.map_cons, List.map_nil, reduceIte, Nat.reduceEqDiff] at hN
  conv => arg 7; reduce
  simp only [VC.den, BE.prop, IE.den, NE.den, SE.den, SV.den, HE.den, PE.den, BE.den, WS.den, WI.den, noneIn, List.map_cons, List.map_nil, Int.cast_ofNat_Int, reduceIte, Nat.reduceEqDiff, Env.setE, Env.setH, Env.setB, Env.setI, Env.setN, Env.setP, Env.setW, inK_i64]
  have hkeep : ∀ {hh h2 : Heap}, Ext h1 hh → E.Frame (fun b => ¬ lawZ h0 tb b) hh h2 → Ext h0 h2 ∧ CellsAt h2 tb 0 (bools g k) := fun hx1 hf => ⟨frame_old hf (hx.trans hx1) (fun b hb => .inl (by omega)), hf.cellsAt (hx1.cellsAt hc) (fun h => h (.inr rfl))⟩
  refine ⟨fun hjl => ?_, fun _ => ⟨by omega, fun hz _ => ?_, fun hz => ⟨by omega, fun _ => ?_⟩⟩⟩
  · have hlt : j < os.length := by omega
    obtain ⟨b, o, rfl, g0⟩ := intsI_at (hx.row hq) hlt
    have hnext : ∀ h2 D2 md2 me2, Ext h0 h2 → D1 ≤ D2 → SyS (lawZ h0 tb) lawK lawKe seed D2 h2 sb md2 me2 → Stays md2 k → CellsAt h2 tb 0 (bools g k) → N (valsE cs os p (some ⟨b, o, none⟩) cap ocap k sb tb turn nxt ((j : Int) + 1)) h2 oo := fun h2 D2 md2 me2 a1 a2 a3 a4 a5 => hN (j + 1, D2, md2, me2, h2) ⟨by simp only; omega, a1, Nat.le_trans hDD a2, a3, a4, a5⟩ (by simp only; omega)
    refine ⟨b, o, rfl, hjl.1, _, g0, fun w1 hw1 ho1 => ?_⟩
    refine (Within_any _ 0 1048576 w1 (by omega) (by omega) (by omega)).mono ?_
    rintro e1 v1 ⟨x, rfl, hxa, hxb, hx1, hp1⟩
    rw [hw1] at hx1
    obtain ⟨x, rfl⟩ : ∃ n : Nat, x = n := ⟨x.toNat, by omega⟩
    have hm : Int.tmod (x : Int) 60 = ((x % 60 : Nat) : Int) := by rw [Int.tmod_eq_emod_of_nonneg (by omega)]; rfl
    have hx60 : x % 60 < 60 := Nat.mod_lt _ (by decide)
    have hnm := other_name (x % 60) hx60
    have hlen := congrArg List.length hnm
    have hol6 : (otherK (x % 60)).length ≤ 7 := by unfold otherK; split <;> simp only [List.length_cons, List.length_nil] <;> omega
    have h5 : (bytesOf [111, 116, 104, 101, 114]).length = 5 := rfl
    rw [List.length_append, h5] at hlen
    refine ⟨hp1.trans ho1, hx1, _, rfl, ?_⟩
    rw [hm]
    refine ⟨by omega, by omega, hjl.1, _, by rw [hx1.get (get_lt g0)]; exact g0, fun w2 hw2 ho2 => ?_⟩
    rw [hnm]
    refine (Within_any _ 0 1048576 w2 (by omega) (by omega) (by omega)).mono ?_
    rintro e2 v2 ⟨y, rfl, hya, hyb, hx2, hp2⟩
    rw [hw2] at hx2
    have hX := hx1.trans hx2
    have HS2 := HS.ext hX
    generalize x % 60 = x at *
    refine ⟨hp2.trans ho2, hx2, _, rfl, fun _ w3 hw3 ho3 => ?_, fun _ => ⟨fun _ w3 hw3 ho3 => ?_, fun _ w3 hw3 ho3 => ?_⟩⟩
    · refine (Delete_Y hK (otherK x) turn w3 (by rw [hw3]; exact HS2) (other_in hx60)).mono ?_
      rintro e3 v3 ⟨bb, md3, me3, rfl, ⟨hf3, hp3, D3, hD3, H3⟩, hcase⟩
      rw [hw3] at hf3
      obtain ⟨k1, k2⟩ := hkeep hX hf3
      have hst3 : Stays md3 k := by
        rcases hcase with ⟨rfl, _⟩ | ⟨rfl, _⟩
        · exact hst.tM hk0 hx60
        · exact (hst.tM hk0 hx60).rm hk0 hx60
      refine ⟨hp3.trans ho3, _, hf3, trivial, _, rfl, ?_⟩
      exact ⟨by omega, fun _ => hnext v3.heap D3 md3 me3 k1 hD3 H3 hst3 k2⟩
    · refine (OfText_any (bytesOf [120]) w3).mono ?_
      rintro e3 v3 ⟨vb, rfl, hvb, hT, hx3, hp3⟩
      rw [hw3] at hx3 hvb
      refine ⟨hp3.trans ho3, hx3, _, rfl, fun w4 hw4 ho4 => ?_⟩
      refine (put_other hK vb (bytesOf [120]) (otherK x) turn v2.heap w4 HS2 (by rw [hw4]; exact hx3) hvb (other_in hx60) (by rw [hw4]; exact hT)).mono ?_
      rintro e4 v4 ⟨rfl, hf4, hp4, D4, hD4, H4⟩
      rw [hw4] at hf4
      obtain ⟨k1, k2⟩ := hkeep (hX.trans hx3) hf4
      refine ⟨hp4.trans ho4, _, hf4, trivial, _, rfl, ?_⟩
      exact ⟨by omega, fun _ => hnext v4.heap D4 _ _ k1 hD4 H4 ((hst.tM hk0 hx60).pt hk0 hx60 _) k2⟩
    · refine (OfText_any (bytesOf [120]) w3).mono ?_
      rintro e3 v3 ⟨vb, rfl, hvb, hT, hx3, hp3⟩
      rw [hw3] at hx3 hvb
      refine ⟨hp3.trans ho3, hx3, _, rfl, fun w4 hw4 ho4 => ?_⟩
      refine (put_other hK vb (bytesOf [120]) (otherK x) turn v2.heap w4 HS2 (by rw [hw4]; exact hx3) hvb (other_in hx60) (by rw [hw4]; exact hT)).mono ?_
      rintro e4 v4 ⟨rfl, hf4, hp4, D4, hD4, H4⟩
      rw [hw4] at hf4
      refine ⟨hp4.trans ho4, _, hf4, trivial, _, rfl, ?_⟩
      refine ⟨by omega, fun w5 hw5 ho5 => ?_⟩
      refine (Expire_Y hK (otherK x) ((turn : Int) + 2) turn w5 (by rw [hw5]; exact H4) (other_in hx60) (other_ke hx60) (by omega)).mono ?_
      rintro e5 v5 ⟨bb, md5, me5, rfl, ⟨hf5, hp5, D5, hD5, H5⟩, rfl, _⟩
      rw [hw5] at hf5
      obtain ⟨k1, k2⟩ := hkeep (hX.trans hx3) (frz_trans hf4 hf5)
      exact ⟨hp5.trans ho5, _, hf5, trivial, _, rfl, by omega, fun _ => hnext v5.heap D5 _ me5 k1 (Nat.le_trans hD4 hD5) H5 (((hst.tM hk0 hx60).pt hk0 hx60 _).tM hk0 hx60) k2⟩
  · exact finF (by omega) h1 hx hc
  · exact finN (by omega) h1 D1 md1 me1 hx hDD HS hst hc
end Go.Proofs.YtkcjhabbgaaknaaGreat
/- The law SpaceScans: its turns. -/
namespace Go.Proofs.YtkcjhabbgaaknaaGreat
open E
set_option maxRecDepth 100000
theorem SyS.d14 {Z : Nat → Prop} {K Ke : List Key} {seed : Int} {D : Nat} {h : Heap} {sb : Nat} {md : List (Key × Option Addr)} {me : List (Key × Int)} (H : SyS Z K Ke seed D h sb md me) : D ≤ 14 := by
  obtain ⟨s, H, _, _, rfl, _⟩ := H
  exact H.d.d14
theorem finalL (oo : Os × Array (Nat × ByteArray)) (k tb : Nat) (hk0 : k ≤ 250) (h0 h : Heap) (g : Nat → Bool) (hx : Ext h0 h) (hc : CellsAt h tb 0 (bools g k)) (hg : ∀ i, i < k → g i = true) :
    AtLoop Tryz.prog (c4 o4) Tryz.f4 (RetX (.bool true) h0 oo) pathF KF [.int .i64 (k : Nat), .slice (some ⟨tb, 0, none⟩) k k, .int .u64 ((0 : Nat) : Int), .int .i64 0] h oo := by
  refine looping (k4 o4) [.int .i64 (.ofN (.v 0)), .slice (.at (.v 1) (.c 0)) (.v 0) (.v 0), .int .u64 (.c 0), .int .i64 (.ofN (.v 2))] []
    (fun y : Nat => { n := fun j => if j = 0 then k else if j = 1 then tb else y, h := fun _ => h, o := oo }) 3 1000
    (fun y => y ≤ k) (fun y => k - y) 0 (Nat.zero_le _) rfl (by simp [SV.den, IE.den, NE.den, PE.den]) rfl (fun _ => rfl) (fun _ _ => trivial) ?_
  intro i hi N hN
  simp only [SV.den, PE.den, NE.den, IE.den, List.map_cons, List.map_nil, reduceIte, Nat.reduceEqDiff] at hN
  conv => arg 7; reduce
  simp only [VC.den, BE.prop, IE.den, NE.den, SV.den, HE.den, PE.den, BE.den, WS.den, List.map_cons, List.map_nil, Int.cast_ofNat_Int, reduceIte, Nat.reduceEqDiff, Env.setE, Env.setH, Env.setB, inK_i64]
  refine ⟨fun hlt => ?_, fun hlt => ?_⟩
  · have hik : i < k := by omega
    refine ⟨hlt, _, hc.at0 (bools_get _ hik), fun hn => absurd (hg i hik) hn, fun _ => ⟨by omega, fun _ => ?_⟩⟩
    exact hN (i + 1) hik (by omega)
  · intro w hw ho
    refine (known_any w).mono ?_
    rintro e v ⟨rfl, hx1, hp1⟩
    rw [hw] at hx1
    exact ⟨hp1.trans ho, hx1, _, rfl, fun _ w2 hw2 ho2 => ⟨rfl, by rw [hw2]; exact hx.trans hx1, ho2⟩⟩
set_option maxHeartbeats 1000000 in
theorem turns (seed : Int) (cs os : List Int) (p q : Option Addr) (cap ocap k sb tb : Nat) (hk : k ≤ 250) (h0 h : Heap) (oo : Os × Array (Nat × ByteArray)) (hr : row h0 p (intsI cs)) (hq : row h0 q (intsI os)) (htb : h0.size < tb) (_hcl : cs.length ≤ 9223372036854775807) (hol : os.length ≤ 9223372036854775807)
    (D : Nat) (md : List (Key × Option Addr)) (hst : Stays md k) (hx : Ext h0 h) (HS : SyS (lawZ h0 tb) lawK lawKe seed D h sb md []) (hc : CellsAt h tb 0 (bools (fun _ => false) k)) :
    AtLoop Tryz.prog (c4 o4) Tryz.f4 (RetX (.bool true) h0 oo) [0, 0, 1, 0, 1, 1, 1, 1, 1, 1, 1, 1, 1] [KI.blk 2, KI.seq [1, 1, 1, 1, 1, 1, 1, 1, 1, 1]] [.slice p cs.length cap, .slice q os.length ocap, .pointer (some ⟨sb, 0, none⟩), .int .i64 (k : Nat), .func (.func 16) #[] #[], .slice (some ⟨tb, 0, none⟩) k k, .int .u64 0, .int .i64 0, .int .i64 0] h oo := by
  have hK := law_ok seed
  refine looping (k4 o4) [.slice (.v 0) (.v 0) (.v 1), .slice (.v 1) (.v 2) (.v 3), .ptr (.at (.v 4) (.c 0)), .int .i64 (.ofN (.v 5)), .fn (.func 16) [] [], .slice (.at (.v 6) (.c 0)) (.v 5) (.v 5), .int .u64 (.ofN (.v 7)), .int .i64 (.ofN (.v 8)), .int .i64 (.ofN (.v 8))] []
    (fun y : Nat × Nat × (Nat → Bool) × Nat × List (Key × Option Addr) × List (Key × Int) × Heap => { n := fun j => if j = 0 then cs.length else if j = 1 then cap else if j = 2 then os.length else if j = 3 then ocap else if j = 4 then sb else if j = 5 then k else if j = 6 then tb else if j = 7 then y.2.1 else y.1, p := fun j => if j = 0 then p else q, h := fun _ => y.2.2.2.2.2.2, o := oo }) 9 1000
    (fun y => y.1 ≤ 3000 ∧ Ext h0 y.2.2.2.2.2.2 ∧ SyS (lawZ h0 tb) lawK lawKe seed y.2.2.2.1 y.2.2.2.2.2.2 sb y.2.2.2.2.1 y.2.2.2.2.2.1 ∧ Stays y.2.2.2.2.1 k ∧ CellsAt y.2.2.2.2.2.2 tb 0 (bools y.2.2.1 k) ∧ y.2.1 < 2 ^ 64 ∧ 2 ^ (64 - y.2.2.2.1) ∣ rv y.2.1 ∧ (y.1 ≠ 0 → y.2.1 ≠ 0) ∧ (∀ i, i < k → rv (Go.Proofs.YtkcjhabbgaaknaaGreat.hk seed (stayK i)) < rv y.2.1 → y.2.2.1 i = true) ∧ 10 * y.1 ≤ rv y.2.1 / 2 ^ 50 + 10 * ahead seed (rv y.2.1))
    (fun y => 3000 - y.1) (0, 0, fun _ => false, D, md, [], h) ⟨Nat.zero_le _, hx, HS, hst, hc, Nat.two_pow_pos 64, by rw [rv_zero]; exact Nat.dvd_zero _, fun h => absurd rfl h, fun i _ h => by rw [rv_zero] at h; omega, by omega⟩ rfl (by simp [SV.den, IE.den, NE.den, PE.den]) rfl (fun _ => rfl) (fun _ _ => trivial) ?_
  clear hc HS hst hx
  rintro ⟨turn, c, f, D, md, me, h⟩ ⟨ht, hx, HS, hst, hc, hc64, hdv, hnz, htold, hms⟩ N hN
  simp only at ht hx HS hst hc hc64 hdv hnz htold hms
  simp only [SV.den, PE.den, NE.den, IE.den, List.map_cons, List.map_nil, reduceIte, Nat.reduceEqDiff] at hN
  conv => arg 7; reduce
  simp only [VC.den, BE.prop, IE.den, NE.den, SV.den, HE.den, PE.den, WS.den, WI.den, noneIn, List.map_cons, List.map_nil, Int.cast_ofNat_Int, reduceIte, Nat.reduceEqDiff, Env.setE, Env.setH, Env.setI, Env.setN, Env.setP, Env.setW]
  have hd14 := HS.d14
  have hins := HS.ins
  have go : ∀ (hh : Heap) (n : Nat), 1 ≤ n → n ≤ 20 → Ext h hh → turn < 3000 → ∀ w : World, w.heap = hh → outw w = oo → Calls Tryz.prog 17 #[.pointer (some ⟨sb, 0, none⟩), .int .u64 (c : Nat), .int .i64 (n : Nat), .int .i64 (turn : Nat)] w fun e w' => outw w' = oo ∧ ∃ F, E.Frame F hh w'.heap ∧ True ∧ ∃ x4 x5 x6 x7, e = .returned (.tuple #[.slice x4 x5 x6, .int .u64 x7]) ∧
      AtLoop Tryz.prog (c4 o4) Tryz.f4 (RetX (.bool true) h0 oo) [0, 0, 1, 0, 1, 1, 1, 0, 0, 1, 0, 0, 1, 0, 1, 1, 1, 1, 1, 1, 1, 1, 1] (KI.blk 4 :: KI.seq [1, 1, 1, 1, 0, 0, 1, 0, 0, 1, 0, 1, 1, 1, 1, 1, 1, 1, 1, 1] :: Kt N)
        [.slice p cs.length cap, .slice q os.length ocap, .pointer (some ⟨sb, 0, none⟩), .int .i64 (k : Nat), .func (.func 16) #[] #[], .slice (some ⟨tb, 0, none⟩) k k, .int .i64 (turn : Nat), .int .i64 (turn : Nat), .slice x4 x5 x6, .int .u64 x7, .int .i64 0] w'.heap oo := by
    intro hh n hn1 hn2 hxh ht3 w hw ho
    refine (Scan_Y hK c n hc64 hn1 (by omega) turn w (by rw [hw]; exact HS.ext hxh)).mono ?_
    rintro e v ⟨l0, lq, lcap, c', hSE, hl0, rfl, hrow, hf, hp, hnew, md', me', D', hT, hDD, H'⟩
    rw [hw] at hf hnew
    obtain ⟨hc', hin, hmore⟩ := scan_law hSE hd14 hdv hn1 hins.1
    have hlK : ∀ key ∈ l0.filter (alive md me turn), key ∈ lawK := fun key hk' => by
      obtain ⟨m, _, hm, _⟩ := hSE
      obtain ⟨⟨v, hv⟩, _⟩ := (hm key).1 (List.mem_filter.1 hk').1
      exact hins.1 _ hv
    have hxv := frame_old hf (hx.trans hxh) (fun b hb => .inl (by omega))
    have htbl := hc.1
    have hz := hxh.le
    refine ⟨hp.trans ho, _, hf, trivial, _, _, _, _, rfl, ?_⟩
    have hall : ∀ i, i < k → (c' ≠ 0 → rv (Go.Proofs.YtkcjhabbgaaknaaGreat.hk seed (stayK i)) < rv c') → (f i || decide (stayK i ∈ l0.filter (alive md me turn))) = true := fun i hi hlt => by
      by_cases hpos : rv (Go.Proofs.YtkcjhabbgaaknaaGreat.hk seed (stayK i)) < rv c
      · rw [htold i hi hpos]; rfl
      · have h1 := hin (stayK i) (hst i hi) (Nat.le_of_not_lt hpos) hlt
        have h2 : stayK i ∈ l0.filter (alive md me turn) := List.mem_filter.2 ⟨h1, stay_alive hk hst hins.2 hi⟩
        simp only [h2, decide_true, Bool.or_true]
    refine listL _ N oo seed cs os p q cap ocap k sb tb c' turn hk h0 v.heap (l0.filter (alive md me turn)) lq lcap (Nat.le_trans (List.length_filter_le _ _) hl0) D' md' md me' me f hlK (fun key hk' => (List.mem_filter.1 hk').2) hT hxv H' hrow (fun a ha e => by have := hnew a ha; omega) (by omega) (hf.cellsAt (hxh.cellsAt hc) (fun h => h (.inr rfl))) ?_
    intro h2 D2 md2 me2 x2 hD2 H2 hT2 hc2
    have HZ2 := H2.zl
    refine othersL _ N oo seed cs os p q cap ocap k sb tb c' turn hk ht3 h0 h2 hq hol D2 md2 me2 _ (hst.tc hk hins.2 hT2) x2 (H2.zed (Ext.refl _) fun b hb => ⟨.inl (.inl hb), HZ2 b (.inl hb)⟩) hc2 ?_ ?_
    · intro hz3 h3 D3 md3 me3 x3 hD3 H3 hst3 hc3
      obtain ⟨g1, g2⟩ := hmore hz3
      exact hN (turn + 1, c', _, D3, md3, me3, h3) ⟨ht3, x3, H3, hst3, hc3, hc', Nat.dvd_trans (Nat.pow_dvd_pow 2 (by simp only; omega)) g1, fun _ => hz3, fun i hi hlt => hall i hi fun _ => hlt, by simp only; omega⟩ (by simp only; omega)
    · intro hz3 h3 x3 hc3
      subst hz3
      exact finalL oo k tb hk h0 h3 _ x3 hc3 fun i hi => hall i hi fun h => absurd rfl h
  refine ⟨fun ht3 => ⟨fun htc => ?_, fun _ w hw ho => ?_⟩, fun ht3 => ?_⟩
  · have hlt : turn < cs.length := by omega
    obtain ⟨b, o, rfl, g0⟩ := intsI_at (hx.row hr) hlt
    refine ⟨b, o, rfl, htc, _, g0, fun w hw ho => ?_⟩
    refine (Within_any _ 1 20 w (by omega) (by omega) (by omega)).mono ?_
    rintro e1 v1 ⟨x, rfl, hxa, hxb, hx1, hp1⟩
    rw [hw] at hx1
    obtain ⟨n, rfl⟩ : ∃ n : Nat, x = n := ⟨x.toNat, by omega⟩
    refine ⟨hp1.trans ho, hx1, _, rfl, fun w2 hw2 ho2 => ?_⟩
    refine (go v1.heap n (by omega) (by omega) hx1 (by omega) w2 hw2 ho2).mono ?_
    rintro e2 v2 ⟨q1, F, q2, q3, x4, x5, x6, x7, q4, q5⟩
    exact ⟨q1, F, q2, q3, x4, x5, x6, x7, q4, fun _ => q5⟩
  · refine (go h 2 (by omega) (by omega) (Ext.refl _) (by omega) w hw ho).mono ?_
    rintro e2 v2 ⟨q1, F, q2, q3, x4, x5, x6, x7, q4, q5⟩
    exact ⟨q1, F, q2, q3, x4, x5, x6, x7, q4, fun _ => q5⟩
  · exfalso
    have h1 := ahead_le seed (rv c)
    have h2 : rv c / 2 ^ 50 < 2 ^ 14 := by
      rw [Nat.div_lt_iff_lt_mul (by decide), ← Nat.pow_add]; exact rv_lt c
    omega
end Go.Proofs.YtkcjhabbgaaknaaGreat
/- The law SpaceScans: it answers true. -/
namespace Go.Proofs.YtkcjhabbgaaknaaGreat
open E
set_option maxRecDepth 100000
set_option maxHeartbeats 1000000 in
theorem SpaceScans_any (seed l1 l2 nn : Int) (cs os : List Int) (p q : Option Addr) (cap ocap : Nat) (w : World) (hr : row w.heap p (intsI cs)) (hq : row w.heap q (intsI os)) (hcl : cs.length ≤ 9223372036854775807) (hol : os.length ≤ 9223372036854775807) :
    Calls Tryz.prog 4 #[.agg #[.int .u64 seed, .int .i64 l1, .int .i64 l2], .int .i64 nn, .slice p cs.length cap, .slice q os.length ocap] w (RetX (.bool true) w.heap (outw w)) := by
  refine begins (k4 o4) [.agg [.int .u64 (.v 0), .int .i64 (.v 1), .int .i64 (.v 2)], .int .i64 (.v 3), .slice (.v 0) (.v 0) (.v 1), .slice (.v 1) (.v 2) (.v 3)] [] { i := fun j => if j = 0 then seed else if j = 1 then l1 else if j = 2 then l2 else nn, n := fun j => if j = 0 then cs.length else if j = 1 then cap else if j = 2 then os.length else ocap, p := fun j => if j = 0 then p else q, h := fun _ => w.heap, o := outw w } 4 1000 rfl rfl rfl trivial (by simp [SV.den, IE.den, NE.den, PE.den]) ?_
  conv => arg 7; reduce
  simp only [VC.den, BE.prop, IE.den, NE.den, SV.den, HE.den, PE.den, BE.den, WS.den, List.map_cons, List.map_nil, Int.cast_ofNat_Int, reduceIte, Nat.reduceEqDiff, Env.setE, Env.setH, Env.setI, Env.setN, Env.setP]
  have hE0 := ext_push w.heap (.cells #[.int .u64 seed, .int .i64 l1, .int .i64 l2] 26)
  have hsz : (w.heap.push (.cells #[.int .u64 seed, .int .i64 l1, .int .i64 l2] 26)).size = w.heap.size + 1 := by simp
  have hK := law_ok seed
  intro w1 hw1 ho1
  refine (SNew_Y (fun b => b < w.heap.size + 1) lawK lawKe seed l1 l2 w1 (fun b h => by rw [hw1, hsz]; exact h)).mono ?_
  rintro e1 v1 ⟨sb, rfl, hx1, H1, hp1⟩
  rw [hw1] at hx1
  refine ⟨hp1.trans ho1, hx1, _, rfl, fun h => (by cases h), fun _ w2 hw2 ho2 => ?_⟩
  refine (Within_any nn 0 250 w2 (by omega) (by omega) (by omega)).mono ?_
  rintro e2 v2 ⟨kk, rfl, hka, hkb, hx2, hp2⟩
  rw [hw2] at hx2
  obtain ⟨k, rfl⟩ : ∃ k : Nat, kk = k := ⟨kk.toNat, by omega⟩
  have hk : k ≤ 250 := by omega
  refine ⟨hp2.trans ho2, hx2, _, rfl, ?_⟩
  intro _
  have x2 := hE0.trans (hx1.trans hx2)
  refine looping (k4 o4) [.slice (.v 0) (.v 0) (.v 1), .slice (.v 1) (.v 2) (.v 3), .ptr (.at (.v 4) (.c 0)), .int .i64 (.ofN (.v 5)), .fn (.func 16) [] [], .int .i64 (.ofN (.v 6))] []
    (fun y : Nat × List (Key × Option Addr) × Nat × Heap => { n := fun j => if j = 0 then cs.length else if j = 1 then cap else if j = 2 then os.length else if j = 3 then ocap else if j = 4 then sb else if j = 5 then k else y.1, p := fun j => if j = 0 then p else q, h := fun _ => y.2.2.2, o := outw w }) 7 1000
    (fun y => y.1 ≤ k ∧ Stays y.2.1 y.1 ∧ Ext w.heap y.2.2.2 ∧ SyS (fun b => b < w.heap.size + 1) lawK lawKe seed y.2.2.1 y.2.2.2 sb y.2.1 []) (fun y => k - y.1) (0, [], 0, v2.heap)
    ⟨Nat.zero_le _, fun i hi => absurd hi (Nat.not_lt_zero _), x2, H1.ext hx2⟩ rfl (by simp [SV.den, IE.den, NE.den, PE.den]) rfl (fun _ => rfl) (fun _ _ => trivial) ?_
  rintro ⟨i, md, D, h⟩ ⟨hi, hst, hx, HS⟩ N hN
  simp only at hi hst hx HS
  simp only [SV.den, PE.den, NE.den, IE.den, List.map_cons, List.map_nil, reduceIte, Nat.reduceEqDiff] at hN
  conv => arg 7; reduce
  simp only [VC.den, BE.prop, IE.den, NE.den, SE.den, SV.den, HE.den, PE.den, BE.den, WS.den, WI.den, noneIn, List.map_cons, List.map_nil, Int.cast_ofNat_Int, reduceIte, Nat.reduceEqDiff, Env.setE, Env.setH, Env.setS, Env.setI, Env.setN, Env.setP, Env.setW, inK_i64]
  refine ⟨fun h1 => ?_, fun h1 => ?_⟩
  · have hlt : i < k := by omega
    intro w3 hw3 ho3
    refine (keyF_any i (by omega) _).mono ?_
    rintro e3 v3 ⟨rfl, hx3, hp3⟩
    rw [hw3] at hx3
    refine ⟨hp3.trans ho3, hx3, ?_⟩
    refine ⟨_, rfl, fun w4 hw4 ho4 => ?_⟩
    refine (OfText_any (bytesOf [118]) w4).mono ?_
    rintro e4 v4 ⟨vb, rfl, hvb, hT, hx4, hp4⟩
    rw [hw4] at hx4 hvb
    have hX := hx3.trans hx4
    have hz := hx.le
    have hz3 := hx3.le
    have hz4 := hx4.le
    have hvl := hT.1
    have HZ := HS.zl
    have HS4 : SyS (fun b => b < w.heap.size + 1 ∨ b = vb) lawK lawKe seed D v4.heap sb md [] := HS.zed hX fun b hb => by
      rcases hb with hb | hb
      · have := HZ b hb; exact ⟨.inl hb, by omega⟩
      · exact ⟨.inr (by omega), by omega⟩
    refine ⟨hp4.trans ho4, hx4, _, rfl, fun w5 hw5 ho5 => ?_⟩
    refine (Put_Y (Z := fun b => b < w.heap.size + 1 ∨ b = vb) hK vb (bytesOf [118]) (stayK i) 0 w5 (by rw [hw5]; exact HS4) (stay_in (by omega)) (by rw [hw5]; exact hT) (.inr rfl)).mono ?_
    rintro e5 v5 ⟨rfl, hf5, hp5, D5, hD5, H5⟩
    rw [hw5] at hf5
    have e1 : tM md [] (stayK i) 0 = md := tM_live (by simp [deadB])
    have e2 : rm (tM ([] : List (Key × Int)) [] (stayK i) 0) (stayK i) = [] := by rw [tM_live (by simp [deadB])]; rfl
    rw [e1, e2] at H5
    have x5 := frame_old hf5 (hx.trans hX) (fun b hb => .inl (by omega))
    have HZ5 := H5.zl
    have H5' : SyS (fun b => b < w.heap.size + 1) lawK lawKe seed D5 v5.heap sb (pt md (stayK i) (some ⟨vb, 0, none⟩)) [] := H5.zed (Ext.refl _) fun b hb => ⟨.inl (.inl hb), HZ5 b (.inl hb)⟩
    refine ⟨hp5.trans ho5, _, hf5, trivial, _, rfl, fun h => absurd rfl h, fun _ => ⟨by omega, fun _ => ?_⟩⟩
    refine hN (i + 1, _, D5, v5.heap) ⟨hlt, fun j hj => ?_, x5, H5'⟩ (by simp only; omega)
    by_cases e : j = i
    · rw [e]; exact hasK_iff.2 ⟨_, List.mem_cons_self⟩
    · obtain ⟨u, hu⟩ := hasK_iff.1 (hst j (by omega))
      exact hasK_iff.2 ⟨u, List.mem_cons_of_mem _ (mem_rm.2 ⟨hu, fun e2 => e (stay_inj j (by omega) i (by omega) e2)⟩)⟩
  · have HZ := HS.zl
    have htb : w.heap.size < h.size := HZ w.heap.size (Nat.lt_succ_self _)
    refine ⟨by omega, by omega, by omega, by omega, ?_⟩
    rw [Int.toNat_natCast]
    intro _
    have hik : i = k := by omega
    subst hik
    have hxp := ext_push h (.cells (copies i [Value.bool false]).toArray 4)
    have hmade := CellsAt.made h (copies i [Value.bool false]) 4
    rw [copies_bools] at hmade hxp
    rw [copies_bools]
    exact turns seed cs os p q cap ocap i sb h.size hk w.heap _ (outw w) hr hq htb hcl hol D md hst (hx.trans hxp) (HS.zed hxp fun b hb => by
      rw [Array.size_push]
      rcases hb with hb | hb
      · have := HZ b hb; exact ⟨.inl hb, by omega⟩
      · exact ⟨.inr (by omega), by omega⟩) hmade
end Go.Proofs.YtkcjhabbgaaknaaGreat
