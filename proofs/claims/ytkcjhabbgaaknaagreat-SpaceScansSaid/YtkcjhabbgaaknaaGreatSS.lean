import Derived.Test.YtkcjhabbgaaknaaGreatSNP
import Derived.Test.YtkcjhabbgaaknaaGreatSNU
import Derived.Test.YtkcjhabbgaaknaaGreatSD
/- A scan of a dict of several nodes. -/
namespace Go.Proofs.YtkcjhabbgaaknaaGreat
open E
set_option maxRecDepth 100000
theorem strs_atX {h : Heap} {p : Option Addr} {l : List Key} (H : row h p (strs l)) {i : Nat} (hi : i < l.length) : ∃ b o, p = some ⟨b, o, none⟩ ∧ get h b (o + i) = some (.string (bs l[i])) := by
  rcases H with H | ⟨b, o, rfl, H⟩
  · have : l.length = 0 := by rw [← strs_length, H]; rfl
    omega
  · exact ⟨b, o, rfl, H i _ (by simp [strs, hi])⟩
theorem BucketX_any {S : Nat → Prop} {d db D C : Nat} {seed : Int} {M : List (Key × Option Addr)} {nd : Nat → Nd (Option Addr)} (x : Nat) (hx : x < 2 ^ 64) (w : World) (H : DirAt Value.pointer w.heap S d db D C seed M nd) :
    Calls Tryz.prog 67 #[.pointer (some ⟨d, 0, none⟩), .int .u64 (x : Nat)] w fun e w' => ∃ l : List Key, (∀ k, k ∈ l ↔ (∃ v, (k, v) ∈ M) ∧ hk seed k % 2 ^ D = x % 2 ^ D) ∧ l.length ≤ 112 ∧ KeysR l w.heap (outw w) e w' := by
  refine begins (k67 {}) [.ptr (.at (.v 0) (.c 0)), .int .u64 (.ofN (.v 3))] [(.v 0, .c 0, [.int .u64 (.v 0), .int .i64 (.ofN (.v 5)), .slice (.at (.v 1) (.c 0)) (.v 6) (.v 2), .int .i64 (.ofN (.v 4))])]
    { n := fun j => if j = 0 then d else if j = 1 then db else if j = 2 then C else if j = 3 then x else if j = 4 then M.length else if j = 5 then D else 2 ^ D, i := fun _ => seed, h := fun _ => w.heap, o := outw w } 7 1000 rfl rfl rfl
    ⟨by simpa [NE.den, SV.den, IE.den, PE.den] using H.dc, trivial, trivial⟩ (by simp [SV.den, IE.den, NE.den, PE.den]) ?_
  conv => arg 7; reduce
  simp only [VC.den, BE.prop, IE.den, NE.den, SV.den, HE.den, PE.den, WS.den, List.map_cons, List.map_nil, Int.cast_ofNat_Int, reduceIte, Nat.reduceEqDiff, Env.setE, Env.setH, Env.setI, Env.setN, Env.setP]
  have hd := H.d14
  have hm := H.at_lt x
  have hN := H.node _ hm
  have hkey := H.key _ hm
  have hdep := H.dep _ hm
  have hmem : ∀ y, y ∈ (nd (x % 2 ^ D)).T.full → y ∈ M := fun y hy => (H.mem hm (H.key _ hm y hy)).2 hy
  have hcont := H.cont
  generalize hnn : nd (x % 2 ^ D) = z at *
  have hne := hN.ne
  simp only [Nd.bl, List.nodup_cons, List.mem_cons, List.not_mem_nil, or_false, not_or, List.nodup_nil, and_true, not_false_eq_true] at hne
  intro w1 hw1 ho1
  refine (cBucket_gen x D hx (by omega) w1).mono ?_
  rintro e1 v1 ⟨rfl, hx1, hp1⟩
  rw [hw1] at hx1
  refine ⟨hp1.trans ho1, hx1, _, rfl, by omega, by omega, some ⟨z.b, 0, none⟩, by rw [Int.toNat_natCast, ← hnn]; exact (hx1.cellsAt H.bc).at0 (dirC_get nd hm), fun w2 hw2 ho2 => ?_⟩
  refine (nkeysXP_any z.b z.l z.t z.g z.dep seed z.T w2 hne.1.1 (by rw [hw2]; exact hx1.cellsAt hN.nc) (by rw [hw2]; exact hx1.cellsAt hN.lc) (by rw [hw2]; exact hN.tab.ext hx1)).mono ?_
  rintro e2 v2 ⟨p, cap, rfl, hr, hx2, hp2⟩
  rw [hw2] at hx2
  refine ⟨hp2.trans ho2, hx2, p, _, cap, rfl, ?_⟩
  have hX := hx1.trans hx2
  have hlen : (z.T.full.map (·.1)).length ≤ 112 := by rw [List.length_map]; exact hN.room
  have hkl : ∀ k ∈ z.T.full.map (·.1), k.length ≤ 9223372036854775807 := fun k hk => by
    obtain ⟨y, hy, rfl⟩ := List.mem_map.1 hk
    exact hN.tab.kl y hy
  have hfin : ∀ k, k ∈ (z.T.full.map (·.1)).filter (fun k => decide (hk seed k % 2 ^ D = x % 2 ^ D)) ↔ (∃ v, (k, v) ∈ M) ∧ hk seed k % 2 ^ D = x % 2 ^ D := fun k => by
    rw [List.mem_filter]
    constructor
    · rintro ⟨h1, h2⟩
      obtain ⟨y, hy, rfl⟩ := List.mem_map.1 h1
      exact ⟨⟨y.2, hmem y hy⟩, by simpa using h2⟩
    · rintro ⟨⟨v, hv⟩, h2⟩
      refine ⟨List.mem_map.2 ⟨(k, v), ?_, rfl⟩, by simpa using h2⟩
      have := (hcont (k, v)).1 hv
      rw [h2, hnn] at this
      exact this
  generalize z.T.full.map (·.1) = l at *
  intro hc0 _
  refine looping (k67 {}) [.ptr (.at (.v 0) (.c 0)), .int .u64 (.ofN (.v 8)), .slice (.v 0) (.v 3) (.v 4), .slice (.v 1) (.v 7) (.v 9), .int .i64 (.ofN (.v 7)), .int .i64 (.ofN (.v 10))] [(.v 0, .c 0, [.int .u64 (.v 0), .int .i64 (.ofN (.v 5)), .slice (.at (.v 1) (.c 0)) (.v 6) (.v 2), .int .i64 (.ofN (.v 11))])]
    (fun y : Nat × Option Addr × Nat × Heap => { n := fun j => if j = 0 then d else if j = 1 then db else if j = 2 then C else if j = 3 then ((l.take y.1).filter (fun k => decide (hk seed k % 2 ^ D = x % 2 ^ D))).length else if j = 4 then y.2.2.1 else if j = 5 then D else if j = 6 then 2 ^ D else if j = 7 then l.length else if j = 8 then x % 2 ^ D else if j = 9 then cap else if j = 10 then y.1 else M.length, i := fun j => seed, p := fun j => if j = 0 then y.2.1 else p, h := fun _ => y.2.2.2, o := outw w }) 12 1000
    (fun y => y.1 ≤ l.length ∧ Ext v2.heap y.2.2.2 ∧ Own y.2.2.2 v2.heap.size y.2.1 y.2.2.1 1 (strs ((l.take y.1).filter (fun k => decide (hk seed k % 2 ^ D = x % 2 ^ D))))) (fun y => l.length - y.1) (0, none, 0, v2.heap) ⟨Nat.zero_le _, Ext.refl _, by exact Own.nil v2.heap v2.heap.size 1⟩ rfl (by simp [SV.den, IE.den, NE.den, PE.den]) rfl (fun _ => rfl)
    (fun y hy => ⟨by simpa [NE.den, SV.den, IE.den, PE.den] using hy.2.1.cellsAt hc0, trivial, trivial⟩) ?_
  rintro ⟨i, q, qc, h⟩ ⟨hi, hxe, hown⟩ N hN1
  simp only at hi hxe hown
  simp only [SV.den, PE.den, NE.den, IE.den, List.map_cons, List.map_nil, reduceIte, Nat.reduceEqDiff] at hN1
  conv => arg 7; reduce
  simp only [VC.den, BE.prop, IE.den, NE.den, SE.den, SV.den, HE.den, PE.den, WS.den, WI.den, List.map_cons, List.map_nil, Int.cast_ofNat_Int, reduceIte, Nat.reduceEqDiff, Env.setE, Env.setH, Env.setS, Env.setI, Env.setN, Env.setP, inK_i64]
  have hfl : ((l.take i).filter (fun k => decide (hk seed k % 2 ^ D = x % 2 ^ D))).length ≤ 112 := by
    have h1 := List.length_filter_le (fun k => decide (hk seed k % 2 ^ D = x % 2 ^ D)) (l.take i)
    have h2 : (l.take i).length ≤ l.length := by rw [List.length_take]; exact Nat.min_le_right _ _
    omega
  refine ⟨fun h1 => ?_, fun h1 _ _ w3 hw3 ho3 => ?_⟩
  · have hlt : i < l.length := by omega
    obtain ⟨b, o, rfl, g0⟩ := strs_atX (hxe.row hr) hlt
    refine ⟨b, o, rfl, h1, _, g0, fun w3 hw3 ho3 => ?_⟩
    refine (Of_any seed l[i] w3 (hkl _ (List.getElem_mem hlt))).mono ?_
    rintro e3 v3 ⟨rfl, hx3, hp3⟩
    rw [hw3] at hx3
    rw [hk_cast]
    refine ⟨hp3.trans ho3, hx3, _, rfl, fun w4 hw4 ho4 => ?_⟩
    refine (cBucket_gen (hk seed l[i]) D (hk_lt _ _) (by omega) w4).mono ?_
    rintro e4 v4 ⟨rfl, hx4, hp4⟩
    rw [hw4] at hx4
    have hX4 := hx3.trans hx4
    have hstep : (l.take (i + 1)).filter (fun k => decide (hk seed k % 2 ^ D = x % 2 ^ D)) = (l.take i).filter (fun k => decide (hk seed k % 2 ^ D = x % 2 ^ D)) ++ if hk seed l[i] % 2 ^ D = x % 2 ^ D then [l[i]] else [] := by
      rw [List.take_succ_eq_append_getElem hlt, List.filter_append, List.filter_cons]
      by_cases hc : hk seed l[i] % 2 ^ D = x % 2 ^ D <;> simp [hc]
    have o0 := (hown.ext hX4).ext (ext_push v4.heap (.cells #[.string (bs l[i])] 9))
    refine ⟨hp4.trans ho4, hx4, _, rfl, fun hc => ⟨(hown.ext hX4).ne (Nat.le_refl _), hown.ne_lt hc0.1, _, o0.app (by rw [strs_length]; omega) (by omega) (by omega), fun h' p' c' ha => ⟨by omega, fun _ _ => ?_⟩⟩, fun hc => ⟨by omega, fun _ _ => ?_⟩⟩
    · have hc : hk seed l[i] % 2 ^ D = x % 2 ^ D := by omega
      rw [if_pos hc] at hstep
      have o1 := o0.next (by rw [strs_length]; omega) rfl (Nat.le_trans hxe.le (hX4.trans (ext_push _ _)).le) ha
      have x1 := o0.keep (h0 := v2.heap) (Nat.le_refl _) (hxe.trans (hX4.trans (ext_push _ _))) ha
      rw [← strs_snoc, ← hstep] at o1
      have := hN1 (i + 1, p', c', h') ⟨hlt, x1, o1⟩ (by simp only; omega)
      simp only [hstep, List.length_append, List.length_cons, List.length_nil, Nat.zero_add, Int.natCast_add] at this
      exact this
    · have hc : ¬ hk seed l[i] % 2 ^ D = x % 2 ^ D := by omega
      rw [if_neg hc, List.append_nil] at hstep
      have := hN1 (i + 1, q, qc, v4.heap) ⟨hlt, hxe.trans hX4, by rw [hstep]; exact hown.ext hX4⟩ (by simp only; omega)
      simp only [hstep, Int.natCast_add] at this
      exact this
  · obtain rfl : i = l.length := by omega
    rw [List.take_length] at hown hfl
    refine ⟨_, hfin, hfl, q, qc, by rw [List.take_length], by rw [hw3]; exact hown.row, by rw [hw3]; exact hX.trans hxe, ho3⟩
end Go.Proofs.YtkcjhabbgaaknaaGreat
/- A scan of a dict of several nodes: so many buckets. -/
namespace Go.Proofs.YtkcjhabbgaaknaaGreat
open E
set_option maxRecDepth 100000
/-- What m buckets hold, from the one at r on. -/
def ScanS {α : Type} (M : List (Key × α)) (seed : Int) (D r m : Nat) (l : List Key) : Prop := ∀ k, k ∈ l ↔ (∃ v, (k, v) ∈ M) ∧ r ≤ rv (hk seed k) / 2 ^ (64 - D) ∧ rv (hk seed k) / 2 ^ (64 - D) < r + m
/-- How a scan with a count ends: the keys, the cursor. -/
def ScanE {α : Type} (M : List (Key × α)) (seed : Int) (D x n : Nat) (l : List Key) (c : Nat) : Prop :=
  ∃ m, 1 ≤ m ∧ ScanS M seed D (rv x / 2 ^ (64 - D)) m l ∧ c < 2 ^ 64 ∧
    ((rv x / 2 ^ (64 - D) + m = 2 ^ D ∧ c = 0) ∨ (rv x / 2 ^ (64 - D) + m < 2 ^ D ∧ c ≠ 0 ∧ rv c = (rv x / 2 ^ (64 - D) + m) * 2 ^ (64 - D))) ∧ (c = 0 ∨ n ≤ l.length ∨ 10 * n ≤ m)
theorem app_oneX {h : Heap} {base : Nat} {p : Option Addr} {cap : Nat} {out l : List Key} {q : Option Addr} {qc : Nat} (H : Own h base p cap 1 (strs out)) (ho : out.length ≤ 100000) (hl : l.length ≤ 100000) (hr : row h q (strs l)) : AppPre h 1 16 p out.length cap (.slice q l.length qc) (strs out) (strs l) :=
  E.Own.appPre H (n := out.length) (by rw [strs_length]; omega) ⟨Nat.le_refl _, by simp [strs_length, lenV], hr⟩ (fun u hu => by obtain ⟨z, _, rfl⟩ := List.mem_map.1 hu; rfl) (by simp only [lenV]; omega) (by simp only [lenV]; omega)
theorem strs_app (a b : List Key) : strs a ++ strs b = strs (a ++ b) := by simp [strs]
theorem dScanX_any {S : Nat → Prop} {d db D C : Nat} {seed : Int} {M : List (Key × Option Addr)} {nd : Nat → Nd (Option Addr)} (x n : Nat) (hx : x < 2 ^ 64) (hn : 1 ≤ n) (hn2 : n ≤ 1000) (w : World) (H : DirAt Value.pointer w.heap S d db D C seed M nd) :
    Calls Tryz.prog 39 #[.pointer (some ⟨d, 0, none⟩), .int .u64 (x : Nat), .int .i64 (n : Nat)] w fun e w' => ∃ l p cap c, ScanE M seed D x n l c ∧ l.length ≤ 2000 ∧ e = .returned (.tuple #[.slice p l.length cap, .int .u64 (c : Nat)]) ∧ Own w'.heap w.heap.size p cap 1 (strs l) ∧ Ext w.heap w'.heap ∧ outw w' = outw w := by
  refine begins (k39 {}) [.ptr (.at (.v 0) (.c 0)), .int .u64 (.ofN (.v 3)), .int .i64 (.ofN (.v 7))] [(.v 0, .c 0, [.int .u64 (.v 0), .int .i64 (.ofN (.v 5)), .slice (.at (.v 1) (.c 0)) (.v 6) (.v 2), .int .i64 (.ofN (.v 4))])]
    { n := fun j => if j = 0 then d else if j = 1 then db else if j = 2 then C else if j = 3 then x else if j = 4 then M.length else if j = 5 then D else if j = 6 then 2 ^ D else n, i := fun _ => seed, h := fun _ => w.heap, o := outw w } 8 1000 rfl rfl rfl
    ⟨by simpa [NE.den, SV.den, IE.den, PE.den] using H.dc, trivial, trivial⟩ (by simp [SV.den, IE.den, NE.den, PE.den]) ?_
  conv => arg 7; reduce
  simp only [VC.den, BE.prop, IE.den, NE.den, SV.den, HE.den, PE.den, WS.den, List.map_cons, List.map_nil, Int.cast_ofNat_Int, reduceIte, Nat.reduceEqDiff, inK_i64]
  have hd := H.d14
  have e : min (max (n : Int) 1) 1000 = (n : Int) := by omega
  rw [e]
  refine ⟨by omega, ?_⟩
  intro hc0 _
  have hD1 : 0 < 2 ^ D := Nat.two_pow_pos D
  have hDlt := rvd_lt x (d := D) (by omega)
  have h64 : 0 < 2 ^ (64 - D) := Nat.two_pow_pos _
  have h0S : ScanS M seed D (rv x / 2 ^ (64 - D)) 0 [] := fun k => ⟨fun h => (by cases h), fun h => absurd h.2.2 (Nat.not_lt.2 (by rw [Nat.add_zero]; exact h.2.1))⟩
  refine looping (k39 {}) [.ptr (.at (.v 0) (.c 0)), .int .u64 (.ofN (.v 3)), .int .i64 (.ofN (.v 7)), .slice (.v 0) (.v 8) (.v 9), .int .i64 (.mul (.c 10) (.ofN (.v 7))), .int .i64 (.ofN (.v 10))] [(.v 0, .c 0, [.int .u64 (.v 0), .int .i64 (.ofN (.v 5)), .slice (.at (.v 1) (.c 0)) (.v 6) (.v 2), .int .i64 (.ofN (.v 4))])]
    (fun y : Nat × Nat × List Key × Option Addr × Nat × Heap => { n := fun j => if j = 0 then d else if j = 1 then db else if j = 2 then C else if j = 3 then y.2.1 else if j = 4 then M.length else if j = 5 then D else if j = 6 then 2 ^ D else if j = 7 then n else if j = 8 then y.2.2.1.length else if j = 9 then y.2.2.2.2.1 else y.1, i := fun _ => seed, p := fun _ => y.2.2.2.1, h := fun _ => y.2.2.2.2.2, o := outw w }) 11 1000
    (fun y => y.1 ≤ 10 * n ∧ y.2.1 < 2 ^ 64 ∧ rv y.2.1 / 2 ^ (64 - D) = rv x / 2 ^ (64 - D) + y.1 ∧ rv x / 2 ^ (64 - D) + y.1 < 2 ^ D ∧ (y.1 ≠ 0 → y.2.1 ≠ 0 ∧ rv y.2.1 = (rv x / 2 ^ (64 - D) + y.1) * 2 ^ (64 - D)) ∧ ScanS M seed D (rv x / 2 ^ (64 - D)) y.1 y.2.2.1 ∧ y.2.2.1.length < n ∧ Ext w.heap y.2.2.2.2.2 ∧ Own y.2.2.2.2.2 w.heap.size y.2.2.2.1 y.2.2.2.2.1 1 (strs y.2.2.1))
    (fun y => 10 * n - y.1) (0, x, [], none, 0, w.heap) ⟨by omega, hx, rfl, by simpa using hDlt, fun h => absurd rfl h, h0S, hn, Ext.refl _, by exact Own.nil w.heap w.heap.size 1⟩ rfl (by simp [SV.den, IE.den, NE.den, PE.den]) rfl (fun _ => rfl) (fun y hy => ⟨by simpa [NE.den, SV.den, IE.den, PE.den] using hy.2.2.2.2.2.2.2.1.cellsAt hc0, trivial, trivial⟩) ?_
  rintro ⟨t, xt, l, p, cap, h⟩ ⟨ht, hxt, hr, hrD, hnz, hS, hll, hxe, hown⟩ N hN1
  simp only at ht hxt hr hrD hnz hS hll hxe hown
  simp only [SV.den, PE.den, NE.den, IE.den, List.map_cons, List.map_nil, reduceIte, Nat.reduceEqDiff] at hN1
  conv => arg 7; reduce
  simp only [VC.den, BE.prop, IE.den, NE.den, SV.den, HE.den, PE.den, WS.den, WI.den, List.map_cons, List.map_nil, Int.cast_ofNat_Int, reduceIte, Nat.reduceEqDiff, Env.setE, Env.setH, Env.setI, Env.setN, Env.setP, inK_i64]
  refine ⟨fun h1 _ w1 hw1 ho1 => ?_, fun h1 _ _ w1 hw1 ho1 => ?_⟩
  · refine (BucketX_any xt hxt w1 (by rw [hw1]; exact H.ext hxe)).mono ?_
    rintro e1 v1 ⟨lb, hlb, hlen, q, qc, rfl, hrow, hx1, hp1⟩
    rw [hw1] at hx1
    refine ⟨hp1.trans ho1, hx1, q, _, qc, rfl, hown.ne_lt hc0.1, _, _, app_oneX (hown.ext hx1) (by omega) (by omega) hrow, fun h' p' c' ha w2 hw2 ho2 => ?_⟩
    have o1 := (hown.ext hx1).next (n := l.length) (m := lb.length) (by rw [strs_length]; omega) (by rw [strs_length]; omega) (hxe.trans hx1).le ha
    have x1 := (hown.ext hx1).keep (h0 := w.heap) (Nat.le_refl _) (hxe.trans hx1) ha
    rw [strs_app] at o1
    refine (Next_gen xt D hxt (by omega) w2).mono ?_
    rintro e2 v2 ⟨rfl, hx2, hp2⟩
    rw [hw2] at hx2
    have hS' : ScanS M seed D (rv x / 2 ^ (64 - D)) (t + 1) (l ++ lb) := fun k => by
      rw [List.mem_append, hS k, hlb k, ← rv_low (show D ≤ 64 by omega), hr]
      constructor
      · rintro (⟨g1, g2, g3⟩ | ⟨g1, g2⟩)
        · exact ⟨g1, g2, by omega⟩
        · exact ⟨g1, by omega, by omega⟩
      · rintro ⟨g1, g2, g3⟩
        by_cases g4 : rv (hk seed k) / 2 ^ (64 - D) = rv x / 2 ^ (64 - D) + t
        · exact .inr ⟨g1, g4⟩
        · exact .inl ⟨g1, g2, by omega⟩
    have hcase : (rv x / 2 ^ (64 - D) + (t + 1) = 2 ^ D ∧ nx D xt = 0) ∨ (rv x / 2 ^ (64 - D) + (t + 1) < 2 ^ D ∧ nx D xt ≠ 0 ∧ rv (nx D xt) = (rv x / 2 ^ (64 - D) + (t + 1)) * 2 ^ (64 - D)) := by
      by_cases g : rv x / 2 ^ (64 - D) + (t + 1) = 2 ^ D
      · exact .inl ⟨g, nx_last (by omega) (by rw [hr]; exact g)⟩
      · have g2 := nx_rv (d := D) (c := xt) (by omega) (by rw [hr]; omega)
        rw [hr] at g2
        refine .inr ⟨by omega, fun g3 => ?_, g2⟩
        rw [g3, rv_zero] at g2
        exact absurd g2 (Nat.ne_of_lt (Nat.mul_pos (Nat.succ_pos (rv x / 2 ^ (64 - D) + t)) h64))
    have hnl : nx D xt < 2 ^ 64 := Nat.lt_of_lt_of_le (nx_lt xt (by omega)) (Nat.pow_le_pow_right (by decide) (by omega))
    refine ⟨hp2.trans ho2, hx2, _, rfl, fun hc _ _ w3 hw3 ho3 => ?_, fun hc => ⟨by omega, fun _ _ => ?_⟩⟩
    · refine ⟨l ++ lb, p', c', nx D xt, ⟨t + 1, by omega, hS', hnl, hcase, ?_⟩, by rw [List.length_append]; omega, by rw [List.length_append], by rw [hw3]; exact o1.ext hx2, by rw [hw3]; exact x1.trans hx2, ho3⟩
      rw [List.length_append]
      rcases hc with hc | hc
      · exact .inl (by omega)
      · exact .inr (.inl (by omega))
    · have hz : nx D xt ≠ 0 := fun g => hc (.inl (by rw [g]; rfl))
      have hg : rv x / 2 ^ (64 - D) + (t + 1) < 2 ^ D ∧ nx D xt ≠ 0 ∧ rv (nx D xt) = (rv x / 2 ^ (64 - D) + (t + 1)) * 2 ^ (64 - D) := by
        rcases hcase with g | g
        · exact absurd g.2 hz
        · exact g
      have hlt : (l ++ lb).length < n := by
        rw [List.length_append]
        refine Nat.lt_of_not_le fun g => hc (.inr (by omega))
      have := hN1 (t + 1, nx D xt, l ++ lb, p', c', v2.heap) ⟨by simp only; omega, hnl, by simp only; rw [hg.2.2, Nat.mul_div_cancel _ h64], hg.1, fun _ => ⟨hz, hg.2.2⟩, hS', hlt, x1.trans hx2, o1.ext hx2⟩ (by simp only; omega)
      simp only [List.length_append, Int.natCast_add t] at this
      exact this
  · have htn : t = 10 * n := by omega
    exact ⟨l, p, cap, xt, ⟨t, by omega, hS, hxt, .inr ⟨hrD, hnz (by omega)⟩, .inr (.inr (by omega))⟩, by omega, rfl, by rw [hw1]; exact hown, by rw [hw1]; exact hxe, ho1⟩
end Go.Proofs.YtkcjhabbgaaknaaGreat
/- A space whose dicts may have several nodes, as it lies in memory. -/
namespace Go.Proofs.YtkcjhabbgaaknaaGreat
open E
set_option maxRecDepth 100000
structure Sy where
  sb : Nat
  seed : Int
  l1 : Int
  l2 : Int
  clock : Int
  nx : Int
  SD : Nat → Prop
  dd : Nat
  db : Nat
  D : Nat
  C : Nat
  nd : Nat → Nd (Option Addr)
  E : D6
  SV : Nat → Prop
  vd : Nat
  vb : Nat
  Dv : Nat
  Cv : Nat
  nv : Nat → Nd Int
  Md : List (Key × Option Addr)
  Me : List (Key × Int)
  Mv : List (Key × Int)
def Sy.v (s : Sy) : List Value := [.int .u64 s.seed, .int .i64 s.l1, .int .i64 s.l2, .pointer (some ⟨s.dd, 0, none⟩), .pointer (some ⟨s.E.d, 0, none⟩), .pointer (some ⟨s.vd, 0, none⟩), .int .u64 s.clock, .int .i64 s.nx]
structure SyAt (Z : Nat → Prop) (h : Heap) (s : Sy) : Prop where
  hd : CellsAt h s.sb 0 s.v
  d : DirAt Value.pointer h s.SD s.dd s.db s.D s.C s.seed s.Md s.nd
  e : DI h s.E s.seed s.Me
  v : DirAt (Value.int .u64) h s.SV s.vd s.vb s.Dv s.Cv s.seed s.Mv s.nv
  sd : ¬ s.SD s.sb
  se : s.sb ∉ s.E.l
  sv : ¬ s.SV s.sb
  de : ∀ b, s.SD b → b ∉ s.E.l
  dv : ∀ b, s.SD b → ¬ s.SV b
  ev : ∀ b ∈ s.E.l, ¬ s.SV b
  zs : ¬ Z s.sb
  zd : ∀ b, s.SD b → ¬ Z b
  ze : ∀ b ∈ s.E.l, ¬ Z b
  zv : ∀ b, s.SV b → ¬ Z b
  zl : ∀ b, Z b → b < h.size
section
variable {Z Z' : Nat → Prop} {h h' : Heap} {s : Sy}
theorem SyAt.el (H : SyAt Z h s) : ∀ b ∈ s.E.l, b < h.size := H.e.lt
theorem SyAt.ext (H : SyAt Z h s) (hx : Ext h h') : SyAt Z h' s :=
  ⟨hx.cellsAt H.hd, H.d.ext hx, H.e.ext hx, H.v.ext hx, H.sd, H.se, H.sv, H.de, H.dv, H.ev, H.zs, H.zd, H.ze, H.zv, fun b hb => Nat.lt_of_lt_of_le (H.zl b hb) hx.le⟩
theorem SyAt.zed (H : SyAt Z h s) (hx : Ext h h') (hz : ∀ b, Z' b → (Z b ∨ h.size ≤ b) ∧ b < h'.size) : SyAt Z' h' s := by
  have H' := H.ext hx
  refine { H' with zs := fun hb => ?_, zd := fun b hb hb' => ?_, ze := fun b hb hb' => ?_, zv := fun b hb hb' => ?_, zl := fun b hb => (hz b hb).2 }
  · rcases (hz _ hb).1 with g | g
    · exact H.zs g
    · have := H.hd.1; omega
  · rcases (hz _ hb').1 with g | g
    · exact H.zd b hb g
    · have := H.d.lt b hb; omega
  · rcases (hz _ hb').1 with g | g
    · exact H.ze b hb g
    · have := H.el b hb; omega
  · rcases (hz _ hb').1 with g | g
    · exact H.zv b hb g
    · have := H.v.lt b hb; omega
theorem SyAt.onD (H : SyAt Z h s) {M : List (Key × Option Addr)} {db D C : Nat} {nd : Nat → Nd (Option Addr)} (hf : E.Frame s.SD h h') (hd : DirAt Value.pointer h' (grow s.SD h h') s.dd db D C s.seed M nd) : SyAt Z h' { s with SD := grow s.SD h h', db := db, D := D, C := C, nd := nd, Md := M } ∧ E.Frame (fun b => ¬ Z b) h h' := by
  refine ⟨⟨hf.cellsAt H.hd H.sd, hd, H.e.frame hf fun b hb e => H.de b e hb, H.v.frame hf fun b hb e => H.dv b e hb, fun hb => ?_, H.se, H.sv, fun b hb he => ?_, fun b hb he => ?_, H.ev, H.zs, fun b hb hz => ?_, H.ze, H.zv, fun b hb => Nat.lt_of_lt_of_le (H.zl b hb) hf.le⟩, hf.mono fun b _ hb => H.zd b hb⟩
  · rcases hb with hb | hb
    · exact H.sd hb
    · exact absurd H.hd.1 (Nat.not_lt_of_le hb.1)
  · rcases hb with hb | hb
    · exact H.de b hb he
    · have := H.el b he; omega
  · rcases hb with hb | hb
    · exact H.dv b hb he
    · have := H.v.lt b he; omega
  · rcases hb with hb | hb
    · exact H.zd b hb hz
    · have := H.zl b hz; omega
theorem SyAt.onE (H : SyAt Z h s) {M : List (Key × Int)} {g : Nat} (hf : E.Frame s.E.F h h') (hg : g = s.E.gb ∨ h.size ≤ g) (hd : DI h' (s.E.grown g) s.seed M) : SyAt Z h' { s with E := s.E.grown g, Me := M } ∧ E.Frame (fun b => ¬ Z b) h h' := by
  have hg' : ∀ b ∈ (s.E.grown g).l, b ∈ s.E.l ∨ h.size ≤ b := fun b hb => by
    rcases D6.mem_grown hb with hb | rfl
    · exact .inl hb
    · rcases hg with rfl | hg
      · exact .inl (by simp [D6.l])
      · exact .inr hg
  refine ⟨⟨hf.cellsAt H.hd fun e => H.se (D6.F_mem e), H.d.frame hf fun b hb e => H.de b hb (D6.F_mem e), hd, H.v.frame hf fun b hb e => H.ev b (D6.F_mem e) hb, H.sd, fun hb => ?_, H.sv, fun b hb he => ?_, H.dv, fun b hb he => ?_, H.zs, H.zd, fun b hb hz => ?_, H.zv, fun b hb => Nat.lt_of_lt_of_le (H.zl b hb) hf.le⟩, hf.mono fun b _ hb => H.ze b (D6.F_mem hb)⟩
  · rcases hg' _ hb with hb | hb
    · exact H.se hb
    · exact absurd H.hd.1 (Nat.not_lt_of_le hb)
  · rcases hg' _ he with he | he
    · exact H.de b hb he
    · have := H.d.lt b hb; omega
  · rcases hg' _ hb with hb | hb
    · exact H.ev b hb he
    · have := H.v.lt b he; omega
  · rcases hg' _ hb with hb | hb
    · exact H.ze b hb hz
    · have := H.zl b hz; omega
theorem SyAt.onV (H : SyAt Z h s) {M : List (Key × Int)} {vb Dv Cv : Nat} {nv : Nat → Nd Int} (hf : E.Frame s.SV h h') (hd : DirAt (Value.int .u64) h' (grow s.SV h h') s.vd vb Dv Cv s.seed M nv) : SyAt Z h' { s with SV := grow s.SV h h', vb := vb, Dv := Dv, Cv := Cv, nv := nv, Mv := M } ∧ E.Frame (fun b => ¬ Z b) h h' := by
  refine ⟨⟨hf.cellsAt H.hd H.sv, H.d.frame hf fun b hb e => H.dv b hb e, H.e.frame hf fun b hb e => H.ev b hb e, hd, H.sd, H.se, fun hb => ?_, H.de, fun b hb he => ?_, fun b hb he => ?_, H.zs, H.zd, H.ze, fun b hb hz => ?_, fun b hb => Nat.lt_of_lt_of_le (H.zl b hb) hf.le⟩, hf.mono fun b _ hb => H.zv b hb⟩
  · rcases hb with hb | hb
    · exact H.sv hb
    · exact absurd H.hd.1 (Nat.not_lt_of_le hb.1)
  · rcases he with he | he
    · exact H.dv b hb he
    · have := H.d.lt b hb; omega
  · rcases he with he | he
    · exact H.ev b hb he
    · have := H.el b hb; omega
  · rcases hb with hb | hb
    · exact H.zv b hb hz
    · have := H.zl b hz; omega
theorem SyAt.tick (H : SyAt Z h s) (c : Int) : SyAt Z (setc h s.sb 6 (.int .u64 c)) { s with clock := c } ∧ E.Frame (fun b => ¬ Z b) h (setc h s.sb 6 (.int .u64 c)) := by
  have hf : E.Frame (fun b => b = s.sb) h (setc h s.sb 6 (.int .u64 c)) := E.Frame.set (E.Frame.refl (fun b => b = s.sb) h) (b := s.sb) (fun _ => rfl) _ _
  refine ⟨⟨?_, H.d.frame hf fun b hb e => H.sd (e ▸ hb), H.e.frame hf fun b hb e => H.se (e ▸ hb), H.v.frame hf fun b hb e => H.sv (e ▸ hb), H.sd, H.se, H.sv, H.de, H.dv, H.ev, H.zs, H.zd, H.ze, H.zv, fun b hb => by rw [size_setc]; exact H.zl b hb⟩, hf.mono fun b _ hb => hb ▸ H.zs⟩
  exact H.hd.set0 6 (.int .u64 c)
end
/-- The keys that may be, their seed, those that may end; few of them agree. -/
structure KyOk (K Ke : List Key) (seed : Int) : Prop where
  few : FewP seed K
  kl : ∀ k ∈ K, k.length ≤ 4096
  n : K.length ≤ 1000
  ne : Ke.length ≤ 100
/-- A space that has this. -/
def SyS (Z : Nat → Prop) (K Ke : List Key) (seed : Int) (D : Nat) (h : Heap) (sb : Nat) (md : List (Key × Option Addr)) (me : List (Key × Int)) : Prop :=
  ∃ s : Sy, SyAt Z h s ∧ s.sb = sb ∧ s.seed = seed ∧ s.D = D ∧ s.Md = md ∧ s.Me = me ∧ (∀ x ∈ s.Md, x.1 ∈ K ∧ x.2 ≠ none) ∧ (∀ x ∈ s.Me, x.1 ∈ Ke) ∧ ∀ x ∈ s.Mv, x.1 ∈ K
/-- What an operation on a space leaves. -/
def SyR (Z : Nat → Prop) (K Ke : List Key) (seed : Int) (D : Nat) (h0 : Heap) (o : Os × Array (Nat × ByteArray)) (sb : Nat) (md : List (Key × Option Addr)) (me : List (Key × Int)) : World → Prop :=
  fun w' => E.Frame (fun b => ¬ Z b) h0 w'.heap ∧ outw w' = o ∧ ∃ D', D ≤ D' ∧ SyS Z K Ke seed D' w'.heap sb md me
section
variable {Z Z' : Nat → Prop} {K Ke : List Key} {seed : Int} {D : Nat} {h h' : Heap} {sb : Nat} {md : List (Key × Option Addr)} {me : List (Key × Int)}
theorem SyS.ext (H : SyS Z K Ke seed D h sb md me) (hx : Ext h h') : SyS Z K Ke seed D h' sb md me := by
  obtain ⟨s, H, r⟩ := H
  exact ⟨s, H.ext hx, r⟩
theorem SyS.zed (H : SyS Z K Ke seed D h sb md me) (hx : Ext h h') (hz : ∀ b, Z' b → (Z b ∨ h.size ≤ b) ∧ b < h'.size) : SyS Z' K Ke seed D h' sb md me := by
  obtain ⟨s, H, r⟩ := H
  exact ⟨s, H.zed hx hz, r⟩
theorem SyS.nd (H : SyS Z K Ke seed D h sb md me) : (md.map (·.1)).Nodup ∧ (me.map (·.1)).Nodup := by
  obtain ⟨s, H, _, _, _, rfl, rfl, _⟩ := H
  exact ⟨H.d.nodup, H.e.nodup⟩
theorem SyS.len (H : SyS Z K Ke seed D h sb md me) (hK : KyOk K Ke seed) : md.length ≤ 1000 ∧ me.length ≤ 100 := by
  have hnd := H.nd
  obtain ⟨s, H, _, _, _, rfl, rfl, k1, k2, _⟩ := H
  have h1 := len_keys hnd.1 fun x hx => (k1 x hx).1
  have h2 := len_keys hnd.2 k2
  have := hK.n
  have := hK.ne
  exact ⟨by omega, by omega⟩
end
/-- Has a key's time come? -/
def deadB (me : List (Key × Int)) (key : Key) (now : Int) : Bool := me.any fun x => decide (x.1 = key) && decide (x.2 ≤ now)
theorem deadB_iff {me : List (Key × Int)} {key : Key} {now : Int} : deadB me key now = true ↔ ∃ a, (key, a) ∈ me ∧ a ≤ now := by
  unfold deadB
  rw [List.any_eq_true]
  constructor
  · rintro ⟨x, hx, e⟩
    simp only [Bool.and_eq_true, decide_eq_true_eq] at e
    exact ⟨x.2, by rw [← e.1]; exact hx, e.2⟩
  · rintro ⟨a, ha, hl⟩
    exact ⟨(key, a), ha, by simpa using hl⟩
/-- What is left when a key is looked at. -/
def tM {α : Type} (m : List (Key × α)) (me : List (Key × Int)) (key : Key) (now : Int) : List (Key × α) := if deadB me key now then rm m key else m
theorem tM_dead {α : Type} {m : List (Key × α)} {me : List (Key × Int)} {key : Key} {now : Int} (h : deadB me key now = true) : tM m me key now = rm m key := if_pos h
theorem tM_live {α : Type} {m : List (Key × α)} {me : List (Key × Int)} {key : Key} {now : Int} (h : ¬ deadB me key now = true) : tM m me key now = m := if_neg h
end Go.Proofs.YtkcjhabbgaaknaaGreat
/- What is done to a space whose dicts may have several nodes. -/
namespace Go.Proofs.YtkcjhabbgaaknaaGreat
open E
set_option maxRecDepth 100000
variable {Z : Nat → Prop} {K Ke : List Key} {seed : Int} {D : Nat} {sb : Nat} {md : List (Key × Option Addr)} {me : List (Key × Int)}
theorem changed_Y (hK : KyOk K Ke seed) (key : Key) (w : World) (H : SyS Z K Ke seed D w.heap sb md me) (hk : key ∈ K) :
    Calls Tryz.prog 31 #[.pointer (some ⟨sb, 0, none⟩), .string (bs key)] w fun e w' => e = .returned (.tuple #[]) ∧ SyR Z K Ke seed D w.heap (outw w) sb md me w' := by
  obtain ⟨s, H, rfl, rfl, rfl, rfl, rfl, k1, k2, k3⟩ := H
  have hs := hK.kl key hk
  refine begins (k31 {}) [.ptr (.at (.v 0) (.c 0)), .str (.v 0)] [(.v 0, .c 0, [.int .u64 (.v 0), .int .i64 (.v 1), .int .i64 (.v 2), .ptr (.at (.v 1) (.c 0)), .ptr (.at (.v 2) (.c 0)), .ptr (.at (.v 3) (.c 0)), .int .u64 (.v 3), .int .i64 (.v 4)])]
    { n := fun j => if j = 0 then s.sb else if j = 1 then s.dd else if j = 2 then s.E.d else s.vd, i := fun j => if j = 0 then s.seed else if j = 1 then s.l1 else if j = 2 then s.l2 else if j = 3 then s.clock else s.nx, s := fun _ => key, h := fun _ => w.heap, o := outw w } 5 1000 rfl rfl rfl
    ⟨by simpa [NE.den, SV.den, IE.den, PE.den, Sy.v] using H.hd, trivial, trivial⟩ (by simp [SV.den, SE.den, NE.den, PE.den]) ?_
  conv => arg 7; reduce
  simp only [VC.den, IE.den, NE.den, SE.den, SV.den, HE.den, PE.den, WS.den, WI.den, noneIn, List.map_cons, List.map_nil, Int.cast_ofNat_Int, reduceIte, Nat.reduceEqDiff, Env.setE, Env.setH, Env.setI, Env.setW]
  obtain ⟨Ht, hft⟩ := H.tick (IntKind.u64.wrap (s.clock + 1))
  have hlen := len_keys H.v.nodup k3
  have hn := hK.n
  intro w1 hw1 ho1
  refine (dPutXU_any (K := K) key _ w1 hK.few k3 hk (by rw [hw1]; exact Ht.v) (by omega) (by omega)).mono ?_
  rintro e1 v1 ⟨rfl, hf1, hp1, db', D', C', nd', HD, _⟩
  rw [hw1] at hf1 HD
  obtain ⟨H2, hf2⟩ := Ht.onV hf1 HD
  refine ⟨hp1.trans ho1, _, hf1, ⟨H.sv, trivial⟩, _, rfl, fun _ _ w2 hw2 ho2 => ⟨trivial, ?_, ho2, s.D, Nat.le_refl _, ?_⟩⟩
  · rw [hw2]; exact frz_trans hft hf2
  · rw [hw2]; exact ⟨_, H2, rfl, rfl, rfl, rfl, rfl, k1, k2, pt_in k3 hk⟩
theorem drop_Y (hK : KyOk K Ke seed) (key : Key) (w : World) (H : SyS Z K Ke seed D w.heap sb md me) (hk : key ∈ K) :
    Calls Tryz.prog 28 #[.pointer (some ⟨sb, 0, none⟩), .string (bs key)] w fun e w' => e = .returned (.tuple #[]) ∧ SyR Z K Ke seed D w.heap (outw w) sb (rm md key) (rm me key) w' := by
  have hl := H.len hK
  obtain ⟨s, H, rfl, rfl, rfl, rfl, rfl, k1, k2, k3⟩ := H
  have hs := hK.kl key hk
  refine begins (k28 {}) [.ptr (.at (.v 0) (.c 0)), .str (.v 0)] [(.v 0, .c 0, [.int .u64 (.v 0), .int .i64 (.v 1), .int .i64 (.v 2), .ptr (.at (.v 1) (.c 0)), .ptr (.at (.v 2) (.c 0)), .ptr (.at (.v 3) (.c 0)), .int .u64 (.v 3), .int .i64 (.v 4)])]
    { n := fun j => if j = 0 then s.sb else if j = 1 then s.dd else if j = 2 then s.E.d else s.vd, i := fun j => if j = 0 then s.seed else if j = 1 then s.l1 else if j = 2 then s.l2 else if j = 3 then s.clock else s.nx, s := fun _ => key, h := fun _ => w.heap, o := outw w } 5 1000 rfl rfl rfl
    ⟨by simpa [NE.den, SV.den, IE.den, PE.den, Sy.v] using H.hd, trivial, trivial⟩ (by simp [SV.den, SE.den, NE.den, PE.den]) ?_
  conv => arg 7; reduce
  simp only [VC.den, IE.den, NE.den, SE.den, SV.den, HE.den, PE.den, BE.den, WS.den, WI.den, noneIn, List.map_cons, List.map_nil, reduceIte, Nat.reduceEqDiff, Env.setE, Env.setH, Env.setB, Env.setW]
  intro w1 hw1 ho1
  refine (dDeleteXP_any key w1 (by rw [hw1]; exact H.d) (by omega) (by omega)).mono ?_
  rintro e1 v1 ⟨rfl, hf1, hp1, nd', HD⟩
  rw [hw1] at hf1 HD
  obtain ⟨H1, hz1⟩ := H.onD hf1 HD
  refine ⟨hp1.trans ho1, _, hf1, ⟨H.sd, trivial⟩, _, rfl, fun w2 hw2 ho2 => ?_⟩
  refine (dDeleteI_x s.E.d s.E.db s.E.nb s.E.lb s.E.tb s.E.gb s.seed s.Me key w2 (by rw [hw2]; exact H1.e) (by omega) (by omega)).mono ?_
  rintro e2 v2 ⟨rfl, hf2, hp2, HE⟩
  rw [hw2] at hf2
  obtain ⟨H2, hz2⟩ := H1.onE (g := s.E.gb) hf2 (.inl rfl) HE
  refine ⟨hp2.trans ho2, _, hf2, ⟨fun e => H.se (D6.F_mem (D := s.E) e), trivial⟩, _, rfl, ?_⟩
  have ex : SyS Z K Ke s.seed s.D v2.heap s.sb (rm s.Md key) (rm s.Me key) := ⟨_, H2, rfl, rfl, rfl, rfl, rfl, fun x hx => k1 x (mem_rm.1 hx).1, rm_in k2, k3⟩
  intro _ w3 hw3 ho3
  refine (changed_Y hK key w3 (by rw [hw3]; exact ex) hk).mono ?_
  rintro e3 v3 ⟨rfl, hf3, hp3, D', hD', H3⟩
  rw [hw3] at hf3
  refine ⟨hp3.trans ho3, _, hf3, trivial, rfl, fun _ w4 hw4 ho4 => ⟨trivial, ?_, ho4, D', hD', by rw [hw4]; exact H3⟩⟩
  rw [hw4]
  exact frz_trans (frz_trans hz1 hz2) hf3
theorem Get_Y (hK : KyOk K Ke seed) (key : Key) (now : Int) (w : World) (H : SyS Z K Ke seed D w.heap sb md me) (hk : key ∈ K) :
    Calls Tryz.prog 12 #[.pointer (some ⟨sb, 0, none⟩), .string (bs key), .int .i64 now] w fun e w' => ∃ p ok, e = .returned (.pointer p) ∧ HasP (tM md me key now) key p ok ∧ SyR Z K Ke seed D w.heap (outw w) sb (tM md me key now) (tM me me key now) w' := by
  have HS := H
  obtain ⟨s, H, rfl, rfl, rfl, rfl, rfl, k1, k2, k3⟩ := H
  have hs := hK.kl key hk
  refine begins (k12 {}) [.ptr (.at (.v 0) (.c 0)), .str (.v 0), .int .i64 (.v 5)] [(.v 0, .c 0, [.int .u64 (.v 0), .int .i64 (.v 1), .int .i64 (.v 2), .ptr (.at (.v 1) (.c 0)), .ptr (.at (.v 2) (.c 0)), .ptr (.at (.v 3) (.c 0)), .int .u64 (.v 3), .int .i64 (.v 4)])]
    { n := fun j => if j = 0 then s.sb else if j = 1 then s.dd else if j = 2 then s.E.d else s.vd, i := fun j => if j = 0 then s.seed else if j = 1 then s.l1 else if j = 2 then s.l2 else if j = 3 then s.clock else if j = 4 then s.nx else now, s := fun _ => key, h := fun _ => w.heap, o := outw w } 6 1000 rfl rfl rfl
    ⟨by simpa [NE.den, SV.den, IE.den, PE.den, Sy.v] using H.hd, trivial, trivial⟩ (by simp [SV.den, SE.den, NE.den, PE.den, IE.den]) ?_
  conv => arg 7; reduce
  simp only [VC.den, BE.prop, IE.den, NE.den, SE.den, SV.den, HE.den, PE.den, BE.den, WS.den, WI.den, noneIn, List.map_cons, List.map_nil, reduceIte, Nat.reduceEqDiff, Env.setE, Env.setH, Env.setB, Env.setI, Env.setP, Env.setW]
  intro w1 hw1 ho1
  refine (dGetI_any s.E.d s.E.db s.E.nb s.E.lb s.E.tb s.E.gb s.seed s.Me key w1 (by rw [hw1]; exact H.e) (by omega)).mono ?_
  rintro e1 v1 ⟨at1, ok1, rfl, hH1, hx1, hp1⟩
  rw [hw1] at hx1
  refine ⟨hp1.trans ho1, hx1, at1, ok1, rfl, fun hd _ w2 hw2 ho2 => ?_, fun hd w2 hw2 ho2 => ?_⟩
  · have hdead : deadB s.Me key now = true := deadB_iff.2 (by
      rcases hH1 with ⟨_, hm⟩ | ⟨hm, _⟩
      · exact ⟨at1, hm, hd.2⟩
      · rw [hm] at hd; cases hd.1)
    rw [tM_dead hdead, tM_dead hdead]
    refine (drop_Y hK key w2 (by rw [hw2]; exact HS.ext hx1) hk).mono ?_
    rintro e2 v2 ⟨rfl, hf2, hp2, D', hD', H2⟩
    rw [hw2] at hf2
    obtain ⟨s2, H2, h1, h2, h3, h4, h5, k4, k5, k6⟩ := H2
    have hd0 := H2.hd.at0 (j := 3) rfl
    rw [h1] at hd0
    refine ⟨hp2.trans ho2, _, hf2, trivial, rfl, _, hd0, fun w3 hw3 ho3 => ?_⟩
    refine (dGetXP_any key w3 (by rw [hw3]; exact H2.d) (by omega)).mono ?_
    rintro e3 v3 ⟨p, ok, rfl, hH3, hx3, hp3⟩
    rw [hw3] at hx3
    rw [h4] at hH3
    refine ⟨hp3.trans ho3, hx3, p, ok, rfl, fun hf w4 hw4 ho4 => ⟨p, ok, rfl, hH3, ?_, ho4, D', hD', ?_⟩⟩
    · rw [hw4]; exact hf.mono fun b _ h => by simpa using h
    · rw [hw4]; exact ⟨s2, H2.ext hx3, h1, h2, h3, h4, h5, k4, k5, k6⟩
  · have hlive : ¬ deadB s.Me key now = true := fun hdead => hd (by
      obtain ⟨a, ha, hle⟩ := deadB_iff.1 hdead
      rcases hH1 with ⟨ho, hm⟩ | ⟨_, _, hm⟩
      · have := uniq_val H.e.nodup hm ha
        exact ⟨ho, by omega⟩
      · exact absurd rfl (hm _ ha))
    rw [tM_live hlive, tM_live hlive]
    refine (dGetXP_any key w2 (by rw [hw2]; exact H.d.ext hx1) (by omega)).mono ?_
    rintro e2 v2 ⟨p, ok, rfl, hH2, hx2, hp2⟩
    rw [hw2] at hx2
    exact ⟨hp2.trans ho2, hx2, p, ok, rfl, fun _ hf w3 hw3 ho3 => ⟨p, ok, rfl, hH2, by rw [hw3]; exact hf.none.frame _, ho3, s.D, Nat.le_refl _, by rw [hw3]; exact HS.ext hf.none⟩⟩
theorem there_Y (hK : KyOk K Ke seed) (key : Key) (now : Int) (w : World) (H : SyS Z K Ke seed D w.heap sb md me) (hk : key ∈ K) :
    Calls Tryz.prog 26 #[.pointer (some ⟨sb, 0, none⟩), .string (bs key), .int .i64 now] w fun e w' => ∃ b p ok, e = .returned (.bool b) ∧ HasP (tM md me key now) key p ok ∧ (b = true ↔ p ≠ none) ∧ SyR Z K Ke seed D w.heap (outw w) sb (tM md me key now) (tM me me key now) w' := by
  refine begins (k26 {}) [.ptr (.at (.v 0) (.c 0)), .str (.v 0), .int .i64 (.v 0)] [] { n := fun _ => sb, i := fun _ => now, s := fun _ => key, h := fun _ => w.heap, o := outw w } 1 1000 rfl rfl rfl trivial (by simp [SV.den, SE.den, NE.den, PE.den, IE.den]) ?_
  conv => arg 7; reduce
  simp only [VC.den, IE.den, NE.den, SE.den, SV.den, HE.den, PE.den, BE.den, WS.den, WI.den, noneIn, List.map_cons, List.map_nil, reduceIte, Nat.reduceEqDiff, Env.setE, Env.setH, Env.setP, Env.setW]
  intro w1 hw1 ho1
  refine (Get_Y hK key now w1 (by rw [hw1]; exact H) hk).mono ?_
  rintro e1 v1 ⟨p, ok, rfl, hH, hf1, hp1, D', hD', H1⟩
  rw [hw1] at hf1
  refine ⟨hp1.trans ho1, _, hf1, trivial, p, rfl, fun hf w2 hw2 ho2 => ⟨_, p, ok, rfl, hH, ?_, by rw [hw2]; exact hf1, ho2, D', hD', by rw [hw2]; exact H1⟩⟩
  cases p <;> simp
theorem Put_Y (hK : KyOk K Ke seed) (vb : Nat) (t : List UInt8) (key : Key) (now : Int) (w : World) (H : SyS Z K Ke seed D w.heap sb md me) (hk : key ∈ K) (hT : TextAt w.heap vb t) (hz : Z vb) :
    Calls Tryz.prog 7 #[.pointer (some ⟨sb, 0, none⟩), .string (bs key), .pointer (some ⟨vb, 0, none⟩), .int .i64 now] w fun e w' => e = .returned (.int .i64 0) ∧ SyR Z K Ke seed D w.heap (outw w) sb (pt (tM md me key now) key (some ⟨vb, 0, none⟩)) (rm (tM me me key now) key) w' := by
  have hs := hK.kl key hk
  refine begins (k7 {}) [.ptr (.at (.v 0) (.c 0)), .str (.v 0), .ptr (.at (.v 1) (.c 0)), .int .i64 (.v 0)] [] { n := fun j => if j = 0 then sb else vb, i := fun _ => now, s := fun _ => key, h := fun _ => w.heap, o := outw w } 2 1000 rfl rfl rfl trivial (by simp [SV.den, SE.den, NE.den, PE.den, IE.den]) ?_
  conv => arg 7; reduce
  simp only [VC.den, BE.prop, IE.den, NE.den, SE.den, SV.den, HE.den, PE.den, BE.den, WS.den, WI.den, noneIn, List.map_cons, List.map_nil, Int.cast_ofNat_Int, reduceIte, Nat.reduceEqDiff, Env.setE, Env.setH, Env.setB, Env.setI, Env.setP, Env.setW]
  intro w1 hw1 ho1
  refine (there_Y hK key now w1 (by rw [hw1]; exact H) hk).mono ?_
  rintro e1 v1 ⟨b, p, ok, rfl, hH, hb, hf1, hp1, D1, hD1, H1⟩
  rw [hw1] at hf1
  have hT1 := hT.keep hf1 hz
  refine ⟨hp1.trans ho1, _, hf1, trivial, b, rfl, fun h => absurd h (by omega), fun _ => ?_⟩
  intro w2 hw2 ho2
  refine (Empty_any vb t _ (by rw [hw2]; exact hT1)).mono ?_
  rintro e2 v2 ⟨rfl, hx2, hp2⟩
  rw [hw2] at hx2
  refine ⟨hp2.trans ho2, hx2, ?_⟩
  refine ⟨_, rfl, fun h => (by cases h.1), fun _ => ?_⟩
  intro w3 hw3 ho3
  refine (Empty_any vb t _ (by rw [hw3]; exact hx2.cellsAt hT1)).mono ?_
  rintro e3 v3 ⟨rfl, hx3, hp3⟩
  rw [hw3] at hx3
  refine ⟨hp3.trans ho3, hx3, ?_⟩
  have hX := hx2.trans hx3
  have HS := H1.ext hX
  have hl := HS.len hK
  obtain ⟨s, Hs, rfl, rfl, rfl, h4, h5, k1, k2, k3⟩ := HS
  rw [← h4, ← h5]
  rw [← h4, ← h5] at hl
  refine ⟨_, rfl, fun _ => ⟨_, Hs.hd.at0 (j := 3) rfl, fun w4 hw4 ho4 => ?_⟩, fun h => (h (by simp)).elim⟩
  refine (dPutXP_any (K := K) key (some ⟨vb, 0, none⟩) w4 hK.few (fun x hx => (k1 x hx).1) hk (by rw [hw4]; exact Hs.d) (by omega) (by omega)).mono ?_
  rintro e4 v4 ⟨rfl, hf4, hp4, db', D', C', nd', HD, hDD⟩
  rw [hw4] at hf4 HD
  obtain ⟨H4, hz4⟩ := Hs.onD hf4 HD
  refine ⟨hp4.trans ho4, _, hz4, trivial, _, rfl, _, H4.hd.at0 (j := 4) rfl, fun w5 hw5 ho5 => ?_⟩
  refine (dDeleteI_x s.E.d s.E.db s.E.nb s.E.lb s.E.tb s.E.gb s.seed s.Me key w5 (by rw [hw5]; exact H4.e) (by omega) (by omega)).mono ?_
  rintro e5 v5 ⟨rfl, hf5, hp5, HE⟩
  rw [hw5] at hf5
  obtain ⟨H5, hz5⟩ := H4.onE (g := s.E.gb) hf5 (.inl rfl) HE
  have k1' : ∀ x ∈ pt s.Md key (some ⟨vb, 0, none⟩), x.1 ∈ K ∧ x.2 ≠ none := fun x hx => by
    rcases List.mem_cons.1 hx with rfl | hx
    · exact ⟨hk, by simp⟩
    · exact k1 x (mem_rm.1 hx).1
  have ex : SyS Z K Ke s.seed D' v5.heap s.sb (pt s.Md key (some ⟨vb, 0, none⟩)) (rm s.Me key) := ⟨_, H5, rfl, rfl, rfl, rfl, rfl, k1', rm_in k2, k3⟩
  refine ⟨hp5.trans ho5, _, hz5, trivial, _, rfl, fun w6 hw6 ho6 => ?_⟩
  refine (changed_Y hK key w6 (by rw [hw6]; exact ex) hk).mono ?_
  rintro e6 v6 ⟨rfl, hf6, hp6, D6, hD6, H6⟩
  rw [hw6] at hf6
  refine ⟨hp6.trans ho6, _, hf6, trivial, rfl, fun hf w7 hw7 ho7 => ⟨trivial, ?_, ho7, D6, Nat.le_trans hD1 (Nat.le_trans hDD hD6), by rw [hw7]; exact H6⟩⟩
  rw [hw7]
  exact hf.mono fun b _ h => by simpa using h
theorem Delete_Y (hK : KyOk K Ke seed) (key : Key) (now : Int) (w : World) (H : SyS Z K Ke seed D w.heap sb md me) (hk : key ∈ K) :
    Calls Tryz.prog 18 #[.pointer (some ⟨sb, 0, none⟩), .string (bs key), .int .i64 now] w fun e w' => ∃ b md' me', e = .returned (.bool b) ∧ SyR Z K Ke seed D w.heap (outw w) sb md' me' w' ∧ (md' = tM md me key now ∧ me' = tM me me key now ∨ md' = rm (tM md me key now) key ∧ me' = rm (tM me me key now) key) := by
  refine begins (k18 {}) [.ptr (.at (.v 0) (.c 0)), .str (.v 0), .int .i64 (.v 0)] [] { n := fun _ => sb, i := fun _ => now, s := fun _ => key, h := fun _ => w.heap, o := outw w } 1 1000 rfl rfl rfl trivial (by simp [SV.den, SE.den, NE.den, PE.den, IE.den]) ?_
  conv => arg 7; reduce
  simp only [VC.den, BE.prop, IE.den, NE.den, SE.den, SV.den, HE.den, PE.den, BE.den, WS.den, WI.den, noneIn, List.map_cons, List.map_nil, reduceIte, Nat.reduceEqDiff, Env.setE, Env.setH, Env.setB, Env.setW]
  intro w1 hw1 ho1
  refine (there_Y hK key now w1 (by rw [hw1]; exact H) hk).mono ?_
  rintro e1 v1 ⟨b, p, ok, rfl, hH, hb, hf1, hp1, D1, hD1, H1⟩
  rw [hw1] at hf1
  refine ⟨hp1.trans ho1, _, hf1, trivial, b, rfl, fun _ hf w2 hw2 ho2 => ?_, fun _ w2 hw2 ho2 => ?_⟩
  · exact ⟨_, _, _, rfl, ⟨by rw [hw2]; exact hf1, ho2, D1, hD1, by rw [hw2]; exact H1⟩, .inl ⟨rfl, rfl⟩⟩
  · refine (drop_Y hK key w2 (by rw [hw2]; exact H1) hk).mono ?_
    rintro e2 v2 ⟨rfl, hf2, hp2, D2, hD2, H2⟩
    rw [hw2] at hf2
    refine ⟨hp2.trans ho2, _, hf2, trivial, rfl, fun hf w3 hw3 ho3 => ⟨_, _, _, rfl, ⟨?_, ho3, D2, Nat.le_trans hD1 hD2, by rw [hw3]; exact H2⟩, .inr ⟨rfl, rfl⟩⟩⟩
    rw [hw3]
    exact hf.mono fun b _ h => by simpa using h
theorem Expire_Y (hK : KyOk K Ke seed) (key : Key) (at_ now : Int) (w : World) (H : SyS Z K Ke seed D w.heap sb md me) (hk : key ∈ K) (hke : key ∈ Ke) (hat : now < at_) :
    Calls Tryz.prog 10 #[.pointer (some ⟨sb, 0, none⟩), .string (bs key), .int .i64 at_, .int .i64 now] w fun e w' => ∃ b md' me', e = .returned (.bool b) ∧ SyR Z K Ke seed D w.heap (outw w) sb md' me' w' ∧ md' = tM md me key now ∧ (me' = tM me me key now ∨ me' = pt (tM me me key now) key at_) := by
  have hs := hK.kl key hk
  refine begins (k10 {}) [.ptr (.at (.v 0) (.c 0)), .str (.v 0), .int .i64 (.v 1), .int .i64 (.v 0)] [] { n := fun _ => sb, i := fun j => if j = 0 then now else at_, s := fun _ => key, h := fun _ => w.heap, o := outw w } 2 1000 rfl rfl rfl trivial (by simp [SV.den, SE.den, NE.den, PE.den, IE.den]) ?_
  conv => arg 7; reduce
  simp only [VC.den, BE.prop, IE.den, NE.den, SE.den, SV.den, HE.den, PE.den, BE.den, WS.den, WI.den, noneIn, List.map_cons, List.map_nil, reduceIte, Nat.reduceEqDiff, Env.setE, Env.setH, Env.setB, Env.setI, Env.setP, Env.setW]
  intro w1 hw1 ho1
  refine (there_Y hK key now w1 (by rw [hw1]; exact H) hk).mono ?_
  rintro e1 v1 ⟨b, p, ok, rfl, hH, hb, hf1, hp1, D1, hD1, H1⟩
  rw [hw1] at hf1
  refine ⟨hp1.trans ho1, _, hf1, trivial, b, rfl, fun _ hf w2 hw2 ho2 => ?_, fun _ => ⟨fun h => absurd h (by omega), fun _ => ?_⟩⟩
  · exact ⟨_, _, _, rfl, ⟨by rw [hw2]; exact hf1, ho2, D1, hD1, by rw [hw2]; exact H1⟩, rfl, .inl rfl⟩
  · have hl := H1.len hK
    have hne := hK.ne
    obtain ⟨s, Hs, rfl, rfl, rfl, h4, h5, k1, k2, k3⟩ := H1
    rw [← h4, ← h5]
    rw [← h4, ← h5] at hl
    refine ⟨_, Hs.hd.at0 (j := 4) rfl, fun w4 hw4 ho4 => ?_⟩
    refine (dPutI_x s.E.d s.E.db s.E.nb s.E.lb s.E.tb s.E.gb s.seed s.Me key at_ w4 (by rw [hw4]; exact Hs.e) (by omega) (by omega)).mono ?_
    rintro e4 v4 ⟨rfl, hf4, hp4, g, hg, HE⟩
    rw [hw4] at hf4 hg
    obtain ⟨H4, hz4⟩ := Hs.onE hf4 hg HE
    have ex : SyS Z K Ke s.seed s.D v4.heap s.sb s.Md (pt s.Me key at_) := ⟨_, H4, rfl, rfl, rfl, rfl, rfl, k1, pt_in k2 hke, k3⟩
    refine ⟨hp4.trans ho4, _, hz4, trivial, _, rfl, fun w6 hw6 ho6 => ?_⟩
    refine (changed_Y hK key w6 (by rw [hw6]; exact ex) hk).mono ?_
    rintro e6 v6 ⟨rfl, hf6, hp6, D6, hD6, H6⟩
    rw [hw6] at hf6
    refine ⟨hp6.trans ho6, _, hf6, trivial, rfl, fun hf w7 hw7 ho7 => ⟨_, _, _, rfl, ⟨?_, ho7, D6, Nat.le_trans hD1 hD6, by rw [hw7]; exact H6⟩, rfl, .inr rfl⟩⟩
    rw [hw7]
    exact hf.mono fun b _ h => by simpa using h
end Go.Proofs.YtkcjhabbgaaknaaGreat
/- A new space; which keys are alive; those that are not are struck from a list. -/
namespace Go.Proofs.YtkcjhabbgaaknaaGreat
open E
set_option maxRecDepth 100000
theorem SNew_Y (Z : Nat → Prop) (K Ke : List Key) (seed l1 l2 : Int) (w : World) (hZ : ∀ b, Z b → b < w.heap.size) :
    Calls Tryz.prog 6 #[.agg #[.int .u64 seed, .int .i64 l1, .int .i64 l2]] w fun e w' => ∃ sb, e = .returned (.pointer (some ⟨sb, 0, none⟩)) ∧ Ext w.heap w'.heap ∧ SyS Z K Ke seed 0 w'.heap sb [] [] ∧ outw w' = outw w := by
  refine begins (k6 { tell := true }) [.agg [.int .u64 (.v 0), .int .i64 (.v 1), .int .i64 (.v 2)]] [] { i := fun j => if j = 0 then seed else if j = 1 then l1 else l2, h := fun _ => w.heap, o := outw w } 3 1000 rfl rfl rfl trivial (by simp [SV.den, IE.den]) ?_
  conv => arg 7; reduce
  simp only [VC.den, IE.den, NE.den, SV.den, HE.den, PE.den, WS.den, List.map_cons, List.map_nil, Int.cast_ofNat_Int, reduceIte, Nat.reduceEqDiff, Env.setE, Env.setH, Env.setN, Env.setP]
  intro w1 hw1 ho1
  refine (dNewXP_any seed w1).mono ?_
  rintro e1 v1 ⟨a1, a2, SD, nd, rfl, hb1, hx1, HD, hp1⟩
  rw [hw1] at hb1 hx1
  refine ⟨hp1.trans ho1, hx1, _, rfl, fun w2 hw2 ho2 => ?_⟩
  refine (dNewI_any seed w2).mono ?_
  rintro e2 v2 ⟨b1, b2, b3, b4, b5, b6, rfl, hb2, hx2, HE, hp2⟩
  rw [hw2] at hb2 hx2
  refine ⟨hp2.trans ho2, hx2, _, rfl, fun w3 hw3 ho3 => ?_⟩
  refine (dNewXU_any seed w3).mono ?_
  rintro e3 v3 ⟨c1, c2, SV, nv, rfl, hb3, hx3, HV, hp3⟩
  rw [hw3] at hb3 hx3
  refine ⟨hp3.trans ho3, hx3, _, rfl, fun hc _ hf w4 hw4 ho4 => ⟨v3.heap.size, rfl, by rw [hw4]; exact hf.none, ?_, ho4⟩⟩
  rw [hw4]
  have hd := HD.lt
  have he := HE.lt
  have hv := HV.lt
  have z0 : w.heap.size ≤ (w.heap.push (.cells #[.int .u64 seed, .int .i64 l1, .int .i64 l2] 26)).size := by simp
  have z1 := hx1.le
  have z2 := hx2.le
  have z3 := hx3.le
  have hE := ext_push v3.heap (.cells #[.int .u64 seed, .int .i64 l1, .int .i64 l2, .pointer (some ⟨a1, 0, none⟩), .pointer (some ⟨b1, 0, none⟩), .pointer (some ⟨c1, 0, none⟩), .int .u64 0, .int .i64 0] 69)
  refine ⟨⟨v3.heap.size, seed, l1, l2, 0, 0, SD, a1, a2, 0, 1, nd, ⟨b1, b2, b3, b4, b5, b6⟩, SV, c1, c2, 0, 1, nv, [], [], []⟩, ⟨hc, HD.ext (hx2.trans (hx3.trans hE)), HE.ext (hx3.trans hE), HV.ext hE, fun h => ?_, fun h => ?_, fun h => ?_, fun b h h' => ?_, fun b h h' => ?_, fun b h h' => ?_, fun h => ?_, fun b h h' => ?_, fun b h h' => ?_, fun b h h' => ?_, fun b h => ?_⟩, rfl, rfl, rfl, rfl, rfl, fun x hx => (by cases hx), fun x hx => (by cases hx), fun x hx => (by cases hx)⟩
  · have := hd _ h; simp only at this; omega
  · have := he _ h; simp only at this; omega
  · exact absurd (hv _ h) (Nat.lt_irrefl _)
  · have q1 := hd _ h; have q2 := hb2 _ h'; omega
  · have q1 := hd _ h; have q2 := hb3 _ h'; omega
  · have q1 := he _ h; have q2 := hb3 _ h'; omega
  · have q1 := hZ _ h; simp only at q1; omega
  · have q1 := hZ _ h'; have q2 := hb1 _ h; omega
  · have q1 := hZ _ h'; have q2 := hb2 _ h; omega
  · have q1 := hZ _ h'; have q2 := hb3 _ h; omega
  · have q1 := hZ _ h; simp only [Array.size_push]; omega
/-- Is a key there? -/
def alive (md : List (Key × Option Addr)) (me : List (Key × Int)) (now : Int) (key : Key) : Bool := hasK md key && !deadB me key now
/-- Keys were looked at. -/
structure Tc (md : List (Key × Option Addr)) (me : List (Key × Int)) (now : Int) (md' : List (Key × Option Addr)) (me' : List (Key × Int)) : Prop where
  al : ∀ k, alive md' me' now k = alive md me now k
  sub : ∀ x ∈ md', x ∈ md
  sube : ∀ x ∈ me', x ∈ me
  keep : ∀ x ∈ md, ¬ deadB me x.1 now = true → x ∈ md'
section
variable {md md' md'' : List (Key × Option Addr)} {me me' me'' : List (Key × Int)} {now : Int}
theorem Tc.refl : Tc md me now md me := ⟨fun _ => rfl, fun _ h => h, fun _ h => h, fun _ h _ => h⟩
theorem deadB_sub (h : ∀ x ∈ me', x ∈ me) {k : Key} (hd : deadB me' k now = true) : deadB me k now = true := by
  obtain ⟨a, ha, hl⟩ := deadB_iff.1 hd
  exact deadB_iff.2 ⟨a, h _ ha, hl⟩
theorem Tc.trans (a : Tc md me now md' me') (b : Tc md' me' now md'' me'') : Tc md me now md'' me'' :=
  ⟨fun k => (b.al k).trans (a.al k), fun x hx => a.sub x (b.sub x hx), fun x hx => a.sube x (b.sube x hx), fun x hx hd => b.keep x (a.keep x hx hd) fun h => hd (deadB_sub a.sube h)⟩
theorem hasK_rm {α : Type} (l : List (Key × α)) (k k' : Key) : hasK (rm l k') k = (hasK l k && !decide (k = k')) := by
  rw [Bool.eq_iff_iff]
  unfold hasK
  simp only [List.any_eq_true, Bool.and_eq_true, decide_eq_true_eq, Bool.not_eq_true', decide_eq_false_iff_not]
  constructor
  · rintro ⟨x, hx, e⟩
    exact ⟨⟨x, (mem_rm.1 hx).1, e⟩, fun e2 => (mem_rm.1 hx).2 (e.trans e2)⟩
  · rintro ⟨⟨x, hx, e⟩, hne⟩
    exact ⟨x, mem_rm.2 ⟨hx, fun e2 => hne (e.symm.trans e2)⟩, e⟩
theorem deadB_rm (k k' : Key) : deadB (rm me k') k now = (deadB me k now && !decide (k = k')) := by
  rw [Bool.eq_iff_iff]
  simp only [deadB_iff, Bool.and_eq_true, Bool.not_eq_true', decide_eq_false_iff_not]
  constructor
  · rintro ⟨a, ha, hl⟩
    exact ⟨⟨a, (mem_rm.1 ha).1, hl⟩, (mem_rm.1 ha).2⟩
  · rintro ⟨⟨a, ha, hl⟩, hne⟩
    exact ⟨a, mem_rm.2 ⟨ha, hne⟩, hl⟩
theorem Tc.one (key : Key) : Tc md me now (tM md me key now) (tM me me key now) := by
  by_cases hd : deadB me key now = true
  · rw [tM_dead hd, tM_dead hd]
    refine ⟨fun k => ?_, fun x hx => (mem_rm.1 hx).1, fun x hx => (mem_rm.1 hx).1, fun x hx hl => mem_rm.2 ⟨hx, fun e => hl (by rw [e]; exact hd)⟩⟩
    unfold alive
    rw [hasK_rm, deadB_rm]
    by_cases e : k = key
    · subst e; simp [hd]
    · simp [e]
  · rw [tM_live hd, tM_live hd]; exact Tc.refl
end
section
variable {Z : Nat → Prop} {K Ke : List Key} {seed : Int} {D : Nat} {sb : Nat} {md : List (Key × Option Addr)} {me : List (Key × Int)}
/-- What looking at keys leaves. -/
def SyT (Z : Nat → Prop) (K Ke : List Key) (seed : Int) (D : Nat) (h0 : Heap) (o : Os × Array (Nat × ByteArray)) (sb : Nat) (md : List (Key × Option Addr)) (me : List (Key × Int)) (now : Int) (w' : World) : Prop := ∃ md' me', Tc md me now md' me' ∧ SyR Z K Ke seed D h0 o sb md' me' w'
theorem has_alive {p : Option Addr} {ok : Bool} {key : Key} {now : Int} (hv : ∀ x ∈ md, x.2 ≠ none) (hH : HasP (tM md me key now) key p ok) : p ≠ none ↔ alive md me now key = true := by
  unfold alive
  by_cases hd : deadB me key now = true
  · rw [tM_dead hd] at hH
    rw [hd]
    rcases hH with ⟨_, hm⟩ | ⟨_, rfl, _⟩
    · exact absurd rfl (mem_rm.1 hm).2
    · simp
  · rw [tM_live hd] at hH
    rw [Bool.not_eq_true] at hd
    rw [hd]
    rcases hH with ⟨_, hm⟩ | ⟨_, rfl, hm⟩
    · have h1 : hasK md key = true := List.any_eq_true.2 ⟨_, hm, by simp⟩
      have h2 := hv _ hm
      simp [h1]; exact h2
    · have h1 : hasK md key = false := List.any_eq_false.2 fun x hx => by simpa using hm x hx
      simp [h1]
theorem SyS.vals {h : Heap} (H : SyS Z K Ke seed D h sb md me) : ∀ x ∈ md, x.2 ≠ none := by
  obtain ⟨s, H, _, _, _, rfl, _, k1, _⟩ := H
  exact fun x hx => (k1 x hx).2
theorem SyS.ins {h : Heap} (H : SyS Z K Ke seed D h sb md me) : (∀ x ∈ md, x.1 ∈ K) ∧ ∀ x ∈ me, x.1 ∈ Ke := by
  obtain ⟨s, H, _, _, _, rfl, rfl, k1, k2, _⟩ := H
  exact ⟨fun x hx => (k1 x hx).1, k2⟩
theorem scan1_Y (hK : KyOk K Ke seed) (key : Key) (now : Int) (b1 b2 : Nat) (w : World) (H : SyS Z K Ke seed D w.heap sb md me) (hk : key ∈ K)
    (h1 : CellsAt w.heap b1 0 [.pointer (some ⟨sb, 0, none⟩)]) (h2 : CellsAt w.heap b2 0 [.int .i64 now]) (hne : b1 ≠ b2) (z1 : Z b1) (z2 : Z b2) :
    Calls Tryz.prog 41 #[.string (bs key), .pointer (some ⟨b1, 0, none⟩), .pointer (some ⟨b2, 0, none⟩)] w fun e w' => e = .returned (.bool (!alive md me now key)) ∧ SyT Z K Ke seed D w.heap (outw w) sb md me now w' := by
  refine begins (k41 {}) [.str (.v 0), .ptr (.at (.v 0) (.c 0)), .ptr (.at (.v 1) (.c 0))] [(.v 0, .c 0, [.ptr (.at (.v 2) (.c 0))]), (.v 1, .c 0, [.int .i64 (.v 0)])] { n := fun j => if j = 0 then b1 else if j = 1 then b2 else sb, i := fun _ => now, s := fun _ => key, h := fun _ => w.heap, o := outw w } 3 1000 rfl rfl rfl
    ⟨by simpa [NE.den, SV.den, PE.den] using h1, ⟨by simpa [NE.den] using hne, trivial⟩, by simpa [NE.den, SV.den, IE.den] using h2, trivial, trivial⟩ (by simp [SV.den, SE.den, NE.den, PE.den]) ?_
  conv => arg 7; reduce
  simp only [VC.den, IE.den, NE.den, SE.den, SV.den, HE.den, PE.den, BE.den, WS.den, WI.den, noneIn, List.map_cons, List.map_nil, reduceIte, Nat.reduceEqDiff, Env.setE, Env.setH, Env.setB, Env.setW]
  intro w1 hw1 ho1
  refine (there_Y hK key now w1 (by rw [hw1]; exact H) hk).mono ?_
  rintro e1 v1 ⟨b, p, ok, rfl, hH, hb, hf1, hp1, D', hD', H'⟩
  rw [hw1] at hf1
  have hba : b = alive md me now key := by
    rw [Bool.eq_iff_iff, hb]; exact has_alive H.vals hH
  refine ⟨hp1.trans ho1, _, hf1, ⟨fun h => h z1, fun h => h z2, trivial⟩, _, rfl, fun _ _ hf w2 hw2 ho2 => ⟨by rw [hba], _, _, Tc.one key, ?_, ho2, D', hD', by rw [hw2]; exact H'⟩⟩
  rw [hw2]; exact hf1
theorem indexF_Y (hK : KyOk K Ke seed) (now : Int) (b1 b2 : Nat) (l : List Key) (q : Option Addr) (cap : Nat) (w : World) (H : SyS Z K Ke seed D w.heap sb md me) (hl : ∀ k ∈ l, k ∈ K) (hll : l.length ≤ 100000) (hr : row w.heap q (strs l)) (hq : ∀ a, q = some a → Z a.block)
    (h1 : CellsAt w.heap b1 0 [.pointer (some ⟨sb, 0, none⟩)]) (h2 : CellsAt w.heap b2 0 [.int .i64 now]) (hne : b1 ≠ b2) (z1 : Z b1) (z2 : Z b2) :
    Calls Tryz.prog 69 #[.slice q l.length cap, cloVal (some (41, [.pointer (some ⟨b1, 0, none⟩), .pointer (some ⟨b2, 0, none⟩)]))] w fun e w' => SyT Z K Ke seed D w.heap (outw w) sb md me now w' ∧
      ((e = .returned (.int .i64 (-1)) ∧ ∀ k ∈ l, alive md me now k = true) ∨ ∃ j, ∃ hj : j < l.length, e = .returned (.int .i64 (j : Nat)) ∧ alive md me now l[j] = false ∧ ∀ k ∈ l.take j, alive md me now k = true) := by
  refine begins (k69 { pclo := false }) [.slice (.v 0) (.v 0) (.v 1), .clo 0] [] { p := fun _ => q, n := fun j => if j = 0 then l.length else cap, c := fun _ => some (41, [.pointer (some ⟨b1, 0, none⟩), .pointer (some ⟨b2, 0, none⟩)]), h := fun _ => w.heap, o := outw w } 2 1000 rfl rfl rfl trivial (by simp [SV.den, PE.den, NE.den]) ?_
  conv => arg 7; reduce
  simp only [VC.den, IE.den, NE.den, SV.den, HE.den, PE.den, WS.den, List.map_cons, List.map_nil, Int.cast_ofNat_Int, reduceIte, Nat.reduceEqDiff]
  intro _
  refine looping (k69 { pclo := false }) [.slice (.v 0) (.v 0) (.v 1), .clo 0, .int .i64 (.ofN (.v 0)), .int .i64 (.ofN (.v 2))] []
    (fun y : Nat × Heap => { p := fun _ => q, n := fun j => if j = 0 then l.length else if j = 1 then cap else y.1, c := fun _ => some (41, [.pointer (some ⟨b1, 0, none⟩), .pointer (some ⟨b2, 0, none⟩)]), h := fun _ => y.2, o := outw w }) 3 1000
    (fun y => y.1 ≤ l.length ∧ E.Frame (fun b => ¬ Z b) w.heap y.2 ∧ (∃ md' me' D', Tc md me now md' me' ∧ D ≤ D' ∧ SyS Z K Ke seed D' y.2 sb md' me') ∧ ∀ k ∈ l.take y.1, alive md me now k = true) (fun y => l.length - y.1) (0, w.heap) ⟨Nat.zero_le _, E.Frame.refl _ _, ⟨md, me, D, Tc.refl, Nat.le_refl _, H⟩, fun k hk => by simp at hk⟩ rfl (by simp [SV.den, IE.den, NE.den, PE.den]) rfl (fun _ => rfl) (fun _ _ => trivial) ?_
  rintro ⟨i, h⟩ ⟨hi, hf, ⟨md1, me1, D1, hT, hD1, H1⟩, hal⟩ N hN
  simp only at hi hf H1 hal
  simp only [SV.den, PE.den, NE.den, IE.den, List.map_cons, List.map_nil, reduceIte, Nat.reduceEqDiff] at hN
  conv => arg 7; reduce
  simp only [VC.den, BE.prop, IE.den, NE.den, SE.den, SV.den, HE.den, PE.den, BE.den, WS.den, WI.den, noneIn, List.map_cons, List.map_nil, List.cons_append, List.nil_append, Int.cast_ofNat_Int, reduceIte, Nat.reduceEqDiff, Env.setE, Env.setH, Env.setB, Env.setS, Env.setN, Env.setW, inK_i64]
  refine ⟨fun h1' => ?_, fun h1' _ w1 hw1 ho1 => ⟨⟨md1, me1, hT, by rw [hw1]; exact hf, ho1, D1, hD1, by rw [hw1]; exact H1⟩, .inl ⟨trivial, ?_⟩⟩⟩
  · have hlt : i < l.length := by omega
    have hr' : row h q (strs l) := by
      rcases hr with hr | ⟨b, o, rfl, hr⟩
      · exact .inl hr
      · refine .inr ⟨b, o, rfl, fun j v hj => ?_⟩
        have hg := hr j v hj
        rw [get_same (hf.old b (get_lt hg) (fun hn => hn (hq _ rfl)))]; exact hg
    obtain ⟨b, o, rfl, g0⟩ := strs_atX hr' hlt
    refine ⟨b, o, rfl, h1', _, g0, 41, _, rfl, by kernel_rfl, fun w1 hw1 ho1 => ?_⟩
    refine (scan1_Y hK l[i] now b1 b2 w1 (by rw [hw1]; exact H1) (hl _ (List.getElem_mem hlt)) (by rw [hw1]; exact hf.cellsAt h1 (fun hn => hn z1)) (by rw [hw1]; exact hf.cellsAt h2 (fun hn => hn z2)) hne z1 z2).mono ?_
    rintro e1 v1 ⟨rfl, md2, me2, hT2, hf1, hp1, D2, hD2, H2⟩
    rw [hw1] at hf1
    rw [hT.al]
    have hfx := frz_trans hf hf1
    have hTT := hT.trans hT2
    refine ⟨hp1.trans ho1, _, hf1, trivial, _, rfl, fun hb _ w2 hw2 ho2 => ?_, fun hb => ⟨by omega, fun _ => ?_⟩⟩
    · exact ⟨⟨md2, me2, hTT, by rw [hw2]; exact hfx, ho2, D2, Nat.le_trans hD1 hD2, by rw [hw2]; exact H2⟩, .inr ⟨i, hlt, rfl, by simpa using hb, hal⟩⟩
    · refine hN (i + 1, v1.heap) ⟨hlt, hfx, ⟨md2, me2, D2, hTT, Nat.le_trans hD1 hD2, H2⟩, fun k hk => ?_⟩ (by simp only; omega)
      rw [List.take_succ_eq_append_getElem hlt] at hk
      rcases List.mem_append.1 hk with hk | hk
      · exact hal k hk
      · rw [List.mem_singleton.1 hk]; simpa using hb
  · have : i = l.length := by omega
    subst this
    rwa [List.take_length] at hal
end
end Go.Proofs.YtkcjhabbgaaknaaGreat
/- slices.DeleteFunc of a scan's keys. -/
namespace Go.Proofs.YtkcjhabbgaaknaaGreat
open E
set_option maxRecDepth 100000
section
variable {Z : Nat → Prop} {K Ke : List Key} {seed : Int} {D : Nat} {sb : Nat} {md : List (Key × Option Addr)} {me : List (Key × Int)}
theorem SyS.wr {h h' : Heap} (H : SyS Z K Ke seed D h sb md me) (hf : E.Frame Z h h') : SyS Z K Ke seed D h' sb md me := by
  obtain ⟨s, H, r⟩ := H
  exact ⟨s, ⟨hf.cellsAt H.hd H.zs, H.d.frame hf H.zd, H.e.frame hf H.ze, H.v.frame hf H.zv, H.sd, H.se, H.sv, H.de, H.dv, H.ev, H.zs, H.zd, H.ze, H.zv, fun b hb => Nat.lt_of_lt_of_le (H.zl b hb) hf.le⟩, r⟩
theorem delF_Y (hK : KyOk K Ke seed) (now : Int) (b1 b2 base : Nat) (l : List Key) (q : Option Addr) (cap : Nat) (w : World) (H : SyS Z K Ke seed D w.heap sb md me) (hl : ∀ k ∈ l, k ∈ K) (hll : l.length ≤ 100000) (hown : Own w.heap base q cap 1 (strs l)) (hq : ∀ a, q = some a → Z a.block ∧ a.block ≠ b1 ∧ a.block ≠ b2)
    (h1 : CellsAt w.heap b1 0 [.pointer (some ⟨sb, 0, none⟩)]) (h2 : CellsAt w.heap b2 0 [.int .i64 now]) (hne : b1 ≠ b2) (z1 : Z b1) (z2 : Z b2) :
    Calls Tryz.prog 40 #[.slice q l.length cap, cloVal (some (41, [.pointer (some ⟨b1, 0, none⟩), .pointer (some ⟨b2, 0, none⟩)]))] w fun e w' => e = .returned (.slice q (l.filter (alive md me now)).length cap) ∧ row w'.heap q (strs (l.filter (alive md me now))) ∧
      E.Frame (fun b => ¬ Z b ∨ ∃ a, q = some a ∧ b = a.block) w.heap w'.heap ∧ outw w' = outw w ∧ ∃ md' me' D', Tc md me now md' me' ∧ D ≤ D' ∧ SyS Z K Ke seed D' w'.heap sb md' me' := by
  refine begins (k40 { pclo := false }) [.slice (.v 0) (.v 0) (.v 1), .clo 0] [] { p := fun _ => q, n := fun j => if j = 0 then l.length else cap, c := fun _ => some (41, [.pointer (some ⟨b1, 0, none⟩), .pointer (some ⟨b2, 0, none⟩)]), h := fun _ => w.heap, o := outw w } 2 1000 rfl rfl rfl trivial (by simp [SV.den, PE.den, NE.den]) ?_
  conv => arg 7; reduce
  simp only [VC.den, BE.prop, IE.den, NE.den, SV.den, HE.den, PE.den, WS.den, WI.den, noneIn, List.map_cons, List.map_nil, Int.cast_ofNat_Int, reduceIte, Nat.reduceEqDiff, Env.setE, Env.setH, Env.setI, Env.setW, inK_i64]
  intro w1 hw1 ho1
  refine (indexF_Y hK now b1 b2 l q cap w1 (by rw [hw1]; exact H) hl hll (by rw [hw1]; exact hown.row) (fun a ha => (hq a ha).1) (by rw [hw1]; exact h1) (by rw [hw1]; exact h2) hne z1 z2).mono ?_
  rintro e1 v1 ⟨⟨md1, me1, hT1, hf1, hp1, D1, hD1, H1⟩, hres⟩
  rw [hw1] at hf1
  rcases hres with ⟨rfl, hall⟩ | ⟨j, hj, rfl, hdead, hpre⟩
  · have hfil : l.filter (alive md me now) = l := List.filter_eq_self.2 hall
    refine ⟨hp1.trans ho1, _, hf1, trivial, _, rfl, fun _ hf w2 hw2 ho2 => ⟨by rw [hfil], ?_, ?_, ho2, md1, me1, D1, hT1, hD1, by rw [hw2]; exact H1⟩, fun h => absurd rfl h⟩
    · rw [hfil, hw2]
      rcases hown.row with hr | ⟨b, o, e, hr⟩
      · exact .inl hr
      · refine .inr ⟨b, o, e, fun j v hj => ?_⟩
        have hg := hr j v hj
        rw [get_same (hf1.old b (get_lt hg) (fun hn => hn (hq _ e).1))]; exact hg
    · rw [hw2]; exact hf1.mono fun b _ h => .inl h
  · refine ⟨hp1.trans ho1, _, hf1, trivial, _, rfl, fun h => absurd h (by omega), fun _ => ⟨by omega, ?_⟩⟩
    intro _
    obtain ⟨lb, rest, rfl, hc0, hcl⟩ : ∃ lb rest, q = some ⟨lb, 0, none⟩ ∧ CellsAt w.heap lb 0 (strs l ++ rest) ∧ (strs l ++ rest).length = cap := by
      rcases hown with ⟨_, h, _⟩ | ⟨lb, rest, e, _, hc, hl⟩
      · have := congrArg List.length h
        rw [strs_length] at this
        simp only [List.length_nil] at this
        omega
      · exact ⟨lb, rest, e, hc, by omega⟩
    obtain ⟨zl, n1, n2⟩ := hq _ rfl
    simp only at zl n1 n2
    have hstart : l.take j = (l.take (j + 1)).filter (alive md me now) := by
      rw [List.take_succ_eq_append_getElem hj, List.filter_append, List.filter_eq_self.2 hpre, List.filter_cons, hdead]; simp
    refine looping (k40 { pclo := false }) [.slice (.at (.v 0) (.c 0)) (.v 1) (.v 2), .clo 0, .int .i64 (.ofN (.v 3)), .int .i64 (.ofN (.v 4))] []
      (fun y : Nat × Nat × List Key × Heap => { n := fun x => if x = 0 then lb else if x = 1 then l.length else if x = 2 then cap else if x = 3 then y.1 else y.2.1, c := fun _ => some (41, [.pointer (some ⟨b1, 0, none⟩), .pointer (some ⟨b2, 0, none⟩)]), h := fun _ => y.2.2.2, o := outw w }) 5 1000
      (fun y => y.1 < y.2.1 ∧ y.2.1 ≤ l.length ∧ y.2.2.1.length = l.length ∧ y.2.2.1.take y.1 = (l.take y.2.1).filter (alive md me now) ∧ y.2.2.1.drop y.2.1 = l.drop y.2.1 ∧ E.Frame (fun b => ¬ Z b ∨ b = lb) w.heap y.2.2.2 ∧ CellsAt y.2.2.2 lb 0 (strs y.2.2.1 ++ rest) ∧ ∃ md' me' D', Tc md me now md' me' ∧ D ≤ D' ∧ SyS Z K Ke seed D' y.2.2.2 sb md' me') (fun y => l.length - y.2.1) (j, j + 1, l, v1.heap)
      ⟨Nat.lt_succ_self _, hj, rfl, hstart, rfl, hf1.mono (fun b _ h => .inl h), hf1.cellsAt hc0 (fun h => h zl), md1, me1, D1, hT1, hD1, H1⟩ rfl (by simp [SV.den, IE.den, NE.den, PE.den]) rfl (fun _ => rfl) (fun _ _ => trivial) ?_
    rintro ⟨i, jj, c, h⟩ ⟨hij, hjj, hcl2, htk, hdr, hf, hcells, md2, me2, D2, hT2, hD2, H2⟩ N hN
    simp only at hij hjj hcl2 htk hdr hf hcells H2
    simp only [SV.den, PE.den, NE.den, IE.den, List.map_cons, List.map_nil, reduceIte, Nat.reduceEqDiff] at hN
    conv => arg 7; reduce
    simp only [VC.den, BE.prop, IE.den, NE.den, SE.den, SV.den, HE.den, PE.den, BE.den, WS.den, WI.den, noneIn, List.map_cons, List.map_nil, List.cons_append, List.nil_append, Int.cast_ofNat_Int, reduceIte, Nat.reduceEqDiff, Env.setE, Env.setH, Env.setB, Env.setS, Env.setW, inK_i64]
    have hcap : l.length ≤ cap := by rw [← hcl, List.length_append, strs_length]; omega
    refine ⟨fun hlt' => ?_, fun hlt' => ?_⟩
    · have hlt : jj < l.length := by omega
      have hcj : c[jj]'(by omega) = l[jj] := by
        have := congrArg (fun z => z[0]?) hdr
        simp only [List.getElem?_drop, Nat.add_zero] at this
        rw [List.getElem?_eq_getElem (by omega), List.getElem?_eq_getElem hlt] at this
        injection this
      have g0 : E.get h lb jj = some (.string (bs l[jj])) := by
        have := hcells.at0 (j := jj) (v := .string (bs l[jj])) (by rw [List.getElem?_append_left (by rw [strs_length]; omega)]; simp [strs, show jj < c.length by omega, hcj])
        exact this
      refine ⟨hlt', _, g0, 41, _, rfl, by kernel_rfl, fun w3 hw3 ho3 => ?_⟩
      refine (scan1_Y hK l[jj] now b1 b2 w3 (by rw [hw3]; exact H2) (hl _ (List.getElem_mem hlt)) (by rw [hw3]; exact hf.cellsAt h1 (by rintro (e | e); exact e z1; exact n1 e.symm)) (by rw [hw3]; exact hf.cellsAt h2 (by rintro (e | e); exact e z2; exact n2 e.symm)) hne z1 z2).mono ?_
      rintro e3 v3 ⟨rfl, md3, me3, hT3, hf3, hp3, D3, hD3, H3⟩
      rw [hw3] at hf3
      rw [hT2.al]
      have hc3 := hf3.cellsAt hcells (fun hn => hn zl)
      have hstep : (l.take (jj + 1)).filter (alive md me now) = (l.take jj).filter (alive md me now) ++ if alive md me now l[jj] = true then [l[jj]] else [] := by
        rw [List.take_succ_eq_append_getElem hlt, List.filter_append, List.filter_cons]; rfl
      have hdr1 : c.drop (jj + 1) = l.drop (jj + 1) := by
        have := congrArg (List.drop 1) hdr
        rwa [List.drop_drop, List.drop_drop] at this
      have hwi := hc3.wr0 (j := i) (by rw [List.length_append, strs_length]; omega)
      refine ⟨hp3.trans ho3, _, hf3, trivial, _, rfl, fun hb => ⟨by omega, hwi.1, hwi.2, by omega, by omega, fun _ => ?_⟩, fun hb => ⟨by omega, fun _ => ?_⟩⟩
      · have hal : alive md me now l[jj] = true := by simpa using hb
        rw [if_pos hal, ← htk] at hstep
        have hset := hc3.set0 i (.string (bs l[jj]))
        rw [List.set_append_left _ _ (by rw [strs_length]; omega), show (strs c).set i (.string (bs l[jj])) = strs (c.set i l[jj]) by unfold strs; rw [List.map_set]] at hset
        have hfw : E.Frame Z v3.heap (setc v3.heap lb i (.string (bs l[jj]))) := E.Frame.set (E.Frame.refl Z _) (b := lb) (fun _ => zl) _ _
        have hfl : E.Frame (fun b => ¬ Z b ∨ b = lb) w.heap (setc v3.heap lb i (.string (bs l[jj]))) := (hf.trans hf3 (fun _ h => h) (fun _ _ h => .inl h)).set (b := lb) (fun _ => .inr rfl) _ _
        have htake : (c.set i l[jj]).take (i + 1) = (l.take (jj + 1)).filter (alive md me now) := by
          rw [hstep, List.take_succ_eq_append_getElem (by rw [List.length_set]; omega), List.take_set_of_le (Nat.le_refl i), List.getElem_set_self]
        have hdrop : (c.set i l[jj]).drop (jj + 1) = l.drop (jj + 1) := by
          rw [List.drop_set_of_lt (by omega), hdr1]
        exact hN (i + 1, jj + 1, c.set i l[jj], _) ⟨by simp only; omega, hlt, by simp only [List.length_set]; exact hcl2, htake, hdrop, hfl, hset, md3, me3, D3, hT2.trans hT3, Nat.le_trans hD2 hD3, H3.wr hfw⟩ (by simp only; omega)
      · have hal : ¬ alive md me now l[jj] = true := by simpa using hb
        rw [if_neg hal, List.append_nil] at hstep
        exact hN (i, jj + 1, c, v3.heap) ⟨by simp only; omega, hlt, hcl2, by rw [hstep]; exact htk, hdr1, hf.trans hf3 (fun _ h => h) (fun _ _ h => .inl h), hc3, md3, me3, D3, hT2.trans hT3, Nat.le_trans hD2 hD3, H3⟩ (by simp only; omega)
    · have hje : jj = l.length := by omega
      subst hje
      rw [List.take_length] at htk
      have hli : (l.filter (alive md me now)).length = i := by rw [← htk, List.length_take]; omega
      have hadv : advp (some ⟨lb, 0, none⟩) i cap 1 = some ⟨lb, i, none⟩ := by
        unfold advp
        rw [if_neg (by omega)]
        simp [Addr.add]
        omega
      rw [hadv]
      have hcopl : (copies (l.length - i) [Value.string (bs (bytesOf []))]).length = l.length - i := by rw [copies_length]; simp
      refine ⟨by omega, .inr ⟨lb, i, rfl, fun k hk => ?_⟩, by omega, fun _ w3 hw3 ho3 => ?_⟩
      · have := hcells.wr0 (j := i + k) (by rw [List.length_append, strs_length]; simp at hk; omega)
        simpa using this
      · have hsplit : strs c ++ rest = strs (c.take i) ++ (strs (c.drop i) ++ rest) := by rw [← List.append_assoc, strs_app, List.take_append_drop]
        rw [hsplit] at hcells
        have hset := setcs_cells (copies (l.length - i) [Value.string (bs (bytesOf []))]) (strs (c.take i)) _ (strs (c.drop i) ++ rest) hcells (by rw [hcopl, List.length_append, strs_length, List.length_drop]; omega) rfl
        rw [strs_length, List.length_take, show min i c.length = i by omega, List.append_assoc] at hset
        have hw3' : w3.heap = setcs h lb i (copies (l.length - i) [Value.string (bs (bytesOf []))]) := hw3
        have hfw : E.Frame Z h w3.heap := by rw [hw3']; exact E.Frame.setcs (F := Z) (fun _ => zl) _ _ (E.Frame.refl _ _)
        have hfl : E.Frame (fun b => b = lb) h w3.heap := by rw [hw3']; exact E.Frame.setcs (F := fun b => b = lb) (fun _ => rfl) _ _ (E.Frame.refl _ _)
        refine ⟨by rw [hli], ?_, ?_, ho3, md2, me2, D2, hT2, hD2, H2.wr hfw⟩
        · rw [hw3', ← htk]
          have := CellsAt.left hset
          exact .inr ⟨lb, 0, rfl, fun k v hk => by have := this.get hk; exact this⟩
        · exact (hf.trans hfl (fun _ h => h) (fun _ _ h => .inr h)).mono fun b _ hb => by
            rcases hb with hb | hb
            · exact .inl hb
            · exact .inr ⟨_, rfl, hb⟩
end
end Go.Proofs.YtkcjhabbgaaknaaGreat
/- A scan of a space. -/
namespace Go.Proofs.YtkcjhabbgaaknaaGreat
open E
set_option maxRecDepth 100000
section
variable {Z : Nat → Prop} {K Ke : List Key} {seed : Int} {D : Nat} {sb : Nat} {md : List (Key × Option Addr)} {me : List (Key × Int)}
theorem SyS.zl {h : Heap} (H : SyS Z K Ke seed D h sb md me) : ∀ b, Z b → b < h.size := by
  obtain ⟨s, H, _⟩ := H
  exact H.zl
/-- What a scan of a space leaves. -/
def ScanR (Z : Nat → Prop) (K Ke : List Key) (seed : Int) (D : Nat) (h0 : Heap) (o : Os × Array (Nat × ByteArray)) (sb : Nat) (md : List (Key × Option Addr)) (me : List (Key × Int)) (x n : Nat) (now : Int) : Ending → World → Prop := fun e w' =>
  ∃ l0 q cap c, ScanE md seed D x n l0 c ∧ l0.length ≤ 2000 ∧ e = .returned (.tuple #[.slice q (l0.filter (alive md me now)).length cap, .int .u64 (c : Nat)]) ∧ row w'.heap q (strs (l0.filter (alive md me now))) ∧ E.Frame (fun b => ¬ Z b) h0 w'.heap ∧ outw w' = o ∧ (∀ a, q = some a → h0.size ≤ a.block) ∧
    ∃ md' me' D', Tc md me now md' me' ∧ D ≤ D' ∧ SyS (fun b => Z b ∨ ∃ a, q = some a ∧ b = a.block) K Ke seed D' w'.heap sb md' me'
theorem Scan_Y (hK : KyOk K Ke seed) (x n : Nat) (hx : x < 2 ^ 64) (hn : 1 ≤ n) (hn2 : n ≤ 1000) (now : Int) (w : World) (H : SyS Z K Ke seed D w.heap sb md me) :
    Calls Tryz.prog 17 #[.pointer (some ⟨sb, 0, none⟩), .int .u64 (x : Nat), .int .i64 (n : Nat), .int .i64 now] w (ScanR Z K Ke seed D w.heap (outw w) sb md me x n now) := by
  have HS := H
  obtain ⟨s, H, rfl, rfl, rfl, rfl, rfl, k1, k2, k3⟩ := H
  refine begins (k17 {}) [.ptr (.at (.v 0) (.c 0)), .int .u64 (.ofN (.v 4)), .int .i64 (.ofN (.v 5)), .int .i64 (.v 6)] []
    { n := fun j => if j = 0 then s.sb else if j = 4 then x else n, i := fun _ => now, h := fun _ => w.heap, o := outw w } 7 1000 rfl rfl rfl trivial (by simp [SV.den, NE.den, PE.den, IE.den]) ?_
  conv => arg 7; reduce
  simp only [VC.den, IE.den, NE.den, SV.den, HE.den, PE.den, WS.den, WI.den, noneIn, List.map_cons, List.map_nil, reduceIte, Nat.reduceEqDiff, Env.setE, Env.setH, Env.setI, Env.setN, Env.setP, Env.setW]
  have hE := (ext_push w.heap (.cells #[.pointer (some ⟨s.sb, 0, none⟩)] 28)).trans (ext_push _ (.cells #[.int .i64 now] 2))
  refine ⟨_, (hE.cellsAt H.hd).at0 (j := 3) rfl, fun w1 hw1 ho1 => ?_⟩
  refine (dScanX_any x n hx hn hn2 w1 (by rw [hw1]; exact H.d.ext hE)).mono ?_
  rintro e1 v1 ⟨l, p, cap, c, hS, hll, rfl, hown, hx1, hp1⟩
  rw [hw1] at hx1 hown
  have hX := hE.trans hx1
  have hz := hx1.le
  simp only [Array.size_push] at hz
  refine ⟨hp1.trans ho1, hx1, p, _, cap, _, rfl, fun c1 c2 w2 hw2 ho2 => ?_⟩
  have hb2 : (w.heap.push (.cells #[.pointer (some ⟨s.sb, 0, none⟩)] 28)).size = w.heap.size + 1 := Array.size_push _
  have hpl : ∀ a, p = some a → w.heap.size + 2 ≤ a.block ∧ a.block < v1.heap.size := fun a ha => by
    rcases hown with ⟨h, _⟩ | ⟨b, rest, h, hb, hc, _⟩
    · rw [h] at ha; cases ha
    · rw [h] at ha; injection ha with ha; subst ha
      simp only [Array.size_push] at hb
      exact ⟨hb, hc.1⟩
  have hZ' : ∀ b, (s.sb = s.sb → Z b ∨ b = w.heap.size ∨ b = (w.heap.push (.cells #[.pointer (some ⟨s.sb, 0, none⟩)] 28)).size ∨ ∃ a, p = some a ∧ b = a.block) → (Z b ∨ w.heap.size ≤ b) ∧ b < v1.heap.size := fun b hb => by
    rcases hb rfl with h | h | h | ⟨a, ha, h⟩
    · have := H.zl b h; exact ⟨.inl h, by omega⟩
    · exact ⟨.inr (by omega), by omega⟩
    · exact ⟨.inr (by omega), by omega⟩
    · have := hpl a ha; exact ⟨.inr (by omega), by omega⟩
  have H2 : SyS (fun b => Z b ∨ b = w.heap.size ∨ b = (w.heap.push (.cells #[.pointer (some ⟨s.sb, 0, none⟩)] 28)).size ∨ ∃ a, p = some a ∧ b = a.block) K Ke s.seed s.D v1.heap s.sb s.Md s.Me := HS.zed hX fun b hb => hZ' b fun _ => hb
  have hlK : ∀ k ∈ l, k ∈ K := fun k hk => by
    obtain ⟨m, _, hm, _⟩ := hS
    obtain ⟨⟨v, hv⟩, _⟩ := (hm k).1 hk
    exact (k1 _ hv).1
  refine (delF_Y (Z := fun b => Z b ∨ b = w.heap.size ∨ b = (w.heap.push (.cells #[.pointer (some ⟨s.sb, 0, none⟩)] 28)).size ∨ ∃ a, p = some a ∧ b = a.block) hK now w.heap.size (w.heap.push (.cells #[.pointer (some ⟨s.sb, 0, none⟩)] 28)).size _ l p cap w2 (by rw [hw2]; exact H2) hlK (by omega) (by rw [hw2]; exact hown) (fun a ha => ⟨.inr (.inr (.inr ⟨a, ha, rfl⟩)), by have := hpl a ha; omega, by have := hpl a ha; omega⟩) (by rw [hw2]; exact c2) (by rw [hw2]; exact c1) (by omega) (.inr (.inl rfl)) (.inr (.inr (.inl rfl)))).mono ?_
  rintro e2 v2 ⟨rfl, hrow, hf2, hp2, md', me', D', hT, hDD, H3⟩
  rw [hw2] at hf2
  refine ⟨hp2.trans ho2, _, hf2, trivial, _, _, _, rfl, fun hf w3 hw3 ho3 => ⟨l, p, cap, c, hS, by omega, rfl, by rw [hw3]; exact hrow, ?_, ho3, fun a ha => by have := hpl a ha; omega, md', me', D', hT, hDD, ?_⟩⟩
  · rw [hw3]
    refine hf.mono fun b hb h hz => ?_
    rcases h with (h | ⟨a, ha, h⟩) | h
    · exact h (.inl hz)
    · have := hpl a ha; omega
    · exact h
  · rw [hw3]
    refine H3.zed (Ext.refl _) fun b hb => ?_
    have hb' : Z b ∨ b = w.heap.size ∨ b = (w.heap.push (.cells #[.pointer (some ⟨s.sb, 0, none⟩)] 28)).size ∨ ∃ a, p = some a ∧ b = a.block := by
      rcases hb with hb | hb
      · exact .inl hb
      · exact .inr (.inr (.inr hb))
    exact ⟨.inl hb', H3.zl b hb'⟩
end
end Go.Proofs.YtkcjhabbgaaknaaGreat
