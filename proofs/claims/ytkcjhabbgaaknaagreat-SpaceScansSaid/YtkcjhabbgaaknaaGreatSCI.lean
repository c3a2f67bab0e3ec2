import Derived.Test.YtkcjhabbgaaknaaGreatSBI
import Derived.Test.YtkcjhabbgaaknaaGreatSA
/- A dict as it lies in memory: one node, one table (I). -/
namespace Go.Proofs.YtkcjhabbgaaknaaGreat
open E
set_option maxRecDepth 100000
structure DctI (h : Heap) (d db nb lb tb gb : Nat) (seed : Int) (M : List (Key × Int)) : Prop where
  dc : CellsAt h d 0 [.int .u64 seed, .int .i64 0, .slice (some ⟨db, 0, none⟩) 1 1, .int .i64 (M.length : Nat)]
  bc : CellsAt h db 0 [.pointer (some ⟨nb, 0, none⟩)]
  nc : CellsAt h nb 0 [.int .i64 0, .slice (some ⟨lb, 0, none⟩) 1 1]
  lc : CellsAt h lb 0 [.pointer (some ⟨tb, 0, none⟩)]
  tab : ∃ T : Tb Int, TabAt (Value.int .i64) h tb gb seed T ∧ T.full.Perm M
  ne : [d, db, nb, lb, tb, gb].Nodup
theorem DctI.lt {h : Heap} {d db nb lb tb gb : Nat} {seed : Int} {M : List (Key × Int)} (H : DctI h d db nb lb tb gb seed M) : ∀ b ∈ [d, db, nb, lb, tb, gb], b < h.size := by
  obtain ⟨T, HT, _⟩ := H.tab
  intro b hb
  simp only [List.mem_cons, List.not_mem_nil, or_false] at hb
  rcases hb with rfl | rfl | rfl | rfl | rfl | rfl
  · exact H.dc.1
  · exact H.bc.1
  · exact H.nc.1
  · exact H.lc.1
  · exact HT.tl
  · exact HT.gl
theorem DctI.frame {F : Nat → Prop} {h h' : Heap} {d db nb lb tb gb : Nat} {seed : Int} {M : List (Key × Int)} (H : DctI h d db nb lb tb gb seed M) (hx : E.Frame F h h') (hF : ∀ b ∈ [d, db, nb, lb, tb, gb], ¬ F b) : DctI h' d db nb lb tb gb seed M := by
  obtain ⟨T, HT, hp⟩ := H.tab
  exact ⟨hx.cellsAt H.dc (hF _ (by simp)), hx.cellsAt H.bc (hF _ (by simp)), hx.cellsAt H.nc (hF _ (by simp)), hx.cellsAt H.lc (hF _ (by simp)), ⟨T, HT.frame hx (hF _ (by simp)) (hF _ (by simp)), hp⟩, H.ne⟩
theorem DctI.ext {h h' : Heap} {d db nb lb tb gb : Nat} {seed : Int} {M : List (Key × Int)} (H : DctI h d db nb lb tb gb seed M) (hx : Ext h h') : DctI h' d db nb lb tb gb seed M :=
  H.frame (hx.frame fun _ => False) fun _ _ => id
theorem placeI_any (d db nb : Nat) (x n : Nat) (seed : Int) (w : World) (hdb : d ≠ db)
    (hd : CellsAt w.heap d 0 [.int .u64 seed, .int .i64 0, .slice (some ⟨db, 0, none⟩) 1 1, .int .i64 (n : Nat)]) (hb : CellsAt w.heap db 0 [.pointer (some ⟨nb, 0, none⟩)]) :
    Calls Tryz.prog 56 #[.pointer (some ⟨d, 0, none⟩), .int .u64 (x : Nat)] w (RetX (.pointer (some ⟨nb, 0, none⟩)) w.heap (outw w)) := by
  refine begins (k56 {}) [.ptr (.at (.v 0) (.c 0)), .int .u64 (.ofN (.v 3))] [(.v 0, .c 0, [.int .u64 (.v 0), .int .i64 (.c 0), .slice (.at (.v 1) (.c 0)) (.c 1) (.c 1), .int .i64 (.ofN (.v 4))]), (.v 1, .c 0, [.ptr (.at (.v 2) (.c 0))])]
    { n := fun j => if j = 0 then d else if j = 1 then db else if j = 2 then nb else if j = 3 then x else n, i := fun _ => seed, h := fun _ => w.heap, o := outw w } 5 1000 rfl rfl rfl
    ⟨by simpa [NE.den, SV.den, IE.den, PE.den] using hd, ⟨by simpa [NE.den] using hdb, trivial⟩, by simpa [NE.den, SV.den, PE.den] using hb, trivial, trivial⟩ (by simp [SV.den, IE.den, NE.den, PE.den]) ?_
  conv => arg 7; reduce
  simp only [VC.den, BE.prop, IE.den, NE.den, SV.den, HE.den, PE.den, WS.den, List.map_cons, List.map_nil, Int.cast_ofNat_Int, reduceIte, Nat.reduceEqDiff, Env.setE, Env.setH, Env.setI, Env.setP]
  intro w1 hw1 ho1
  refine (Low_any (x : Int) _).mono ?_
  rintro e1 v1 ⟨rfl, hx1, hp1⟩
  rw [hw1] at hx1
  refine ⟨hp1.trans ho1, hx1, ?_⟩
  refine ⟨_, rfl, by omega, by omega, _, (hx1.cellsAt hb).at0 (j := 0) rfl, fun _ _ => ?_⟩
  exact (fun hf wr hwr hor => ⟨rfl, by rw [hwr]; exact hf.none, hor⟩)
theorem nfindI_any (nb lb tb gb : Nat) (seed : Int) (T : Tb Int) (key : Key) (w : World) (hs : key.length ≤ 9223372036854775807) (hnl : nb ≠ lb)
    (hn : CellsAt w.heap nb 0 [.int .i64 0, .slice (some ⟨lb, 0, none⟩) 1 1]) (hl : CellsAt w.heap lb 0 [.pointer (some ⟨tb, 0, none⟩)]) (HT : TabAt (Value.int .i64) w.heap tb gb seed T) :
    Calls Tryz.prog 57 #[.pointer (some ⟨nb, 0, none⟩), .string (bs key)] w fun e w' => ∃ p : Option Addr, e = .returned (.pointer p) ∧ ((p = some ⟨tb, 0, none⟩ ∧ ∃ v, (key, v) ∈ T.full) ∨ (p = none ∧ ∀ x ∈ T.full, x.1 ≠ key)) ∧ Ext w.heap w'.heap ∧ outw w' = outw w := by
  refine begins (k57 {}) [.ptr (.at (.v 0) (.c 0)), .str (.v 0)] [(.v 0, .c 0, [.int .i64 (.c 0), .slice (.at (.v 1) (.c 0)) (.c 1) (.c 1)]), (.v 1, .c 0, [.ptr (.at (.v 2) (.c 0))])]
    { n := fun j => if j = 0 then nb else if j = 1 then lb else tb, s := fun _ => key, h := fun _ => w.heap, o := outw w } 3 1000 rfl rfl rfl
    ⟨by simpa [NE.den, SV.den, IE.den, PE.den] using hn, ⟨by simpa [NE.den] using hnl, trivial⟩, by simpa [NE.den, SV.den, PE.den] using hl, trivial, trivial⟩ (by simp [SV.den, NE.den, PE.den, SE.den]) ?_
  conv => arg 7; reduce
  simp only [VC.den, IE.den, NE.den, SE.den, SV.den, HE.den, PE.den, WS.den, List.map_cons, List.map_nil, Int.cast_ofNat_Int, reduceIte, Nat.reduceEqDiff]
  intro _ _ _
  refine looping (k57 {}) [.str (.v 0), .slice (.at (.v 1) (.c 0)) (.c 1) (.c 1), .int .i64 (.c 1), .int .i64 (.ofN (.v 3))] []
    (fun y : Nat × Heap => { n := fun j => if j = 1 then lb else y.1, s := fun _ => key, h := fun _ => y.2, o := outw w }) 4 1000
    (fun y => y.1 ≤ 1 ∧ Ext w.heap y.2 ∧ (y.1 = 1 → ∀ x ∈ T.full, x.1 ≠ key)) (fun y => 1 - y.1) (0, w.heap) ⟨by simp, Ext.refl _, fun h => absurd h (by simp)⟩ rfl (by simp [SV.den, IE.den, NE.den, PE.den, SE.den]) rfl (fun _ => rfl) (fun _ _ => trivial) ?_
  rintro ⟨i, h⟩ ⟨hi, hx, hno⟩ N hN
  simp only at hi hx hno
  simp only [SV.den, SE.den, PE.den, NE.den, IE.den, List.map_cons, List.map_nil, reduceIte, Nat.reduceEqDiff] at hN
  conv => arg 7; reduce
  simp only [VC.den, BE.prop, IE.den, NE.den, SE.den, SV.den, HE.den, PE.den, BE.den, WS.den, List.map_cons, List.map_nil, Int.cast_ofNat_Int, reduceIte, Nat.reduceEqDiff, Env.setE, Env.setH, Env.setB, Env.setI, Env.setP, inK_i64]
  refine ⟨fun h1 => ?_, fun h1 _ w1 hw1 ho1 => ?_⟩
  · obtain rfl : i = 0 := by omega
    refine ⟨h1, _, (hx.cellsAt hl).at0 (j := 0) rfl, fun w1 hw1 ho1 => ?_⟩
    refine (tGetI_any seed T tb gb key w1 (by rw [hw1]; exact HT.ext hx) hs).mono ?_
    rintro e1 v1 ⟨v, ok, rfl, hH, hx1, hp1⟩
    rw [hw1] at hx1
    refine ⟨hp1.trans ho1, hx1, v, ok, rfl, fun hok _ w2 hw2 ho2 => ?_, fun hok => ⟨by omega, fun _ => ?_⟩⟩
    · rcases hH with ⟨_, hH⟩ | ⟨hH, _⟩
      · exact ⟨_, rfl, .inl ⟨rfl, v, hH⟩, by rw [hw2]; exact hx.trans hx1, ho2⟩
      · rw [hok] at hH; cases hH
    · rcases hH with ⟨hH, _⟩ | ⟨_, _, hH⟩
      · exact absurd hH hok
      · exact hN (1, v1.heap) ⟨Nat.le_refl _, hx.trans hx1, fun _ => hH⟩ (by simp)
  · exact ⟨none, rfl, .inr ⟨rfl, hno (by omega)⟩, by rw [hw1]; exact hx, ho1⟩
theorem roomI_any (nb lb tb gb : Nat) (seed : Int) (T : Tb Int) (w : World) (hnl : nb ≠ lb) (hf : T.full.length ≤ 111)
    (hn : CellsAt w.heap nb 0 [.int .i64 0, .slice (some ⟨lb, 0, none⟩) 1 1]) (hl : CellsAt w.heap lb 0 [.pointer (some ⟨tb, 0, none⟩)]) (HT : TabAt (Value.int .i64) w.heap tb gb seed T) :
    Calls Tryz.prog 61 #[.pointer (some ⟨nb, 0, none⟩)] w (RetX (.pointer (some ⟨tb, 0, none⟩)) w.heap (outw w)) := by
  refine begins (k61 {}) [.ptr (.at (.v 0) (.c 0))] [(.v 0, .c 0, [.int .i64 (.c 0), .slice (.at (.v 1) (.c 0)) (.c 1) (.c 1)]), (.v 1, .c 0, [.ptr (.at (.v 2) (.c 0))])]
    { n := fun j => if j = 0 then nb else if j = 1 then lb else tb, h := fun _ => w.heap, o := outw w } 3 1000 rfl rfl rfl
    ⟨by simpa [NE.den, SV.den, IE.den, PE.den] using hn, ⟨by simpa [NE.den] using hnl, trivial⟩, by simpa [NE.den, SV.den, PE.den] using hl, trivial, trivial⟩ (by simp [SV.den, NE.den, PE.den]) ?_
  conv => arg 7; reduce
  simp only [VC.den, IE.den, NE.den, SV.den, HE.den, PE.den, WS.den, List.map_cons, List.map_nil, Int.cast_ofNat_Int, reduceIte, Nat.reduceEqDiff]
  intro _ _ _
  refine looping (k61 {}) [.slice (.at (.v 1) (.c 0)) (.c 1) (.c 1), .int .i64 (.c 1), .int .i64 (.c 0)] []
    (fun _ : Unit => { n := fun _ => lb, h := fun _ => w.heap, o := outw w }) 4 1000
    (fun _ => True) (fun _ => 0) () trivial rfl (by simp [SV.den, IE.den, NE.den, PE.den]) rfl (fun _ => rfl) (fun _ _ => trivial) ?_
  rintro _ _ N hN
  conv => arg 7; reduce
  simp only [VC.den, BE.prop, IE.den, NE.den, SV.den, HE.den, PE.den, WS.den, List.map_cons, List.map_nil, Int.cast_ofNat_Int, reduceIte, Nat.reduceEqDiff, Env.setE, Env.setH, Env.setI, Env.setP]
  refine ⟨_, hl.at0 (j := 0) rfl, fun w1 hw1 ho1 => ?_⟩
  refine (tLenI_any seed T tb gb w1 (by rw [hw1]; exact HT)).mono ?_
  rintro e1 v1 ⟨rfl, hx1, hp1⟩
  rw [hw1] at hx1
  refine ⟨hp1.trans ho1, hx1, _, rfl, fun _ => ?_, fun h => absurd (by omega) h⟩
  exact (fun hf wr hwr hor => ⟨rfl, by rw [hwr]; exact hf.none, hor⟩)
theorem has_permI {l l' : List (Key × Int)} (h : l.Perm l') {key : Key} {v : Int} {ok : Bool} (H : HasI l key v ok) : HasI l' key v ok := by
  rcases H with ⟨a, b⟩ | ⟨a, b, c⟩
  · exact .inl ⟨a, h.subset b⟩
  · exact .inr ⟨a, b, fun x hx => c x (h.symm.subset hx)⟩
theorem dGetI_any (d db nb lb tb gb : Nat) (seed : Int) (M : List (Key × Int)) (key : Key) (w : World) (H : DctI w.heap d db nb lb tb gb seed M) (hs : key.length ≤ 9223372036854775807) :
    Calls Tryz.prog 33 #[.pointer (some ⟨d, 0, none⟩), .string (bs key)] w fun e w' => ∃ v ok, e = .returned (.tuple #[(Value.int .i64) v, .bool ok]) ∧ HasI M key v ok ∧ Ext w.heap w'.heap ∧ outw w' = outw w := by
  obtain ⟨T, HT, hp⟩ := H.tab
  have hne := H.ne
  simp only [List.nodup_cons, List.mem_cons, List.not_mem_nil, or_false, not_or, List.nodup_nil, and_true, not_false_eq_true] at hne
  refine begins (k33 {}) [.ptr (.at (.v 0) (.c 0)), .str (.v 0)] [(.v 0, .c 0, [.int .u64 (.v 0), .int .i64 (.c 0), .slice (.at (.v 1) (.c 0)) (.c 1) (.c 1), .int .i64 (.ofN (.v 2))])]
    { n := fun j => if j = 0 then d else if j = 1 then db else M.length, i := fun _ => seed, s := fun _ => key, h := fun _ => w.heap, o := outw w } 3 1000 rfl rfl rfl
    ⟨by simpa [NE.den, SV.den, IE.den, PE.den] using H.dc, trivial, trivial⟩ (by simp [SV.den, NE.den, PE.den, SE.den]) ?_
  conv => arg 7; reduce
  simp only [VC.den, BE.prop, IE.den, NE.den, SE.den, SV.den, HE.den, PE.den, BE.den, WS.den, List.map_cons, List.map_nil, Int.cast_ofNat_Int, reduceIte, Nat.reduceEqDiff, Env.setE, Env.setH, Env.setB, Env.setI, Env.setP]
  intro w1 hw1 ho1
  refine (Of_any seed key w1 hs).mono ?_
  rintro e1 v1 ⟨rfl, hx1, hp1⟩
  rw [hw1] at hx1
  rw [hk_cast]
  refine ⟨hp1.trans ho1, hx1, _, rfl, fun _ w2 hw2 ho2 => ?_⟩
  refine (placeI_any d db nb (hk seed key) M.length seed w2 hne.1.1 (by rw [hw2]; exact hx1.cellsAt H.dc) (by rw [hw2]; exact hx1.cellsAt H.bc)).mono ?_
  rintro e2 v2 ⟨rfl, hx2, hp2⟩
  rw [hw2] at hx2
  refine ⟨hp2.trans ho2, hx2, _, rfl, fun w3 hw3 ho3 => ?_⟩
  have hX2 := hx1.trans hx2
  refine (nfindI_any nb lb tb gb seed T key w3 hs hne.2.2.1.1 (by rw [hw3]; exact hX2.cellsAt H.nc) (by rw [hw3]; exact hX2.cellsAt H.lc) (by rw [hw3]; exact HT.ext hX2)).mono ?_
  rintro e3 v3 ⟨p, rfl, hP, hx3, hp3⟩
  rw [hw3] at hx3
  have hX3 := hX2.trans hx3
  refine ⟨hp3.trans ho3, hx3, p, rfl, fun hpn w4 hw4 ho4 => ?_, fun hpn _ hf w4 hw4 ho4 => ?_⟩
  · rcases hP with ⟨rfl, _⟩ | ⟨h, _⟩
    · refine (tGetI_any seed T tb gb key w4 (by rw [hw4]; exact HT.ext hX3) hs).mono ?_
      rintro e4 v4 ⟨v, ok, rfl, hH, hx4, hp4⟩
      rw [hw4] at hx4
      exact ⟨hp4.trans ho4, hx4, v, ok, rfl, fun _ hf w5 hw5 ho5 => ⟨v, ok, rfl, has_permI hp hH, by rw [hw5]; exact hf.none, ho5⟩⟩
    · exact absurd h hpn
  · rcases hP with ⟨h, _⟩ | ⟨_, h⟩
    · exact absurd (by rw [h]; simp) hpn
    · exact ⟨(0 : Int), false, rfl, .inr ⟨rfl, rfl, fun x hx => h x (hp.symm.subset hx)⟩, by rw [hw4]; exact hf.none, ho4⟩
end Go.Proofs.YtkcjhabbgaaknaaGreat
/- A key is put to a dict (I). -/
namespace Go.Proofs.YtkcjhabbgaaknaaGreat
open E
set_option maxRecDepth 100000
theorem put_permI {l l' M : List (Key × Int)} (h : l.Perm M) {key : Key} {v : Int} (H : PutRI l key v l') : PutRI M key v l' := by
  rcases H with ⟨u, r, a, b⟩ | ⟨a, b⟩
  · exact .inl ⟨u, r, h.symm.trans a, b⟩
  · exact .inr ⟨fun x hx => a x (h.symm.subset hx), b.trans (h.cons _)⟩
set_option maxHeartbeats 1000000 in
theorem dPutI_any (d db nb lb tb gb : Nat) (seed : Int) (M : List (Key × Int)) (key : Key) (v : Int) (w : World) (H : DctI w.heap d db nb lb tb gb seed M) (hs : key.length ≤ 9223372036854775807) (hfew : M.length ≤ 111) :
    Calls Tryz.prog 32 #[.pointer (some ⟨d, 0, none⟩), .string (bs key), (Value.int .i64) v] w fun e w' => e = .returned (.int .i64 0) ∧ E.Frame (fun b => b = d ∨ b = tb ∨ b = gb) w.heap w'.heap ∧ outw w' = outw w ∧
      ∃ gb' M', (gb' = gb ∨ w.heap.size ≤ gb') ∧ DctI w'.heap d db nb lb tb gb' seed M' ∧ PutRI M key v M' := by
  obtain ⟨T, HT, hp⟩ := H.tab
  have hne := H.ne
  simp only [List.nodup_cons, List.mem_cons, List.not_mem_nil, or_false, not_or, List.nodup_nil, and_true, not_false_eq_true] at hne
  have hlt := H.lt
  simp only [List.mem_cons, List.not_mem_nil, or_false, forall_eq_or_imp, forall_eq] at hlt
  refine begins (k32 {}) [.ptr (.at (.v 0) (.c 0)), .str (.v 0), .int .i64 (.v 9)] [(.v 0, .c 0, [.int .u64 (.v 0), .int .i64 (.c 0), .slice (.at (.v 1) (.c 0)) (.c 1) (.c 1), .int .i64 (.ofN (.v 2))])]
    { n := fun j => if j = 0 then d else if j = 1 then db else M.length, i := fun j => if j = 9 then v else seed, p := fun _ => none, s := fun _ => key, h := fun _ => w.heap, o := outw w } 10 1000 rfl rfl rfl
    ⟨by simpa [NE.den, SV.den, IE.den, PE.den] using H.dc, trivial, trivial⟩ (by simp [SV.den, IE.den, NE.den, PE.den, SE.den]) ?_
  conv => arg 7; reduce
  simp only [VC.den, BE.prop, IE.den, NE.den, SE.den, SV.den, HE.den, PE.den, WS.den, WI.den, noneIn, List.map_cons, List.map_nil, Int.cast_ofNat_Int, reduceIte, Nat.reduceEqDiff, Env.setE, Env.setH, Env.setI, Env.setP, Env.setW]
  intro w1 hw1 ho1
  refine (Of_any seed key w1 hs).mono ?_
  rintro e1 v1 ⟨rfl, hx1, hp1⟩
  rw [hw1] at hx1
  rw [hk_cast]
  refine ⟨hp1.trans ho1, hx1, _, rfl, fun _ w2 hw2 ho2 => ?_⟩
  refine (placeI_any d db nb (hk seed key) M.length seed w2 hne.1.1 (by rw [hw2]; exact hx1.cellsAt H.dc) (by rw [hw2]; exact hx1.cellsAt H.bc)).mono ?_
  rintro e2 v2 ⟨rfl, hx2, hp2⟩
  rw [hw2] at hx2
  refine ⟨hp2.trans ho2, hx2, _, rfl, fun w3 hw3 ho3 => ?_⟩
  have hX2 := hx1.trans hx2
  refine (nfindI_any nb lb tb gb seed T key w3 hs hne.2.2.1.1 (by rw [hw3]; exact hX2.cellsAt H.nc) (by rw [hw3]; exact hX2.cellsAt H.lc) (by rw [hw3]; exact HT.ext hX2)).mono ?_
  rintro e3 v3 ⟨p, rfl, hP, hx3, hp3⟩
  rw [hw3] at hx3
  have hX3 := hX2.trans hx3
  refine ⟨hp3.trans ho3, hx3, p, rfl, fun hpn => ?_, fun hpn => ?_⟩
  · rcases hP with ⟨rfl, hin⟩ | ⟨h, _⟩
    · intro w4 hw4 ho4
      refine (tPutI_any seed T tb gb key v w4 (by rw [hw4]; exact HT.ext hX3) hs (fun _ => by rw [hp.length_eq]; exact hfew)).mono ?_
      rintro e4 v4 ⟨rfl, hf4, hp4, gb', T', hgb, HT', hR⟩
      rw [hw4] at hf4 hgb
      have hz := hX3.le
      refine ⟨hp4.trans ho4, _, hf4, ⟨by rintro (e | e) <;> omega, trivial⟩, _, rfl, fun hc hf w5 hw5 ho5 => ⟨rfl, ?_, ho5, gb', T'.full, by omega, ⟨?_, ?_, ?_, ?_, ⟨T', by rw [hw5]; exact HT', List.Perm.refl _⟩, ?_⟩, put_permI hp hR⟩⟩
      · rw [hw5]; exact hf.mono fun b _ h => by simp only [or_false] at h; omega
      · rw [hw5]
        have hl : T'.full.length = M.length := by
          rcases hR with ⟨u, r, r1, r2⟩ | ⟨h, _⟩
          · have h1 := r1.length_eq
            have h2 := r2.length_eq
            have h3 := hp.length_eq
            simp only [List.length_cons] at h1 h2
            omega
          · obtain ⟨v', hv'⟩ := hin
            exact absurd rfl (h _ hv')
        rw [hl]; exact hc
      · rw [hw5]; exact hf4.cellsAt (hX3.cellsAt H.bc) (by rintro (e | e) <;> omega)
      · rw [hw5]; exact hf4.cellsAt (hX3.cellsAt H.nc) (by rintro (e | e) <;> omega)
      · rw [hw5]; exact hf4.cellsAt (hX3.cellsAt H.lc) (by rintro (e | e) <;> omega)
      · simp only [List.nodup_cons, List.mem_cons, List.not_mem_nil, or_false, not_or, List.nodup_nil, and_true, not_false_eq_true]
        omega
    · exact absurd h hpn
  · rcases hP with ⟨h, _⟩ | ⟨_, h⟩
    · exact absurd (by rw [h]; simp) hpn
    · intro hc0 _
      refine looping (k32 {}) [.ptr (.at (.v 0) (.c 0)), .str (.v 0), .int .i64 (.v 9), .int .u64 (.ofN (.v 3))] [(.v 0, .c 0, [.int .u64 (.v 0), .int .i64 (.c 0), .slice (.at (.v 1) (.c 0)) (.c 1) (.c 1), .int .i64 (.ofN (.v 2))])]
        (fun _ : Unit => { n := fun j => if j = 0 then d else if j = 1 then db else if j = 2 then M.length else hk seed key, i := fun j => if j = 9 then v else seed, p := fun _ => none, s := fun _ => key, h := fun _ => v3.heap, o := outw w }) 10 1000
        (fun _ => True) (fun _ => 0) () trivial rfl (by simp [SV.den, IE.den, NE.den, PE.den, SE.den]) rfl (fun _ => rfl) (fun _ _ => ⟨by simpa [NE.den, SV.den, IE.den, PE.den] using hc0, trivial, trivial⟩) ?_
      rintro _ _ N hN
      conv => arg 7; reduce
      simp only [VC.den, BE.prop, IE.den, NE.den, SE.den, SV.den, HE.den, PE.den, WS.den, WI.den, noneIn, List.map_cons, List.map_nil, Int.cast_ofNat_Int, reduceIte, Nat.reduceEqDiff, Env.setE, Env.setH, Env.setI, Env.setN, Env.setP, Env.setW, inK_i64]
      intro _ w4 hw4 ho4
      refine (placeI_any d db nb (hk seed key) M.length seed w4 hne.1.1 (by rw [hw4]; exact hX3.cellsAt H.dc) (by rw [hw4]; exact hX3.cellsAt H.bc)).mono ?_
      rintro e4 v4 ⟨rfl, hx4, hp4⟩
      rw [hw4] at hx4
      have hX4 := hX3.trans hx4
      refine ⟨hp4.trans ho4, hx4, _, rfl, fun w5 hw5 ho5 => ?_⟩
      refine (roomI_any nb lb tb gb seed T w5 hne.2.2.1.1 (by rw [hp.length_eq]; exact hfew) (by rw [hw5]; exact hX4.cellsAt H.nc) (by rw [hw5]; exact hX4.cellsAt H.lc) (by rw [hw5]; exact HT.ext hX4)).mono ?_
      rintro e5 v5 ⟨rfl, hx5, hp5⟩
      rw [hw5] at hx5
      have hX5 := hX4.trans hx5
      refine ⟨hp5.trans ho5, hx5, _, rfl, fun h => absurd h (by simp), fun _ => ⟨fun h => absurd h (by simp), fun _ => ⟨by omega, fun w6 hw6 ho6 => ?_⟩⟩⟩
      have hfS : E.Frame (fun b => b = d) w.heap (setc v5.heap d 3 (.int .i64 ((M.length : Int) + 1))) := E.Frame.set (hX5.frame (fun b => b = d)) (b := d) (fun _ => rfl) _ _
      refine (tPutI_any seed T tb gb key v w6 (by rw [hw6]; exact HT.frame hfS (by omega) (by omega)) hs (fun _ => by rw [hp.length_eq]; exact hfew)).mono ?_
      rintro e7 v7 ⟨rfl, hf7, hp7, gb', T', hgb, HT', hR⟩
      rw [hw6] at hf7 hgb
      have hz := hfS.le
      have hF : E.Frame (fun b => b = d ∨ b = tb ∨ b = gb) w.heap v7.heap := hfS.trans hf7 (fun _ h => .inl h) (fun _ _ h => .inr h)
      have hdc : CellsAt v7.heap d 0 [.int .u64 seed, .int .i64 0, .slice (some ⟨db, 0, none⟩) 1 1, .int .i64 ((M.length : Int) + 1)] := by
        have := hf7.cellsAt ((hX5.cellsAt H.dc).set0 3 (.int .i64 ((M.length : Int) + 1))) (by rintro (e | e) <;> omega)
        simpa using this
      refine ⟨hp7.trans ho6, _, hf7, ⟨by rintro (e | e) <;> omega, trivial⟩, _, rfl, fun _ _ w8 hw8 ho8 => ⟨rfl, ?_, ho8, gb', T'.full, by omega, ⟨?_, ?_, ?_, ?_, ⟨T', by rw [hw8]; exact HT', List.Perm.refl _⟩, ?_⟩, put_permI hp hR⟩⟩
      · rw [hw8]; exact hF
      · rw [hw8]
        have hl : ((T'.full.length : Nat) : Int) = (M.length : Int) + 1 := by
          rcases hR with ⟨u, r, r1, r2⟩ | ⟨_, r2⟩
          · exact absurd rfl (h _ (r1.symm.subset List.mem_cons_self))
          · have h2 := r2.length_eq
            have h3 := hp.length_eq
            simp only [List.length_cons] at h2
            omega
        rw [hl]; exact hdc
      · rw [hw8]; exact hF.cellsAt H.bc (by rintro (e | e | e) <;> omega)
      · rw [hw8]; exact hF.cellsAt H.nc (by rintro (e | e | e) <;> omega)
      · rw [hw8]; exact hF.cellsAt H.lc (by rintro (e | e | e) <;> omega)
      · simp only [List.nodup_cons, List.mem_cons, List.not_mem_nil, or_false, not_or, List.nodup_nil, and_true, not_false_eq_true]
        omega
end Go.Proofs.YtkcjhabbgaaknaaGreat
/- A key is taken from a dict (I). -/
namespace Go.Proofs.YtkcjhabbgaaknaaGreat
open E
set_option maxRecDepth 100000
theorem del_permI {l l' M : List (Key × Int)} (h : l.Perm M) {key : Key} {b : Bool} (H : DelRI l key b l') : ∃ M', l'.Perm M' ∧ DelRI M key b M' := by
  rcases H with ⟨a, u, c⟩ | ⟨a, c, rfl⟩
  · exact ⟨l', List.Perm.refl _, .inl ⟨a, u, h.symm.trans c⟩⟩
  · exact ⟨M, h, .inr ⟨a, fun x hx => c x (h.symm.subset hx), rfl⟩⟩
theorem dDeleteI_any (d db nb lb tb gb : Nat) (seed : Int) (M : List (Key × Int)) (key : Key) (w : World) (H : DctI w.heap d db nb lb tb gb seed M) (hs : key.length ≤ 9223372036854775807) (hM : M.length ≤ 9223372036854775807) :
    Calls Tryz.prog 30 #[.pointer (some ⟨d, 0, none⟩), .string (bs key)] w fun e w' => ∃ b, e = .returned (.bool b) ∧ E.Frame (fun b => b = d ∨ b = tb ∨ b = gb) w.heap w'.heap ∧ outw w' = outw w ∧
      ∃ M', DctI w'.heap d db nb lb tb gb seed M' ∧ DelRI M key b M' := by
  obtain ⟨T, HT, hp⟩ := H.tab
  have hne := H.ne
  simp only [List.nodup_cons, List.mem_cons, List.not_mem_nil, or_false, not_or, List.nodup_nil, and_true, not_false_eq_true] at hne
  have hlt := H.lt
  simp only [List.mem_cons, List.not_mem_nil, or_false, forall_eq_or_imp, forall_eq] at hlt
  refine begins (k30 {}) [.ptr (.at (.v 0) (.c 0)), .str (.v 0)] [(.v 0, .c 0, [.int .u64 (.v 0), .int .i64 (.c 0), .slice (.at (.v 1) (.c 0)) (.c 1) (.c 1), .int .i64 (.ofN (.v 2))])]
    { n := fun j => if j = 0 then d else if j = 1 then db else M.length, i := fun _ => seed, s := fun _ => key, h := fun _ => w.heap, o := outw w } 3 1000 rfl rfl rfl
    ⟨by simpa [NE.den, SV.den, IE.den, PE.den] using H.dc, trivial, trivial⟩ (by simp [SV.den, NE.den, PE.den, SE.den]) ?_
  conv => arg 7; reduce
  simp only [VC.den, BE.prop, IE.den, NE.den, SE.den, SV.den, HE.den, PE.den, BE.den, WS.den, WI.den, noneIn, List.map_cons, List.map_nil, Int.cast_ofNat_Int, reduceIte, Nat.reduceEqDiff, Env.setE, Env.setH, Env.setB, Env.setI, Env.setP, Env.setW, inK_i64]
  intro w1 hw1 ho1
  refine (Of_any seed key w1 hs).mono ?_
  rintro e1 v1 ⟨rfl, hx1, hp1⟩
  rw [hw1] at hx1
  rw [hk_cast]
  refine ⟨hp1.trans ho1, hx1, _, rfl, fun _ w2 hw2 ho2 => ?_⟩
  refine (placeI_any d db nb (hk seed key) M.length seed w2 hne.1.1 (by rw [hw2]; exact hx1.cellsAt H.dc) (by rw [hw2]; exact hx1.cellsAt H.bc)).mono ?_
  rintro e2 v2 ⟨rfl, hx2, hp2⟩
  rw [hw2] at hx2
  refine ⟨hp2.trans ho2, hx2, _, rfl, fun w3 hw3 ho3 => ?_⟩
  have hX2 := hx1.trans hx2
  refine (nfindI_any nb lb tb gb seed T key w3 hs hne.2.2.1.1 (by rw [hw3]; exact hX2.cellsAt H.nc) (by rw [hw3]; exact hX2.cellsAt H.lc) (by rw [hw3]; exact HT.ext hX2)).mono ?_
  rintro e3 v3 ⟨p, rfl, hP, hx3, hp3⟩
  rw [hw3] at hx3
  have hX3 := hX2.trans hx3
  refine ⟨hp3.trans ho3, hx3, p, rfl, fun hpn _ hf w4 hw4 ho4 => ?_, fun hpn => ⟨by omega, fun w4 hw4 ho4 => ?_⟩⟩
  · rcases hP with ⟨h, _⟩ | ⟨_, h⟩
    · exact absurd (h.symm.trans hpn) (by simp)
    · exact ⟨false, rfl, by rw [hw4]; exact hX3.frame _, ho4, M, by rw [hw4]; exact H.ext hX3, .inr ⟨rfl, fun x hx => h x (hp.symm.subset hx), rfl⟩⟩
  · rcases hP with ⟨rfl, v0, hin⟩ | ⟨h, _⟩
    · have hfS : E.Frame (fun b => b = d) w.heap (setc v3.heap d 3 (.int .i64 ((M.length : Int) - 1))) := E.Frame.set (hX3.frame (fun b => b = d)) (b := d) (fun _ => rfl) _ _
      refine (tDeleteI_any seed T tb gb key w4 (by rw [hw4]; exact HT.frame hfS (by omega) (by omega)) hs).mono ?_
      rintro e7 v7 ⟨b, rfl, hf7, hp7, T', HT', hR⟩
      rw [hw4] at hf7
      obtain ⟨M', hpM, hRM⟩ := del_permI hp hR
      have hF : E.Frame (fun b => b = d ∨ b = tb ∨ b = gb) w.heap v7.heap := hfS.trans hf7 (fun _ h => .inl h) (fun _ _ h => .inr h)
      have hdc : CellsAt v7.heap d 0 [.int .u64 seed, .int .i64 0, .slice (some ⟨db, 0, none⟩) 1 1, .int .i64 ((M.length : Int) - 1)] := by
        have := hf7.cellsAt ((hX3.cellsAt H.dc).set0 3 (.int .i64 ((M.length : Int) - 1))) (by rintro (e | e) <;> omega)
        simpa using this
      refine ⟨hp7.trans ho4, _, hf7, ⟨by rintro (e | e) <;> omega, trivial⟩, b, rfl, fun _ _ w8 hw8 ho8 => ⟨b, rfl, ?_, ho8, M', ⟨?_, ?_, ?_, ?_, ⟨T', by rw [hw8]; exact HT', hpM⟩, H.ne⟩, hRM⟩⟩
      · rw [hw8]; exact hF
      · rw [hw8]
        have hl : ((M'.length : Nat) : Int) = (M.length : Int) - 1 := by
          rcases hRM with ⟨_, u, r⟩ | ⟨_, r, _⟩
          · have h2 := r.length_eq
            simp only [List.length_cons] at h2
            omega
          · exact absurd rfl (r _ (hp.subset hin))
        rw [hl]; exact hdc
      · rw [hw8]; exact hF.cellsAt H.bc (by rintro (e | e | e) <;> omega)
      · rw [hw8]; exact hF.cellsAt H.nc (by rintro (e | e | e) <;> omega)
      · rw [hw8]; exact hF.cellsAt H.lc (by rintro (e | e | e) <;> omega)
    · exact absurd h hpn
end Go.Proofs.YtkcjhabbgaaknaaGreat
/- New tables, new dicts (I). -/
namespace Go.Proofs.YtkcjhabbgaaknaaGreat
open E
set_option maxRecDepth 100000
theorem tNewI_any (seed : Int) (w : World) :
    Calls Tryz.prog 45 #[.int .u64 seed] w fun e w' => ∃ tb gb, e = .returned (.pointer (some ⟨tb, 0, none⟩)) ∧ w.heap.size ≤ tb ∧ w.heap.size ≤ gb ∧ Ext w.heap w'.heap ∧ TabAt (Value.int .i64) w'.heap tb gb seed (Tb.new 1 (0 : Int)) ∧ outw w' = outw w := by
  refine begins (k45 { tell := true }) [.int .u64 (.v 0)] [] { i := fun _ => seed, h := fun _ => w.heap, o := outw w } 1 1000 rfl rfl rfl trivial (by simp [SV.den, IE.den]) ?_
  conv => arg 7; reduce
  simp only [VC.den, IE.den, NE.den, SV.den, HE.den, PE.den, WS.den, List.map_cons, List.map_nil, Int.cast_ofNat_Int, reduceIte, Nat.reduceEqDiff, Env.setE, Env.setH, Env.setN, Env.setP]
  intro w1 hw1 ho1
  refine (emptyI_any 1 (by decide) w1).mono ?_
  rintro e1 v1 ⟨b, rfl, hb, hx1, hG, hp1⟩
  rw [hw1] at hb hx1
  refine ⟨hp1.trans ho1, hx1, _, _, _, rfl, fun hc hf w2 hw2 ho2 => ⟨v1.heap.size, b, rfl, hx1.le, hb, by rw [hw2]; exact hf.none, ?_, ho2⟩⟩
  rw [hw2]
  have hbl := get_lt (hG.w 0 (by decide))
  exact ⟨by rw [Tb.new_full, Tb.new_dels]; exact hc, hG.ext (ext_push _ _) hbl, by omega, Tb.new_ok 1 _ (by decide), by decide, fun x hx => by rw [Tb.new_full] at hx; cases hx⟩
theorem dNewI_any (seed : Int) (w : World) :
    Calls Tryz.prog 24 #[.int .u64 seed] w fun e w' => ∃ d db nb lb tb gb, e = .returned (.pointer (some ⟨d, 0, none⟩)) ∧ (∀ b ∈ [d, db, nb, lb, tb, gb], w.heap.size ≤ b) ∧ Ext w.heap w'.heap ∧ DctI w'.heap d db nb lb tb gb seed [] ∧ outw w' = outw w := by
  refine begins (k24 { tell := true }) [.int .u64 (.v 0)] [] { i := fun _ => seed, h := fun _ => w.heap, o := outw w } 1 1000 rfl rfl rfl trivial (by simp [SV.den, IE.den]) ?_
  conv => arg 7; reduce
  simp only [VC.den, IE.den, NE.den, SV.den, HE.den, PE.den, WS.den, List.map_cons, List.map_nil, Int.cast_ofNat_Int, reduceIte, Nat.reduceEqDiff, Env.setE, Env.setH, Env.setN, Env.setP]
  intro w1 hw1 ho1
  refine (tNewI_any seed w1).mono ?_
  rintro e1 v1 ⟨tb, gb, rfl, htb, hgb, hx1, HT, hp1⟩
  rw [hw1] at htb hgb hx1
  have htl := HT.tl
  have hgl := HT.gl
  have htg := HT.ne
  refine ⟨hp1.trans ho1, hx1, _, rfl, fun c1 c2 c3 c4 hf w2 hw2 ho2 => ?_⟩
  have hz := hx1.le
  have hT2 : TabAt (Value.int .i64) w2.heap tb gb seed (Tb.new 1 (0 : Int)) := by
    rw [hw2]
    exact (((HT.ext (ext_push _ _)).ext (ext_push _ _)).ext (ext_push _ _)).ext (ext_push _ _)
  refine ⟨_, _, _, _, tb, gb, rfl, ?_, by rw [hw2]; exact hf.none, ⟨by rw [hw2]; exact c1, by rw [hw2]; exact c2, by rw [hw2]; exact c3, by rw [hw2]; exact c4, ⟨_, hT2, by rw [Tb.new_full]⟩, ?_⟩, ho2⟩
  · intro b hb
    simp only [List.mem_cons, List.not_mem_nil, or_false] at hb
    rcases hb with rfl | rfl | rfl | rfl | rfl | rfl
    all_goals first | omega | (simp only [Array.size_push]; omega)
  · simp only [List.nodup_cons, List.mem_cons, List.not_mem_nil, or_false, not_or, List.nodup_nil, and_true, not_false_eq_true, Array.size_push]
    omega
end Go.Proofs.YtkcjhabbgaaknaaGreat
/- A table's keys (I). -/
namespace Go.Proofs.YtkcjhabbgaaknaaGreat
open E
set_option maxRecDepth 100000
def strs (l : List Key) : List Value := l.map fun s => Value.string (bs s)
theorem strs_length (l : List Key) : (strs l).length = l.length := by simp [strs]
theorem strs_snoc (l : List Key) (s : Key) : strs (l ++ [s]) = strs l ++ [.string (bs s)] := by simp [strs]
/-- A variable that has a slice of texts. -/
def KS (h : Heap) (ob base : Nat) (l : List Key) : Prop := ∃ p cap, CellsAt h ob 0 [.slice p l.length cap] ∧ Own h base p cap 1 (strs l)
theorem KS.ext {h h' : Heap} {ob base : Nat} {l : List Key} (H : KS h ob base l) (hx : Ext h h') : KS h' ob base l := by
  obtain ⟨p, cap, hc, ho⟩ := H
  exact ⟨p, cap, hx.cellsAt hc, ho.ext hx⟩
theorem own_ne {h : Heap} {base cap size : Nat} {p : Option Addr} {vs : List Value} (H : Own h base p cap size vs) {b : Nat} (hb : b < base) (o : Nat) (v : Value) : Own (setc h b o v) base p cap size vs := by
  rcases H with H | ⟨b', rest, h1, h2, hc, h3⟩
  · exact .inl H
  · exact .inr ⟨b', rest, h1, h2, hc.ne (by omega) _ _, h3⟩
theorem keys1_any (ob base : Nat) (l : List Key) (key : Key) (v : Int) (w : World) (p : Option Addr) (cap : Nat) (hc : CellsAt w.heap ob 0 [.slice p l.length cap]) (ho : Own w.heap base p cap 1 (strs l)) (hob : ob < base) (hb : base ≤ w.heap.size) (hl : l.length ≤ 1000000) :
    Calls Tryz.prog 126 #[.string (bs key), (Value.int .i64) v, .pointer (some ⟨ob, 0, none⟩)] w fun e w' => e = .returned (.tuple #[]) ∧ E.Frame (fun b => b = ob ∨ ∃ a, p = some a ∧ b = a.block) w.heap w'.heap ∧ outw w' = outw w ∧ KS w'.heap ob base (l ++ [key]) := by
  refine begins (k126 {}) [.str (.v 0), .int .i64 (.v 9), .ptr (.at (.v 0) (.c 0))] [(.v 0, .c 0, [.slice (.v 0) (.v 1) (.v 2)])] { n := fun j => if j = 0 then ob else if j = 1 then l.length else cap, p := fun j => if j = 9 then none else p, i := fun _ => v, s := fun _ => key, h := fun _ => w.heap, o := outw w } 10 1000 rfl rfl rfl
    ⟨by simpa [NE.den, SV.den, IE.den, PE.den] using hc, trivial, trivial⟩ (by simp [SV.den, SE.den, NE.den, PE.den, IE.den]) ?_
  conv => arg 7; reduce
  simp only [VC.den, NE.den, SE.den, SV.den, HE.den, PE.den, WS.den, WI.den, List.map_cons, List.map_nil, reduceIte, Nat.reduceEqDiff, Env.setH, Env.setN, Env.setP]
  have hx := ext_push w.heap (.cells #[.string (bs key)] 9)
  have o0 := ho.ext hx
  refine ⟨ho.ne (Nat.le_refl _), ho.ne_lt hob, _, o0.app (by simp [strs_length]) (by omega) (by omega), fun h' p' c' ha hc2 hf w1 hw1 ho1 => ⟨trivial, ?_, ho1, p', c', ?_, ?_⟩⟩
  · rw [hw1]
    exact hf.mono fun b _ h => by simpa using h
  · rw [hw1, List.length_append]; exact hc2
  · rw [hw1, strs_snoc]
    exact own_ne (o0.next (by simp [strs_length]) (by simp) (Nat.le_trans hb hx.le) ha) hob _ _
set_option maxHeartbeats 4000000 in
theorem eachK_any (To : Tb Int) (ob base go : Nat) (w : World) (hG : GrpAt (Value.int .i64) w.heap go To) (hTn : To.n ≤ 30) (hgo : go < w.heap.size) (hne : go ≠ ob) (hgb : go < base) (hob : ob < base) (hbase : base ≤ w.heap.size) (H : KS w.heap ob base []) :
    Calls Tryz.prog 123 #[.slice (some ⟨go, 0, none⟩) To.n To.n, .func (.func 126) #[] #[.pointer (some ⟨ob, 0, none⟩)]] w fun e w' => e = .returned (.tuple #[]) ∧ E.Frame (fun b => b = ob ∨ base ≤ b) w.heap w'.heap ∧ outw w' = outw w ∧ KS w'.heap ob base (To.full.map (·.1)) := by
  refine begins (k123 {}) [.slice (.at (.v 0) (.c 0)) (.v 1) (.v 1), .fn (.func 126) [] [.ptr (.at (.v 2) (.c 0))]] [] { n := fun j => if j = 0 then go else if j = 1 then To.n else ob, h := fun _ => w.heap, o := outw w } 3 1000 rfl rfl rfl trivial (by simp [SV.den, NE.den, PE.den]) ?_
  conv => arg 7; reduce
  simp only [VC.den, IE.den, NE.den, SV.den, HE.den, PE.den, WS.den, List.map_cons, List.map_nil, Int.cast_ofNat_Int, reduceIte, Nat.reduceEqDiff]
  intro _
  refine looping (k123 {}) [.slice (.at (.v 0) (.c 0)) (.v 1) (.v 1), .fn (.func 126) [] [.ptr (.at (.v 2) (.c 0))], .int .i64 (.ofN (.v 1)), .int .i64 (.ofN (.v 3))] []
    (fun y : Nat × Heap => { n := fun j => if j = 0 then go else if j = 1 then To.n else if j = 2 then ob else y.1, h := fun _ => y.2, o := outw w }) 4 1000
    (fun y => y.1 ≤ To.n ∧ E.Frame (fun b => b = ob ∨ base ≤ b) w.heap y.2 ∧ KS y.2 ob base ((at_ To.cell (8 * y.1)).map (·.1))) (fun y => To.n - y.1) (0, w.heap)
    ⟨Nat.zero_le _, E.Frame.refl _ _, H⟩ rfl (by simp [SV.den, NE.den, PE.den, IE.den]) rfl (fun _ => rfl) (fun _ _ => trivial) ?_
  rintro ⟨g, h⟩ ⟨hg, hf, HT⟩ N hN
  simp only at hg hf HT
  simp only [SV.den, PE.den, NE.den, IE.den, List.map_cons, List.map_nil, reduceIte, Nat.reduceEqDiff] at hN
  conv => arg 7; reduce
  simp only [VC.den, BE.prop, IE.den, NE.den, SE.den, SV.den, HE.den, PE.den, WS.den, List.map_cons, List.map_nil, Int.cast_ofNat_Int, reduceIte, Nat.reduceEqDiff, Env.setS, Env.setI]
  refine ⟨fun h1 => ?_, fun h1 _ w1 hw1 ho1 => ?_⟩
  · have hlt : g < To.n := by omega
    have hGh := hG.frame hf hgo (by rintro (e | e) <;> omega)
    refine ⟨h1, _, _, _, _, _, _, _, _, _, _, _, _, _, _, _, _, hGh.k g 0 hlt (by omega), hGh.v g 0 hlt (by omega), hGh.k g 1 hlt (by omega), hGh.v g 1 hlt (by omega), hGh.k g 2 hlt (by omega), hGh.v g 2 hlt (by omega), hGh.k g 3 hlt (by omega), hGh.v g 3 hlt (by omega), hGh.k g 4 hlt (by omega), hGh.v g 4 hlt (by omega), hGh.k g 5 hlt (by omega), hGh.v g 5 hlt (by omega), hGh.k g 6 hlt (by omega), hGh.v g 6 hlt (by omega), hGh.k g 7 hlt (by omega), hGh.v g 7 hlt (by omega), fun _ => ?_⟩
    refine loopingF (k123 {}) (fun y : Nat × Heap => [.slice (.at (.v 0) (.c 0)) (.v 1) (.v 1), .fn (.func 126) [] [.ptr (.at (.v 2) (.c 0))], .int .i64 (.ofN (.v 3)), .int .i64 (.ofN (.v 1)), .int .i64 (.ofN (.v 3)), .agg [.str (.v 0), .int .i64 (.v 20), .str (.v 1), .int .i64 (.v 21), .str (.v 2), .int .i64 (.v 22), .str (.v 3), .int .i64 (.v 23), .str (.v 4), .int .i64 (.v 24), .str (.v 5), .int .i64 (.v 25), .str (.v 6), .int .i64 (.v 26), .str (.v 7), .int .i64 (.v 27)], .int .i64 (.c y.1)]) []
      (fun y : Nat × Heap => { n := fun j => if j = 0 then go else if j = 1 then To.n else if j = 2 then ob else g, s := fun m => To.k (8 * g + m), i := fun m => (To.v (8 * g + (m - 20))), p := fun m => none, h := fun _ => y.2, o := outw w }) 30 1000
      (fun y => y.1 ≤ 8 ∧ E.Frame (fun b => b = ob ∨ base ≤ b) w.heap y.2 ∧ KS y.2 ob base ((at_ To.cell (8 * g + y.1)).map (·.1))) (fun y => 8 - y.1) (0, h)
      ⟨Nat.zero_le _, hf, HT⟩ (fun _ _ => rfl) (by simp [SV.den, NE.den, PE.den, IE.den, SE.den]) rfl (fun _ => rfl) (fun _ _ => trivial) ?_
    rintro ⟨j, h'⟩ ⟨hj, hf1, HT1⟩ N1 hN1
    simp only at hj hf1 HT1
    have hnF : ¬ (go = ob ∨ base ≤ go) := by rintro (e | e) <;> omega
    have hgo' : go < h'.size := Nat.lt_of_lt_of_le hgo hf1.le
    have hob' : ob < h'.size := Nat.lt_of_lt_of_le hob (Nat.le_trans hbase hf1.le)
    have hb' : base ≤ h'.size := Nat.le_trans hbase hf1.le
    obtain rfl | rfl | rfl | rfl | rfl | rfl | rfl | rfl | rfl : j = 0 ∨ j = 1 ∨ j = 2 ∨ j = 3 ∨ j = 4 ∨ j = 5 ∨ j = 6 ∨ j = 7 ∨ j = 8 := by omega
    all_goals
      dsimp only
      dsimp only at hN1
      simp only [SV.den, SE.den, PE.den, NE.den, IE.den, List.map_cons, List.map_nil, reduceIte, Nat.reduceEqDiff] at hN1
      conv => arg 7; reduce
      simp only [VC.den, BE.prop, IE.den, NE.den, SE.den, SV.den, HE.den, PE.den, WS.den, WI.den, noneIn, List.map_cons, List.map_nil, Int.cast_ofNat_Int, reduceIte, Nat.reduceEqDiff, Env.setE, Env.setH, Env.setI, Env.setN, Env.setW, inK_i64]
    · have x0 := (((Ext.refl h').push (.cells #[.string (bs (bytesOf [])), (Value.int .i64) (0 : Int)] 162)).set (Nat.le_refl _) 0 (.string (bs (To.k (8 * g + 0))))).set (Nat.le_refl _) 1 ((Value.int .i64) (To.v (8 * g + 0)))
      have hw0 := (hG.frame hf1 hgo hnF).ext x0 hgo'
      refine ⟨h1, _, hw0.w g hlt, ?_⟩
      intro w1 hw1 ho1
      refine (At_any (To.w g) 0 (by omega) w1).mono ?_
      rintro e1 v1 ⟨rfl, hx1, hp1'⟩
      rw [hw1] at hx1
      rw [← To.by_at g (show 0 < 8 by omega)]
      have hX := x0.trans hx1
      refine ⟨hp1'.trans ho1, hx1, _, rfl, fun hb => ?_, fun hb _ => ?_⟩
      · have hk := at_succ To.cell (8 * g + 0)
        rw [To.cell_some (j := 8 * g + 0) (by omega)] at hk
        have hll : (at_ To.cell (8 * g + 0)).length ≤ 8 * g + 0 := at_len _ _
        intro w2 hw2 ho2
        obtain ⟨p, cap, hc, ho⟩ := HT1
        refine (keys1_any ob base ((at_ To.cell (8 * g + 0)).map (·.1)) (To.k (8 * g + 0)) (To.v (8 * g + 0)) w2 p cap (by rw [hw2]; exact hX.cellsAt hc) (by rw [hw2]; exact ho.ext hX) hob (by rw [hw2]; exact Nat.le_trans hb' hX.le) (by rw [List.length_map]; omega)).mono ?_
        rintro e2 v2 ⟨rfl, hf2, hp2, HK⟩
        rw [hw2] at hf2
        refine ⟨hp2.trans ho2, _, hf2, ⟨by
          rintro (e | ⟨a, ha, e⟩)
          · omega
          · exact ho.ne (Nat.le_refl _) a ha e.symm, trivial⟩, rfl, fun _ => ?_⟩
        exact hN1 (1, v2.heap) ⟨by simp only; omega, (hf1.trans (hX.frame (fun _ => False)) (fun _ h => h) (fun _ _ h => h.elim)).trans hf2 (fun _ h => h) (fun b _ h => h.imp id fun ⟨a, ha, e⟩ => Nat.le_of_not_lt fun hlt => ho.ne_lt hlt a ha e.symm), by show KS _ _ _ (List.map _ (at_ To.cell (8 * g + 0 + 1))); rw [hk]; simpa using HK⟩ (by simp only; omega)
      · have hk := at_succ To.cell (8 * g + 0)
        rw [To.cell_none (j := 8 * g + 0) (by omega)] at hk
        exact hN1 (1, v1.heap) ⟨by simp only; omega, hf1.trans (hX.frame (fun _ => False)) (fun _ h => h) (fun _ _ h => h.elim), by show KS _ _ _ (List.map _ (at_ To.cell (8 * g + 0 + 1))); rw [hk]; simpa using HT1.ext hX⟩ (by simp only; omega)
    · have x0 := (((Ext.refl h').push (.cells #[.string (bs (bytesOf [])), (Value.int .i64) (0 : Int)] 162)).set (Nat.le_refl _) 0 (.string (bs (To.k (8 * g + 1))))).set (Nat.le_refl _) 1 ((Value.int .i64) (To.v (8 * g + 1)))
      have hw0 := (hG.frame hf1 hgo hnF).ext x0 hgo'
      refine ⟨h1, _, hw0.w g hlt, ?_⟩
      intro w1 hw1 ho1
      refine (At_any (To.w g) 1 (by omega) w1).mono ?_
      rintro e1 v1 ⟨rfl, hx1, hp1'⟩
      rw [hw1] at hx1
      rw [← To.by_at g (show 1 < 8 by omega)]
      have hX := x0.trans hx1
      refine ⟨hp1'.trans ho1, hx1, _, rfl, fun hb => ?_, fun hb _ => ?_⟩
      · have hk := at_succ To.cell (8 * g + 1)
        rw [To.cell_some (j := 8 * g + 1) (by omega)] at hk
        have hll : (at_ To.cell (8 * g + 1)).length ≤ 8 * g + 1 := at_len _ _
        intro w2 hw2 ho2
        obtain ⟨p, cap, hc, ho⟩ := HT1
        refine (keys1_any ob base ((at_ To.cell (8 * g + 1)).map (·.1)) (To.k (8 * g + 1)) (To.v (8 * g + 1)) w2 p cap (by rw [hw2]; exact hX.cellsAt hc) (by rw [hw2]; exact ho.ext hX) hob (by rw [hw2]; exact Nat.le_trans hb' hX.le) (by rw [List.length_map]; omega)).mono ?_
        rintro e2 v2 ⟨rfl, hf2, hp2, HK⟩
        rw [hw2] at hf2
        refine ⟨hp2.trans ho2, _, hf2, ⟨by
          rintro (e | ⟨a, ha, e⟩)
          · omega
          · exact ho.ne (Nat.le_refl _) a ha e.symm, trivial⟩, rfl, fun _ => ?_⟩
        exact hN1 (2, v2.heap) ⟨by simp only; omega, (hf1.trans (hX.frame (fun _ => False)) (fun _ h => h) (fun _ _ h => h.elim)).trans hf2 (fun _ h => h) (fun b _ h => h.imp id fun ⟨a, ha, e⟩ => Nat.le_of_not_lt fun hlt => ho.ne_lt hlt a ha e.symm), by show KS _ _ _ (List.map _ (at_ To.cell (8 * g + 1 + 1))); rw [hk]; simpa using HK⟩ (by simp only; omega)
      · have hk := at_succ To.cell (8 * g + 1)
        rw [To.cell_none (j := 8 * g + 1) (by omega)] at hk
        exact hN1 (2, v1.heap) ⟨by simp only; omega, hf1.trans (hX.frame (fun _ => False)) (fun _ h => h) (fun _ _ h => h.elim), by show KS _ _ _ (List.map _ (at_ To.cell (8 * g + 1 + 1))); rw [hk]; simpa using HT1.ext hX⟩ (by simp only; omega)
    · have x0 := (((Ext.refl h').push (.cells #[.string (bs (bytesOf [])), (Value.int .i64) (0 : Int)] 162)).set (Nat.le_refl _) 0 (.string (bs (To.k (8 * g + 2))))).set (Nat.le_refl _) 1 ((Value.int .i64) (To.v (8 * g + 2)))
      have hw0 := (hG.frame hf1 hgo hnF).ext x0 hgo'
      refine ⟨h1, _, hw0.w g hlt, ?_⟩
      intro w1 hw1 ho1
      refine (At_any (To.w g) 2 (by omega) w1).mono ?_
      rintro e1 v1 ⟨rfl, hx1, hp1'⟩
      rw [hw1] at hx1
      rw [← To.by_at g (show 2 < 8 by omega)]
      have hX := x0.trans hx1
      refine ⟨hp1'.trans ho1, hx1, _, rfl, fun hb => ?_, fun hb _ => ?_⟩
      · have hk := at_succ To.cell (8 * g + 2)
        rw [To.cell_some (j := 8 * g + 2) (by omega)] at hk
        have hll : (at_ To.cell (8 * g + 2)).length ≤ 8 * g + 2 := at_len _ _
        intro w2 hw2 ho2
        obtain ⟨p, cap, hc, ho⟩ := HT1
        refine (keys1_any ob base ((at_ To.cell (8 * g + 2)).map (·.1)) (To.k (8 * g + 2)) (To.v (8 * g + 2)) w2 p cap (by rw [hw2]; exact hX.cellsAt hc) (by rw [hw2]; exact ho.ext hX) hob (by rw [hw2]; exact Nat.le_trans hb' hX.le) (by rw [List.length_map]; omega)).mono ?_
        rintro e2 v2 ⟨rfl, hf2, hp2, HK⟩
        rw [hw2] at hf2
        refine ⟨hp2.trans ho2, _, hf2, ⟨by
          rintro (e | ⟨a, ha, e⟩)
          · omega
          · exact ho.ne (Nat.le_refl _) a ha e.symm, trivial⟩, rfl, fun _ => ?_⟩
        exact hN1 (3, v2.heap) ⟨by simp only; omega, (hf1.trans (hX.frame (fun _ => False)) (fun _ h => h) (fun _ _ h => h.elim)).trans hf2 (fun _ h => h) (fun b _ h => h.imp id fun ⟨a, ha, e⟩ => Nat.le_of_not_lt fun hlt => ho.ne_lt hlt a ha e.symm), by show KS _ _ _ (List.map _ (at_ To.cell (8 * g + 2 + 1))); rw [hk]; simpa using HK⟩ (by simp only; omega)
      · have hk := at_succ To.cell (8 * g + 2)
        rw [To.cell_none (j := 8 * g + 2) (by omega)] at hk
        exact hN1 (3, v1.heap) ⟨by simp only; omega, hf1.trans (hX.frame (fun _ => False)) (fun _ h => h) (fun _ _ h => h.elim), by show KS _ _ _ (List.map _ (at_ To.cell (8 * g + 2 + 1))); rw [hk]; simpa using HT1.ext hX⟩ (by simp only; omega)
    · have x0 := (((Ext.refl h').push (.cells #[.string (bs (bytesOf [])), (Value.int .i64) (0 : Int)] 162)).set (Nat.le_refl _) 0 (.string (bs (To.k (8 * g + 3))))).set (Nat.le_refl _) 1 ((Value.int .i64) (To.v (8 * g + 3)))
      have hw0 := (hG.frame hf1 hgo hnF).ext x0 hgo'
      refine ⟨h1, _, hw0.w g hlt, ?_⟩
      intro w1 hw1 ho1
      refine (At_any (To.w g) 3 (by omega) w1).mono ?_
      rintro e1 v1 ⟨rfl, hx1, hp1'⟩
      rw [hw1] at hx1
      rw [← To.by_at g (show 3 < 8 by omega)]
      have hX := x0.trans hx1
      refine ⟨hp1'.trans ho1, hx1, _, rfl, fun hb => ?_, fun hb _ => ?_⟩
      · have hk := at_succ To.cell (8 * g + 3)
        rw [To.cell_some (j := 8 * g + 3) (by omega)] at hk
        have hll : (at_ To.cell (8 * g + 3)).length ≤ 8 * g + 3 := at_len _ _
        intro w2 hw2 ho2
        obtain ⟨p, cap, hc, ho⟩ := HT1
        refine (keys1_any ob base ((at_ To.cell (8 * g + 3)).map (·.1)) (To.k (8 * g + 3)) (To.v (8 * g + 3)) w2 p cap (by rw [hw2]; exact hX.cellsAt hc) (by rw [hw2]; exact ho.ext hX) hob (by rw [hw2]; exact Nat.le_trans hb' hX.le) (by rw [List.length_map]; omega)).mono ?_
        rintro e2 v2 ⟨rfl, hf2, hp2, HK⟩
        rw [hw2] at hf2
        refine ⟨hp2.trans ho2, _, hf2, ⟨by
          rintro (e | ⟨a, ha, e⟩)
          · omega
          · exact ho.ne (Nat.le_refl _) a ha e.symm, trivial⟩, rfl, fun _ => ?_⟩
        exact hN1 (4, v2.heap) ⟨by simp only; omega, (hf1.trans (hX.frame (fun _ => False)) (fun _ h => h) (fun _ _ h => h.elim)).trans hf2 (fun _ h => h) (fun b _ h => h.imp id fun ⟨a, ha, e⟩ => Nat.le_of_not_lt fun hlt => ho.ne_lt hlt a ha e.symm), by show KS _ _ _ (List.map _ (at_ To.cell (8 * g + 3 + 1))); rw [hk]; simpa using HK⟩ (by simp only; omega)
      · have hk := at_succ To.cell (8 * g + 3)
        rw [To.cell_none (j := 8 * g + 3) (by omega)] at hk
        exact hN1 (4, v1.heap) ⟨by simp only; omega, hf1.trans (hX.frame (fun _ => False)) (fun _ h => h) (fun _ _ h => h.elim), by show KS _ _ _ (List.map _ (at_ To.cell (8 * g + 3 + 1))); rw [hk]; simpa using HT1.ext hX⟩ (by simp only; omega)
    · have x0 := (((Ext.refl h').push (.cells #[.string (bs (bytesOf [])), (Value.int .i64) (0 : Int)] 162)).set (Nat.le_refl _) 0 (.string (bs (To.k (8 * g + 4))))).set (Nat.le_refl _) 1 ((Value.int .i64) (To.v (8 * g + 4)))
      have hw0 := (hG.frame hf1 hgo hnF).ext x0 hgo'
      refine ⟨h1, _, hw0.w g hlt, ?_⟩
      intro w1 hw1 ho1
      refine (At_any (To.w g) 4 (by omega) w1).mono ?_
      rintro e1 v1 ⟨rfl, hx1, hp1'⟩
      rw [hw1] at hx1
      rw [← To.by_at g (show 4 < 8 by omega)]
      have hX := x0.trans hx1
      refine ⟨hp1'.trans ho1, hx1, _, rfl, fun hb => ?_, fun hb _ => ?_⟩
      · have hk := at_succ To.cell (8 * g + 4)
        rw [To.cell_some (j := 8 * g + 4) (by omega)] at hk
        have hll : (at_ To.cell (8 * g + 4)).length ≤ 8 * g + 4 := at_len _ _
        intro w2 hw2 ho2
        obtain ⟨p, cap, hc, ho⟩ := HT1
        refine (keys1_any ob base ((at_ To.cell (8 * g + 4)).map (·.1)) (To.k (8 * g + 4)) (To.v (8 * g + 4)) w2 p cap (by rw [hw2]; exact hX.cellsAt hc) (by rw [hw2]; exact ho.ext hX) hob (by rw [hw2]; exact Nat.le_trans hb' hX.le) (by rw [List.length_map]; omega)).mono ?_
        rintro e2 v2 ⟨rfl, hf2, hp2, HK⟩
        rw [hw2] at hf2
        refine ⟨hp2.trans ho2, _, hf2, ⟨by
          rintro (e | ⟨a, ha, e⟩)
          · omega
          · exact ho.ne (Nat.le_refl _) a ha e.symm, trivial⟩, rfl, fun _ => ?_⟩
        exact hN1 (5, v2.heap) ⟨by simp only; omega, (hf1.trans (hX.frame (fun _ => False)) (fun _ h => h) (fun _ _ h => h.elim)).trans hf2 (fun _ h => h) (fun b _ h => h.imp id fun ⟨a, ha, e⟩ => Nat.le_of_not_lt fun hlt => ho.ne_lt hlt a ha e.symm), by show KS _ _ _ (List.map _ (at_ To.cell (8 * g + 4 + 1))); rw [hk]; simpa using HK⟩ (by simp only; omega)
      · have hk := at_succ To.cell (8 * g + 4)
        rw [To.cell_none (j := 8 * g + 4) (by omega)] at hk
        exact hN1 (5, v1.heap) ⟨by simp only; omega, hf1.trans (hX.frame (fun _ => False)) (fun _ h => h) (fun _ _ h => h.elim), by show KS _ _ _ (List.map _ (at_ To.cell (8 * g + 4 + 1))); rw [hk]; simpa using HT1.ext hX⟩ (by simp only; omega)
    · have x0 := (((Ext.refl h').push (.cells #[.string (bs (bytesOf [])), (Value.int .i64) (0 : Int)] 162)).set (Nat.le_refl _) 0 (.string (bs (To.k (8 * g + 5))))).set (Nat.le_refl _) 1 ((Value.int .i64) (To.v (8 * g + 5)))
      have hw0 := (hG.frame hf1 hgo hnF).ext x0 hgo'
      refine ⟨h1, _, hw0.w g hlt, ?_⟩
      intro w1 hw1 ho1
      refine (At_any (To.w g) 5 (by omega) w1).mono ?_
      rintro e1 v1 ⟨rfl, hx1, hp1'⟩
      rw [hw1] at hx1
      rw [← To.by_at g (show 5 < 8 by omega)]
      have hX := x0.trans hx1
      refine ⟨hp1'.trans ho1, hx1, _, rfl, fun hb => ?_, fun hb _ => ?_⟩
      · have hk := at_succ To.cell (8 * g + 5)
        rw [To.cell_some (j := 8 * g + 5) (by omega)] at hk
        have hll : (at_ To.cell (8 * g + 5)).length ≤ 8 * g + 5 := at_len _ _
        intro w2 hw2 ho2
        obtain ⟨p, cap, hc, ho⟩ := HT1
        refine (keys1_any ob base ((at_ To.cell (8 * g + 5)).map (·.1)) (To.k (8 * g + 5)) (To.v (8 * g + 5)) w2 p cap (by rw [hw2]; exact hX.cellsAt hc) (by rw [hw2]; exact ho.ext hX) hob (by rw [hw2]; exact Nat.le_trans hb' hX.le) (by rw [List.length_map]; omega)).mono ?_
        rintro e2 v2 ⟨rfl, hf2, hp2, HK⟩
        rw [hw2] at hf2
        refine ⟨hp2.trans ho2, _, hf2, ⟨by
          rintro (e | ⟨a, ha, e⟩)
          · omega
          · exact ho.ne (Nat.le_refl _) a ha e.symm, trivial⟩, rfl, fun _ => ?_⟩
        exact hN1 (6, v2.heap) ⟨by simp only; omega, (hf1.trans (hX.frame (fun _ => False)) (fun _ h => h) (fun _ _ h => h.elim)).trans hf2 (fun _ h => h) (fun b _ h => h.imp id fun ⟨a, ha, e⟩ => Nat.le_of_not_lt fun hlt => ho.ne_lt hlt a ha e.symm), by show KS _ _ _ (List.map _ (at_ To.cell (8 * g + 5 + 1))); rw [hk]; simpa using HK⟩ (by simp only; omega)
      · have hk := at_succ To.cell (8 * g + 5)
        rw [To.cell_none (j := 8 * g + 5) (by omega)] at hk
        exact hN1 (6, v1.heap) ⟨by simp only; omega, hf1.trans (hX.frame (fun _ => False)) (fun _ h => h) (fun _ _ h => h.elim), by show KS _ _ _ (List.map _ (at_ To.cell (8 * g + 5 + 1))); rw [hk]; simpa using HT1.ext hX⟩ (by simp only; omega)
    · have x0 := (((Ext.refl h').push (.cells #[.string (bs (bytesOf [])), (Value.int .i64) (0 : Int)] 162)).set (Nat.le_refl _) 0 (.string (bs (To.k (8 * g + 6))))).set (Nat.le_refl _) 1 ((Value.int .i64) (To.v (8 * g + 6)))
      have hw0 := (hG.frame hf1 hgo hnF).ext x0 hgo'
      refine ⟨h1, _, hw0.w g hlt, ?_⟩
      intro w1 hw1 ho1
      refine (At_any (To.w g) 6 (by omega) w1).mono ?_
      rintro e1 v1 ⟨rfl, hx1, hp1'⟩
      rw [hw1] at hx1
      rw [← To.by_at g (show 6 < 8 by omega)]
      have hX := x0.trans hx1
      refine ⟨hp1'.trans ho1, hx1, _, rfl, fun hb => ?_, fun hb _ => ?_⟩
      · have hk := at_succ To.cell (8 * g + 6)
        rw [To.cell_some (j := 8 * g + 6) (by omega)] at hk
        have hll : (at_ To.cell (8 * g + 6)).length ≤ 8 * g + 6 := at_len _ _
        intro w2 hw2 ho2
        obtain ⟨p, cap, hc, ho⟩ := HT1
        refine (keys1_any ob base ((at_ To.cell (8 * g + 6)).map (·.1)) (To.k (8 * g + 6)) (To.v (8 * g + 6)) w2 p cap (by rw [hw2]; exact hX.cellsAt hc) (by rw [hw2]; exact ho.ext hX) hob (by rw [hw2]; exact Nat.le_trans hb' hX.le) (by rw [List.length_map]; omega)).mono ?_
        rintro e2 v2 ⟨rfl, hf2, hp2, HK⟩
        rw [hw2] at hf2
        refine ⟨hp2.trans ho2, _, hf2, ⟨by
          rintro (e | ⟨a, ha, e⟩)
          · omega
          · exact ho.ne (Nat.le_refl _) a ha e.symm, trivial⟩, rfl, fun _ => ?_⟩
        exact hN1 (7, v2.heap) ⟨by simp only; omega, (hf1.trans (hX.frame (fun _ => False)) (fun _ h => h) (fun _ _ h => h.elim)).trans hf2 (fun _ h => h) (fun b _ h => h.imp id fun ⟨a, ha, e⟩ => Nat.le_of_not_lt fun hlt => ho.ne_lt hlt a ha e.symm), by show KS _ _ _ (List.map _ (at_ To.cell (8 * g + 6 + 1))); rw [hk]; simpa using HK⟩ (by simp only; omega)
      · have hk := at_succ To.cell (8 * g + 6)
        rw [To.cell_none (j := 8 * g + 6) (by omega)] at hk
        exact hN1 (7, v1.heap) ⟨by simp only; omega, hf1.trans (hX.frame (fun _ => False)) (fun _ h => h) (fun _ _ h => h.elim), by show KS _ _ _ (List.map _ (at_ To.cell (8 * g + 6 + 1))); rw [hk]; simpa using HT1.ext hX⟩ (by simp only; omega)
    · have x0 := (((Ext.refl h').push (.cells #[.string (bs (bytesOf [])), (Value.int .i64) (0 : Int)] 162)).set (Nat.le_refl _) 0 (.string (bs (To.k (8 * g + 7))))).set (Nat.le_refl _) 1 ((Value.int .i64) (To.v (8 * g + 7)))
      have hw0 := (hG.frame hf1 hgo hnF).ext x0 hgo'
      refine ⟨h1, _, hw0.w g hlt, ?_⟩
      intro w1 hw1 ho1
      refine (At_any (To.w g) 7 (by omega) w1).mono ?_
      rintro e1 v1 ⟨rfl, hx1, hp1'⟩
      rw [hw1] at hx1
      rw [← To.by_at g (show 7 < 8 by omega)]
      have hX := x0.trans hx1
      refine ⟨hp1'.trans ho1, hx1, _, rfl, fun hb => ?_, fun hb _ => ?_⟩
      · have hk := at_succ To.cell (8 * g + 7)
        rw [To.cell_some (j := 8 * g + 7) (by omega)] at hk
        have hll : (at_ To.cell (8 * g + 7)).length ≤ 8 * g + 7 := at_len _ _
        intro w2 hw2 ho2
        obtain ⟨p, cap, hc, ho⟩ := HT1
        refine (keys1_any ob base ((at_ To.cell (8 * g + 7)).map (·.1)) (To.k (8 * g + 7)) (To.v (8 * g + 7)) w2 p cap (by rw [hw2]; exact hX.cellsAt hc) (by rw [hw2]; exact ho.ext hX) hob (by rw [hw2]; exact Nat.le_trans hb' hX.le) (by rw [List.length_map]; omega)).mono ?_
        rintro e2 v2 ⟨rfl, hf2, hp2, HK⟩
        rw [hw2] at hf2
        refine ⟨hp2.trans ho2, _, hf2, ⟨by
          rintro (e | ⟨a, ha, e⟩)
          · omega
          · exact ho.ne (Nat.le_refl _) a ha e.symm, trivial⟩, rfl, fun _ => ?_⟩
        exact hN1 (8, v2.heap) ⟨by simp only; omega, (hf1.trans (hX.frame (fun _ => False)) (fun _ h => h) (fun _ _ h => h.elim)).trans hf2 (fun _ h => h) (fun b _ h => h.imp id fun ⟨a, ha, e⟩ => Nat.le_of_not_lt fun hlt => ho.ne_lt hlt a ha e.symm), by show KS _ _ _ (List.map _ (at_ To.cell (8 * g + 7 + 1))); rw [hk]; simpa using HK⟩ (by simp only; omega)
      · have hk := at_succ To.cell (8 * g + 7)
        rw [To.cell_none (j := 8 * g + 7) (by omega)] at hk
        exact hN1 (8, v1.heap) ⟨by simp only; omega, hf1.trans (hX.frame (fun _ => False)) (fun _ h => h) (fun _ _ h => h.elim), by show KS _ _ _ (List.map _ (at_ To.cell (8 * g + 7 + 1))); rw [hk]; simpa using HT1.ext hX⟩ (by simp only; omega)
    · exact ⟨by omega, fun _ => hN (g + 1, h') ⟨hlt, hf1, HT1⟩ (by simp only; omega)⟩
  · obtain rfl : g = To.n := by omega
    exact ⟨trivial, by rw [hw1]; exact hf, ho1, by rw [hw1]; exact HT⟩
end Go.Proofs.YtkcjhabbgaaknaaGreat
/- All keys of a table, of a node, of a dict (I). -/
namespace Go.Proofs.YtkcjhabbgaaknaaGreat
open E
set_option maxRecDepth 100000
namespace E
theorem Own.appPre {h : Heap} {base cap size n bytes : Nat} {p : Option Addr} {vs news : List Value} {x : Value} (H : Own h base p cap size vs) (hn : vs.length = n * size) (hs : SrcIs h size x (lenV x) news) (ho : ∀ u ∈ news, u.oneCell' = true)
    (hfit : (n + lenV x) * bytes ≤ 140737488355328) (hlen : n + lenV x ≤ 9223372036854775807) : AppPre h size bytes p n cap x vs news := by
  have k := H.app (m := lenV x) hn hfit hlen
  have hl : news.length = lenV x * size := by
    cases x <;> simp only [SrcIs] at hs <;> first | exact hs.2.1 | exact hs.elim | skip
    obtain ⟨rfl, _, rfl⟩ := hs
    simp [u8s_length, lenV]
  exact ⟨hs, k.oldL, k.old, ho, fun hr => by rw [hl]; exact k.room hr, k.fit, k.len⟩
end E
/-- What is handed back: a slice of texts. -/
def KeysR (l : List Key) (h : Heap) (o : Os × Array (Nat × ByteArray)) : Ending → World → Prop := fun e w' => ∃ p cap, e = .returned (.slice p l.length cap) ∧ row w'.heap p (strs l) ∧ Ext h w'.heap ∧ outw w' = o
theorem tKeys_any (seed : Int) (T : Tb Int) (tb gb : Nat) (w : World) (H : TabAt (Value.int .i64) w.heap tb gb seed T) :
    Calls Tryz.prog 97 #[.pointer (some ⟨tb, 0, none⟩)] w (KeysR (T.full.map (·.1)) w.heap (outw w)) := by
  refine begins (k97 {}) [.ptr (.at (.v 0) (.c 0))] [(.v 0, .c 0, [.int .u64 (.v 0), .slice (.at (.v 1) (.c 0)) (.v 2) (.v 2), .int .i64 (.ofN (.v 3)), .int .i64 (.ofN (.v 4))])]
    { n := fun j => if j = 0 then tb else if j = 1 then gb else if j = 2 then T.n else if j = 3 then T.full.length else T.dels, i := fun _ => seed, h := fun _ => w.heap, o := outw w } 5 1000 rfl rfl rfl
    ⟨by simpa [NE.den, SV.den, IE.den, PE.den] using H.hd, trivial, trivial⟩ (by simp [SV.den, NE.den, PE.den]) ?_
  conv => arg 7; reduce
  simp only [VC.den, IE.den, NE.den, SV.den, HE.den, PE.den, WS.den, WI.den, noneIn, List.map_cons, List.map_nil, reduceIte, Nat.reduceEqDiff, Env.setE, Env.setH, Env.setN, Env.setP, Env.setW]
  intro hob w1 hw1 ho1
  have hgl := H.gl
  have htl := H.tl
  have hG := H.gr.ext (ext_push w.heap (.cells #[.slice none 0 0] 50)) hgl
  refine (eachK_any T w.heap.size (w.heap.size + 1) gb w1 (by rw [hw1]; exact hG) H.few (by rw [hw1]; simp; omega) (by omega) (by omega) (by omega) (by rw [hw1]; simp) ⟨none, 0, by rw [hw1]; exact hob, Own.nil _ _ _⟩).mono ?_
  rintro e1 v1 ⟨rfl, hf1, hp1, p, cap, hc, ho⟩
  rw [hw1] at hf1
  refine ⟨hp1.trans ho1, _, hf1, ⟨by rintro (e | e) <;> omega, trivial⟩, rfl, _, _, _, hc.at0 (j := 0) rfl, ?_⟩
  exact fun _ hf w2 hw2 ho2 => ⟨p, cap, rfl, by rw [hw2]; exact ho.row, by rw [hw2]; exact hf.ext fun n hn h => by simp only [or_false] at h; omega, ho2⟩
theorem app_one (h : Heap) (_n : Nat) (l : List Key) (p : Option Addr) (cap : Nat) (hl : l.length ≤ 1000) (hr : row h p (strs l)) : AppPre h 1 16 none 0 0 (.slice p l.length cap) [] (strs l) :=
  E.Own.appPre (Own.nil h h.size 1) (n := 0) rfl ⟨Nat.le_refl _, by simp [strs_length, lenV], hr⟩ (fun u hu => by obtain ⟨z, _, rfl⟩ := List.mem_map.1 hu; rfl) (by simp only [lenV]; omega) (by simp only [lenV]; omega)
theorem nkeys_any (nb lb tb gb : Nat) (seed : Int) (T : Tb Int) (w : World) (_hnl : nb ≠ lb)
    (hn : CellsAt w.heap nb 0 [.int .i64 0, .slice (some ⟨lb, 0, none⟩) 1 1]) (hl : CellsAt w.heap lb 0 [.pointer (some ⟨tb, 0, none⟩)]) (HT : TabAt (Value.int .i64) w.heap tb gb seed T) :
    Calls Tryz.prog 66 #[.pointer (some ⟨nb, 0, none⟩)] w (KeysR (T.full.map (·.1)) w.heap (outw w)) := by
  refine begins (k66 {}) [.ptr (.at (.v 0) (.c 0))] [(.v 0, .c 0, [.int .i64 (.c 0), .slice (.at (.v 1) (.c 0)) (.c 1) (.c 1)])]
    { n := fun j => if j = 0 then nb else lb, h := fun _ => w.heap, o := outw w } 3 1000 rfl rfl rfl
    ⟨by simpa [NE.den, SV.den, IE.den, PE.den] using hn, trivial, trivial⟩ (by simp [SV.den, NE.den, PE.den]) ?_
  conv => arg 7; reduce
  simp only [VC.den, IE.den, NE.den, SV.den, HE.den, PE.den, WS.den, List.map_cons, List.map_nil, Int.cast_ofNat_Int, reduceIte, Nat.reduceEqDiff]
  intro _ _
  have hlen : (T.full.map (·.1)).length ≤ 240 := by
    have h1 := T.full_le
    have h2 := HT.few
    rw [List.length_map]; omega
  refine looping (k66 {}) [.slice (.v 0) (.v 0) (.v 1), .slice (.at (.v 2) (.c 0)) (.c 1) (.c 1), .int .i64 (.c 1), .int .i64 (.ofN (.v 3))] []
    (fun y : Nat × List Key × Option Addr × Nat × Heap => { n := fun j => if j = 0 then y.2.1.length else if j = 1 then y.2.2.2.1 else if j = 2 then lb else y.1, p := fun _ => y.2.2.1, h := fun _ => y.2.2.2.2, o := outw w }) 4 1000
    (fun y => y.1 ≤ 1 ∧ Ext w.heap y.2.2.2.2 ∧ (y.1 = 0 ∧ y.2.1 = [] ∧ y.2.2.1 = none ∧ y.2.2.2.1 = 0 ∨ y.1 = 1 ∧ y.2.1 = T.full.map (·.1) ∧ row y.2.2.2.2 y.2.2.1 (strs y.2.1))) (fun y => 1 - y.1) (0, [], none, 0, w.heap) ⟨by simp, Ext.refl _, .inl ⟨rfl, rfl, rfl, rfl⟩⟩ rfl (by simp [SV.den, IE.den, NE.den, PE.den]) rfl (fun _ => rfl) (fun _ _ => trivial) ?_
  rintro ⟨i, l, p, cap, h⟩ ⟨hi, hx, hst⟩ N hN
  simp only at hi hx hst
  simp only [SV.den, PE.den, NE.den, IE.den, List.map_cons, List.map_nil, reduceIte, Nat.reduceEqDiff] at hN
  conv => arg 7; reduce
  simp only [VC.den, BE.prop, IE.den, NE.den, SV.den, HE.den, PE.den, WS.den, WI.den, List.map_cons, List.map_nil, Int.cast_ofNat_Int, reduceIte, Nat.reduceEqDiff, Env.setE, Env.setH, Env.setN, Env.setP, inK_i64]
  refine ⟨fun h1 => ?_, fun h1 _ w1 hw1 ho1 => ?_⟩
  · rcases hst with ⟨rfl, rfl, rfl, rfl⟩ | ⟨h2, _⟩
    · refine ⟨h1, _, (hx.cellsAt hl).at0 (j := 0) rfl, fun w1 hw1 ho1 => ?_⟩
      refine (tKeys_any seed T tb gb w1 (by rw [hw1]; exact HT.ext hx)).mono ?_
      rintro e1 v1 ⟨q, qc, rfl, hr, hx1, hp1⟩
      rw [hw1] at hx1
      refine ⟨hp1.trans ho1, hx1, q, _, qc, rfl, [], _, app_one v1.heap 0 _ q qc (by omega) hr, fun h' p' c' ha => ⟨by omega, fun _ => ?_⟩⟩
      have o1 := (Own.nil v1.heap v1.heap.size 1).next (n := 0) (m := (T.full.map (·.1)).length) rfl (by simp [strs_length]) (Nat.le_refl _) ha
      have x1 := (Own.nil v1.heap v1.heap.size 1).keep (Nat.le_refl _) (Ext.refl _) ha
      have := hN (1, T.full.map (·.1), p', c', h') ⟨Nat.le_refl _, (hx.trans hx1).trans x1, .inr ⟨rfl, rfl, by simpa using o1.row⟩⟩ (by simp)
      simp only [List.length_nil, Nat.zero_add] at this ⊢
      exact this
    · omega
  · rcases hst with ⟨h2, _⟩ | ⟨_, rfl, h2⟩
    · omega
    · exact ⟨p, cap, rfl, by rw [hw1]; exact h2, by rw [hw1]; exact hx, ho1⟩
theorem nodes_any (d db nb lb tb gb : Nat) (seed : Int) (M : List (Key × Int)) (w : World) (H : DctI w.heap d db nb lb tb gb seed M) :
    Calls Tryz.prog 65 #[.pointer (some ⟨d, 0, none⟩)] w fun e w' => ∃ p cap, e = .returned (.slice p 1 cap) ∧ row w'.heap p [.pointer (some ⟨nb, 0, none⟩)] ∧ Ext w.heap w'.heap ∧ outw w' = outw w := by
  have hne := H.ne
  simp only [List.nodup_cons, List.mem_cons, List.not_mem_nil, or_false, not_or, List.nodup_nil, and_true, not_false_eq_true] at hne
  refine begins (k65 {}) [.ptr (.at (.v 0) (.c 0))] [(.v 0, .c 0, [.int .u64 (.v 0), .int .i64 (.c 0), .slice (.at (.v 1) (.c 0)) (.c 1) (.c 1), .int .i64 (.ofN (.v 2))])]
    { n := fun j => if j = 0 then d else if j = 1 then db else M.length, i := fun _ => seed, h := fun _ => w.heap, o := outw w } 3 1000 rfl rfl rfl
    ⟨by simpa [NE.den, SV.den, IE.den, PE.den] using H.dc, trivial, trivial⟩ (by simp [SV.den, NE.den, PE.den]) ?_
  conv => arg 7; reduce
  simp only [VC.den, IE.den, NE.den, SV.den, HE.den, PE.den, WS.den, List.map_cons, List.map_nil, Int.cast_ofNat_Int, reduceIte, Nat.reduceEqDiff]
  intro _ _
  refine looping (k65 {}) [.slice (.v 0) (.v 0) (.v 1), .slice (.at (.v 2) (.c 0)) (.c 1) (.c 1), .int .i64 (.c 1), .int .i64 (.ofN (.v 3))] []
    (fun y : Nat × Nat × Option Addr × Nat × Heap => { n := fun j => if j = 0 then y.2.1 else if j = 1 then y.2.2.2.1 else if j = 2 then db else y.1, p := fun _ => y.2.2.1, h := fun _ => y.2.2.2.2, o := outw w }) 4 1000
    (fun y => y.1 ≤ 1 ∧ Ext w.heap y.2.2.2.2 ∧ (y.1 = 0 ∧ y.2.1 = 0 ∧ y.2.2.1 = none ∧ y.2.2.2.1 = 0 ∨ y.1 = 1 ∧ y.2.1 = 1 ∧ row y.2.2.2.2 y.2.2.1 [.pointer (some ⟨nb, 0, none⟩)])) (fun y => 1 - y.1) (0, 0, none, 0, w.heap) ⟨by simp, Ext.refl _, .inl ⟨rfl, rfl, rfl, rfl⟩⟩ rfl (by simp [SV.den, IE.den, NE.den, PE.den]) rfl (fun _ => rfl) (fun _ _ => trivial) ?_
  rintro ⟨i, l, p, cap, h⟩ ⟨hi, hx, hst⟩ N hN
  simp only at hi hx hst
  simp only [SV.den, PE.den, NE.den, IE.den, List.map_cons, List.map_nil, reduceIte, Nat.reduceEqDiff] at hN
  conv => arg 7; reduce
  simp only [VC.den, BE.prop, IE.den, NE.den, SV.den, HE.den, PE.den, WS.den, WI.den, List.map_cons, List.map_nil, Int.cast_ofNat_Int, reduceIte, Nat.reduceEqDiff, Env.setH, Env.setI, Env.setN, Env.setP, inK_i64]
  refine ⟨fun h1 => ?_, fun h1 _ w1 hw1 ho1 => ?_⟩
  · rcases hst with ⟨rfl, rfl, rfl, rfl⟩ | ⟨h2, _⟩
    · refine ⟨h1, _, (hx.cellsAt H.bc).at0 (j := 0) rfl, ?_⟩
      refine ⟨nb, 0, rfl, _, (hx.cellsAt H.nc).at0 (j := 0) rfl, by omega, by omega, by decide, fun _ => ⟨nofun, [], ?_⟩, fun h => absurd (by decide) h⟩
      have oN := Own.nil (h.push (.cells #[.pointer (some ⟨nb, 0, none⟩)] 95)) (h.size + 1) 1
      refine ⟨oN.app (n := 0) (m := 1) (bytes := 8) rfl (by omega) (by omega), fun h' p' c' ha => ⟨by decide, fun _ => ?_⟩⟩
      have o1 := oN.next (n := 0) (m := 1) rfl rfl (by simp) ha
      have x1 := oN.keep (h0 := h) (by omega) (ext_push _ _) ha
      exact hN (1, 1, p', c', h') ⟨Nat.le_refl _, hx.trans x1, .inr ⟨rfl, rfl, o1.row⟩⟩ (by simp)
    · omega
  · rcases hst with ⟨h2, _⟩ | ⟨_, rfl, h2⟩
    · omega
    · exact ⟨p, cap, rfl, by rw [hw1]; exact h2, by rw [hw1]; exact hx, ho1⟩
theorem dKeys_any (d db nb lb tb gb : Nat) (seed : Int) (M : List (Key × Int)) (w : World) (H : DctI w.heap d db nb lb tb gb seed M) :
    Calls Tryz.prog 37 #[.pointer (some ⟨d, 0, none⟩)] w fun e w' => ∃ l : List Key, l.Perm (M.map (·.1)) ∧ KeysR l w.heap (outw w) e w' := by
  obtain ⟨T, HT, hpm⟩ := H.tab
  have hne := H.ne
  simp only [List.nodup_cons, List.mem_cons, List.not_mem_nil, or_false, not_or, List.nodup_nil, and_true, not_false_eq_true] at hne
  refine begins (k37 {}) [.ptr (.at (.v 0) (.c 0))] [] { n := fun _ => d, h := fun _ => w.heap, o := outw w } 1 1000 rfl rfl rfl trivial (by simp [SV.den, NE.den, PE.den]) ?_
  conv => arg 7; reduce
  simp only [VC.den, IE.den, NE.den, SV.den, HE.den, PE.den, WS.den, List.map_cons, List.map_nil, Int.cast_ofNat_Int, reduceIte, Nat.reduceEqDiff, Env.setE, Env.setH, Env.setN, Env.setP]
  intro w0 hw0 ho0
  refine (nodes_any d db nb lb tb gb seed M w0 (by rw [hw0]; exact H)).mono ?_
  rintro e0 v0 ⟨np, nc, rfl, hnr, hx0, hp0⟩
  rw [hw0] at hx0
  refine ⟨hp0.trans ho0, hx0, np, 1, nc, rfl, fun _ => ?_⟩
  have hlen : (T.full.map (·.1)).length ≤ 240 := by
    have h1 := T.full_le
    have h2 := HT.few
    rw [List.length_map]; omega
  refine looping (k37 {}) [.slice (.v 0) (.v 0) (.v 1), .slice (.v 1) (.c 1) (.v 2), .int .i64 (.c 1), .int .i64 (.ofN (.v 3))] []
    (fun y : Nat × List Key × Option Addr × Nat × Heap => { n := fun j => if j = 0 then y.2.1.length else if j = 1 then y.2.2.2.1 else if j = 2 then nc else y.1, p := fun j => if j = 0 then y.2.2.1 else np, h := fun _ => y.2.2.2.2, o := outw w }) 4 1000
    (fun y => y.1 ≤ 1 ∧ Ext v0.heap y.2.2.2.2 ∧ (y.1 = 0 ∧ y.2.1 = [] ∧ y.2.2.1 = none ∧ y.2.2.2.1 = 0 ∨ y.1 = 1 ∧ y.2.1 = T.full.map (·.1) ∧ row y.2.2.2.2 y.2.2.1 (strs y.2.1))) (fun y => 1 - y.1) (0, [], none, 0, v0.heap) ⟨by simp, Ext.refl _, .inl ⟨rfl, rfl, rfl, rfl⟩⟩ rfl (by simp [SV.den, IE.den, NE.den, PE.den]) rfl (fun _ => rfl) (fun _ _ => trivial) ?_
  rintro ⟨i, l, p, cap, h⟩ ⟨hi, hx, hst⟩ N hN
  simp only at hi hx hst
  simp only [SV.den, PE.den, NE.den, IE.den, List.map_cons, List.map_nil, reduceIte, Nat.reduceEqDiff] at hN
  conv => arg 7; reduce
  simp only [VC.den, BE.prop, IE.den, NE.den, SV.den, HE.den, PE.den, WS.den, WI.den, List.map_cons, List.map_nil, Int.cast_ofNat_Int, reduceIte, Nat.reduceEqDiff, Env.setE, Env.setH, Env.setN, Env.setP, inK_i64]
  have hxw := hx0.trans hx
  refine ⟨fun h1 => ?_, fun h1 _ w1 hw1 ho1 => ?_⟩
  · rcases hst with ⟨rfl, rfl, rfl, rfl⟩ | ⟨h2, _⟩
    · rcases hx.row hnr with hq | ⟨xb, xo, rfl, hq⟩
      · cases hq
      · refine ⟨xb, xo, rfl, h1, _, hq 0 _ rfl, fun w1 hw1 ho1 => ?_⟩
        refine (nkeys_any nb lb tb gb seed T w1 hne.2.2.1.1 (by rw [hw1]; exact hxw.cellsAt H.nc) (by rw [hw1]; exact hxw.cellsAt H.lc) (by rw [hw1]; exact HT.ext hxw)).mono ?_
        rintro e1 v1 ⟨q, qc, rfl, hr, hx1, hp1⟩
        rw [hw1] at hx1
        refine ⟨hp1.trans ho1, hx1, q, _, qc, rfl, [], _, app_one v1.heap 0 _ q qc (by omega) hr, fun h' p' c' ha => ⟨by omega, fun _ => ?_⟩⟩
        have o1 := (Own.nil v1.heap v1.heap.size 1).next (n := 0) (m := (T.full.map (·.1)).length) rfl (by simp [strs_length]) (Nat.le_refl _) ha
        have x1 := (Own.nil v1.heap v1.heap.size 1).keep (Nat.le_refl _) (Ext.refl _) ha
        have := hN (1, T.full.map (·.1), p', c', h') ⟨Nat.le_refl _, (hx.trans hx1).trans x1, .inr ⟨rfl, rfl, by simpa using o1.row⟩⟩ (by simp)
        simp only [List.length_nil, Nat.zero_add] at this ⊢
        exact this
    · omega
  · rcases hst with ⟨h2, _⟩ | ⟨_, rfl, h2⟩
    · omega
    · exact ⟨_, hpm.map _, p, cap, rfl, by rw [hw1]; exact h2, by rw [hw1]; exact hxw, ho1⟩
end Go.Proofs.YtkcjhabbgaaknaaGreat
/- A put to a dict, told exactly (I). -/
namespace Go.Proofs.YtkcjhabbgaaknaaGreat
open E
set_option maxRecDepth 100000
theorem DctI.perm {h : Heap} {d db nb lb tb gb : Nat} {seed : Int} {M M' : List (Key × Int)} (H : DctI h d db nb lb tb gb seed M) (hp : M.Perm M') : DctI h d db nb lb tb gb seed M' := by
  obtain ⟨T, HT, hpm⟩ := H.tab
  exact ⟨by rw [← hp.length_eq]; exact H.dc, H.bc, H.nc, H.lc, ⟨T, HT, hpm.trans hp⟩, H.ne⟩
theorem DctI.nodup {h : Heap} {d db nb lb tb gb : Nat} {seed : Int} {M : List (Key × Int)} (H : DctI h d db nb lb tb gb seed M) : (M.map (·.1)).Nodup := by
  obtain ⟨T, HT, hpm⟩ := H.tab
  rw [← (hpm.map (·.1)).nodup_iff]
  exact HT.ok.uniq
theorem dPutI_x (d db nb lb tb gb : Nat) (seed : Int) (M : List (Key × Int)) (key : Key) (v : Int) (w : World) (H : DctI w.heap d db nb lb tb gb seed M) (hs : key.length ≤ 9223372036854775807) (hfew : M.length ≤ 111) :
    Calls Tryz.prog 32 #[.pointer (some ⟨d, 0, none⟩), .string (bs key), (Value.int .i64) v] w fun e w' => e = .returned (.int .i64 0) ∧ E.Frame (fun b => b = d ∨ b = tb ∨ b = gb) w.heap w'.heap ∧ outw w' = outw w ∧
      ∃ gb', (gb' = gb ∨ w.heap.size ≤ gb') ∧ DctI w'.heap d db nb lb tb gb' seed (pt M key v) := by
  refine (dPutI_any d db nb lb tb gb seed M key v w H hs hfew).mono ?_
  rintro e w' ⟨rfl, hf, ho, gb', M', hg, HD, hR⟩
  exact ⟨rfl, hf, ho, gb', hg, HD.perm (put_pt H.nodup hR)⟩
end Go.Proofs.YtkcjhabbgaaknaaGreat
/- A delete from a dict, told exactly (I). -/
namespace Go.Proofs.YtkcjhabbgaaknaaGreat
open E
set_option maxRecDepth 100000
theorem dDeleteI_x (d db nb lb tb gb : Nat) (seed : Int) (M : List (Key × Int)) (key : Key) (w : World) (H : DctI w.heap d db nb lb tb gb seed M) (hs : key.length ≤ 9223372036854775807) (hM : M.length ≤ 9223372036854775807) :
    Calls Tryz.prog 30 #[.pointer (some ⟨d, 0, none⟩), .string (bs key)] w fun e w' => e = .returned (.bool (hasK M key)) ∧ E.Frame (fun b => b = d ∨ b = tb ∨ b = gb) w.heap w'.heap ∧ outw w' = outw w ∧
      DctI w'.heap d db nb lb tb gb seed (rm M key) := by
  refine (dDeleteI_any d db nb lb tb gb seed M key w H hs hM).mono ?_
  rintro e w' ⟨b, rfl, hf, ho, M', HD, hR⟩
  rcases hR with ⟨rfl, u, r⟩ | ⟨rfl, r, rfl⟩
  · refine ⟨?_, hf, ho, HD.perm (del_rm H.nodup r)⟩
    have : hasK M key = true := List.any_eq_true.2 ⟨(key, u), r.symm.subset List.mem_cons_self, by simp⟩
    rw [this]
  · refine ⟨?_, hf, ho, by rw [rm_none r]; exact HD⟩
    have : hasK M' key = false := List.any_eq_false.2 fun x hx => by simpa using r x hx
    rw [this]
end Go.Proofs.YtkcjhabbgaaknaaGreat
