import Derived.Test.YtkcjhabbgaaknaaGreatSBU
import Derived.Test.YtkcjhabbgaaknaaGreatSA
/- A dict as it lies in memory: one node, one table (U). -/
namespace Go.Proofs.YtkcjhabbgaaknaaGreat
open E
set_option maxRecDepth 100000
structure DctU (h : Heap) (d db nb lb tb gb : Nat) (seed : Int) (M : List (Key × Int)) : Prop where
  dc : CellsAt h d 0 [.int .u64 seed, .int .i64 0, .slice (some ⟨db, 0, none⟩) 1 1, .int .i64 (M.length : Nat)]
  bc : CellsAt h db 0 [.pointer (some ⟨nb, 0, none⟩)]
  nc : CellsAt h nb 0 [.int .i64 0, .slice (some ⟨lb, 0, none⟩) 1 1]
  lc : CellsAt h lb 0 [.pointer (some ⟨tb, 0, none⟩)]
  tab : ∃ T : Tb Int, TabAt (Value.int .u64) h tb gb seed T ∧ T.full.Perm M
  ne : [d, db, nb, lb, tb, gb].Nodup
theorem DctU.lt {h : Heap} {d db nb lb tb gb : Nat} {seed : Int} {M : List (Key × Int)} (H : DctU h d db nb lb tb gb seed M) : ∀ b ∈ [d, db, nb, lb, tb, gb], b < h.size := by
  obtain ⟨T, HT, _⟩ := H.tab
  intro b hb
  simp only [List.mem_cons, List.not_mem_nil, or_false] at hb
  rcases hb with rfl | rfl | rfl | rfl | rfl | rfl
  · exact H.dc.1
  · exact H.bc.1
  · exact H.nc.1
  · exact H.lc.1
  · exact HT.tl
  · exact HT.gl
theorem DctU.frame {F : Nat → Prop} {h h' : Heap} {d db nb lb tb gb : Nat} {seed : Int} {M : List (Key × Int)} (H : DctU h d db nb lb tb gb seed M) (hx : E.Frame F h h') (hF : ∀ b ∈ [d, db, nb, lb, tb, gb], ¬ F b) : DctU h' d db nb lb tb gb seed M := by
  obtain ⟨T, HT, hp⟩ := H.tab
  exact ⟨hx.cellsAt H.dc (hF _ (by simp)), hx.cellsAt H.bc (hF _ (by simp)), hx.cellsAt H.nc (hF _ (by simp)), hx.cellsAt H.lc (hF _ (by simp)), ⟨T, HT.frame hx (hF _ (by simp)) (hF _ (by simp)), hp⟩, H.ne⟩
theorem DctU.ext {h h' : Heap} {d db nb lb tb gb : Nat} {seed : Int} {M : List (Key × Int)} (H : DctU h d db nb lb tb gb seed M) (hx : Ext h h') : DctU h' d db nb lb tb gb seed M :=
  H.frame (hx.frame fun _ => False) fun _ _ => id
theorem placeU_any (d db nb : Nat) (x n : Nat) (seed : Int) (w : World) (hdb : d ≠ db)
    (hd : CellsAt w.heap d 0 [.int .u64 seed, .int .i64 0, .slice (some ⟨db, 0, none⟩) 1 1, .int .i64 (n : Nat)]) (hb : CellsAt w.heap db 0 [.pointer (some ⟨nb, 0, none⟩)]) :
    Calls Tryz.prog 70 #[.pointer (some ⟨d, 0, none⟩), .int .u64 (x : Nat)] w (RetX (.pointer (some ⟨nb, 0, none⟩)) w.heap (outw w)) := by
  refine begins (k70 {}) [.ptr (.at (.v 0) (.c 0)), .int .u64 (.ofN (.v 3))] [(.v 0, .c 0, [.int .u64 (.v 0), .int .i64 (.c 0), .slice (.at (.v 1) (.c 0)) (.c 1) (.c 1), .int .i64 (.ofN (.v 4))]), (.v 1, .c 0, [.ptr (.at (.v 2) (.c 0))])]
    { n := fun j => if j = 0 then d else if j = 1 then db else if j = 2 then nb else if j = 3 then x else n, i := fun _ => seed, h := fun _ => w.heap, o := outw w } 5 1000 rfl rfl rfl
    ⟨by simpa [NE.den, SV.den, IE.den, PE.den] using hd, ⟨by simpa [NE.den] using hdb, trivial⟩, by simpa [NE.den, SV.den, PE.den] using hb, trivial, trivial⟩ (by simp [SV.den, IE.den, NE.den, PE.den]) ?_
  conv => arg 7; reduce
  simp only [VC.den, BE.prop, IE.den, NE.den, SV.den, HE.den, PE.den, WS.den, List.map_cons, List.map_nil, Int.cast_ofNat_Int, reduceIte, Nat.reduceEqDiff, Env.setE, Env.setH, Env.setI, Env.setP]
  intro w1 hw1 ho1
  refine (Low_any (x : Int) _).mono ?_
  rintro e1 v1 ⟨rfl, hx1, hp1⟩
  rw [hw1] at hx1
  refine ⟨hp1.trans ho1, hx1, ?_⟩
  refine ⟨_, rfl, by omega, by omega, _, (hx1.cellsAt hb).at0 (j := 0) rfl, fun _ _ => ?_⟩
  exact (fun hf wr hwr hor => ⟨rfl, by rw [hwr]; exact hf.none, hor⟩)
theorem nfindU_any (nb lb tb gb : Nat) (seed : Int) (T : Tb Int) (key : Key) (w : World) (hs : key.length ≤ 9223372036854775807) (hnl : nb ≠ lb)
    (hn : CellsAt w.heap nb 0 [.int .i64 0, .slice (some ⟨lb, 0, none⟩) 1 1]) (hl : CellsAt w.heap lb 0 [.pointer (some ⟨tb, 0, none⟩)]) (HT : TabAt (Value.int .u64) w.heap tb gb seed T) :
    Calls Tryz.prog 71 #[.pointer (some ⟨nb, 0, none⟩), .string (bs key)] w fun e w' => ∃ p : Option Addr, e = .returned (.pointer p) ∧ ((p = some ⟨tb, 0, none⟩ ∧ ∃ v, (key, v) ∈ T.full) ∨ (p = none ∧ ∀ x ∈ T.full, x.1 ≠ key)) ∧ Ext w.heap w'.heap ∧ outw w' = outw w := by
  refine begins (k71 {}) [.ptr (.at (.v 0) (.c 0)), .str (.v 0)] [(.v 0, .c 0, [.int .i64 (.c 0), .slice (.at (.v 1) (.c 0)) (.c 1) (.c 1)]), (.v 1, .c 0, [.ptr (.at (.v 2) (.c 0))])]
    { n := fun j => if j = 0 then nb else if j = 1 then lb else tb, s := fun _ => key, h := fun _ => w.heap, o := outw w } 3 1000 rfl rfl rfl
    ⟨by simpa [NE.den, SV.den, IE.den, PE.den] using hn, ⟨by simpa [NE.den] using hnl, trivial⟩, by simpa [NE.den, SV.den, PE.den] using hl, trivial, trivial⟩ (by simp [SV.den, NE.den, PE.den, SE.den]) ?_
  conv => arg 7; reduce
  simp only [VC.den, IE.den, NE.den, SE.den, SV.den, HE.den, PE.den, WS.den, List.map_cons, List.map_nil, Int.cast_ofNat_Int, reduceIte, Nat.reduceEqDiff]
  intro _ _ _
  refine looping (k71 {}) [.str (.v 0), .slice (.at (.v 1) (.c 0)) (.c 1) (.c 1), .int .i64 (.c 1), .int .i64 (.ofN (.v 3))] []
    (fun y : Nat × Heap => { n := fun j => if j = 1 then lb else y.1, s := fun _ => key, h := fun _ => y.2, o := outw w }) 4 1000
    (fun y => y.1 ≤ 1 ∧ Ext w.heap y.2 ∧ (y.1 = 1 → ∀ x ∈ T.full, x.1 ≠ key)) (fun y => 1 - y.1) (0, w.heap) ⟨by simp, Ext.refl _, fun h => absurd h (by simp)⟩ rfl (by simp [SV.den, IE.den, NE.den, PE.den, SE.den]) rfl (fun _ => rfl) (fun _ _ => trivial) ?_
  rintro ⟨i, h⟩ ⟨hi, hx, hno⟩ N hN
  simp only at hi hx hno
  simp only [SV.den, SE.den, PE.den, NE.den, IE.den, List.map_cons, List.map_nil, reduceIte, Nat.reduceEqDiff] at hN
  conv => arg 7; reduce
  simp only [VC.den, BE.prop, IE.den, NE.den, SE.den, SV.den, HE.den, PE.den, BE.den, WS.den, List.map_cons, List.map_nil, Int.cast_ofNat_Int, reduceIte, Nat.reduceEqDiff, Env.setE, Env.setH, Env.setB, Env.setI, Env.setP, inK_i64]
  refine ⟨fun h1 => ?_, fun h1 _ w1 hw1 ho1 => ?_⟩
  · obtain rfl : i = 0 := by omega
    refine ⟨h1, _, (hx.cellsAt hl).at0 (j := 0) rfl, fun w1 hw1 ho1 => ?_⟩
    refine (tGetU_any seed T tb gb key w1 (by rw [hw1]; exact HT.ext hx) hs).mono ?_
    rintro e1 v1 ⟨v, ok, rfl, hH, hx1, hp1⟩
    rw [hw1] at hx1
    refine ⟨hp1.trans ho1, hx1, v, ok, rfl, fun hok _ w2 hw2 ho2 => ?_, fun hok => ⟨by omega, fun _ => ?_⟩⟩
    · rcases hH with ⟨_, hH⟩ | ⟨hH, _⟩
      · exact ⟨_, rfl, .inl ⟨rfl, v, hH⟩, by rw [hw2]; exact hx.trans hx1, ho2⟩
      · rw [hok] at hH; cases hH
    · rcases hH with ⟨hH, _⟩ | ⟨_, _, hH⟩
      · exact absurd hH hok
      · exact hN (1, v1.heap) ⟨Nat.le_refl _, hx.trans hx1, fun _ => hH⟩ (by simp)
  · exact ⟨none, rfl, .inr ⟨rfl, hno (by omega)⟩, by rw [hw1]; exact hx, ho1⟩
theorem roomU_any (nb lb tb gb : Nat) (seed : Int) (T : Tb Int) (w : World) (hnl : nb ≠ lb) (hf : T.full.length ≤ 111)
    (hn : CellsAt w.heap nb 0 [.int .i64 0, .slice (some ⟨lb, 0, none⟩) 1 1]) (hl : CellsAt w.heap lb 0 [.pointer (some ⟨tb, 0, none⟩)]) (HT : TabAt (Value.int .u64) w.heap tb gb seed T) :
    Calls Tryz.prog 91 #[.pointer (some ⟨nb, 0, none⟩)] w (RetX (.pointer (some ⟨tb, 0, none⟩)) w.heap (outw w)) := by
  refine begins (k91 {}) [.ptr (.at (.v 0) (.c 0))] [(.v 0, .c 0, [.int .i64 (.c 0), .slice (.at (.v 1) (.c 0)) (.c 1) (.c 1)]), (.v 1, .c 0, [.ptr (.at (.v 2) (.c 0))])]
    { n := fun j => if j = 0 then nb else if j = 1 then lb else tb, h := fun _ => w.heap, o := outw w } 3 1000 rfl rfl rfl
    ⟨by simpa [NE.den, SV.den, IE.den, PE.den] using hn, ⟨by simpa [NE.den] using hnl, trivial⟩, by simpa [NE.den, SV.den, PE.den] using hl, trivial, trivial⟩ (by simp [SV.den, NE.den, PE.den]) ?_
  conv => arg 7; reduce
  simp only [VC.den, IE.den, NE.den, SV.den, HE.den, PE.den, WS.den, List.map_cons, List.map_nil, Int.cast_ofNat_Int, reduceIte, Nat.reduceEqDiff]
  intro _ _ _
  refine looping (k91 {}) [.slice (.at (.v 1) (.c 0)) (.c 1) (.c 1), .int .i64 (.c 1), .int .i64 (.c 0)] []
    (fun _ : Unit => { n := fun _ => lb, h := fun _ => w.heap, o := outw w }) 4 1000
    (fun _ => True) (fun _ => 0) () trivial rfl (by simp [SV.den, IE.den, NE.den, PE.den]) rfl (fun _ => rfl) (fun _ _ => trivial) ?_
  rintro _ _ N hN
  conv => arg 7; reduce
  simp only [VC.den, BE.prop, IE.den, NE.den, SV.den, HE.den, PE.den, WS.den, List.map_cons, List.map_nil, Int.cast_ofNat_Int, reduceIte, Nat.reduceEqDiff, Env.setE, Env.setH, Env.setI, Env.setP]
  refine ⟨_, hl.at0 (j := 0) rfl, fun w1 hw1 ho1 => ?_⟩
  refine (tLenU_any seed T tb gb w1 (by rw [hw1]; exact HT)).mono ?_
  rintro e1 v1 ⟨rfl, hx1, hp1⟩
  rw [hw1] at hx1
  refine ⟨hp1.trans ho1, hx1, _, rfl, fun _ => ?_, fun h => absurd (by omega) h⟩
  exact (fun hf wr hwr hor => ⟨rfl, by rw [hwr]; exact hf.none, hor⟩)
theorem has_permU {l l' : List (Key × Int)} (h : l.Perm l') {key : Key} {v : Int} {ok : Bool} (H : HasU l key v ok) : HasU l' key v ok := by
  rcases H with ⟨a, b⟩ | ⟨a, b, c⟩
  · exact .inl ⟨a, h.subset b⟩
  · exact .inr ⟨a, b, fun x hx => c x (h.symm.subset hx)⟩
theorem dGetU_any (d db nb lb tb gb : Nat) (seed : Int) (M : List (Key × Int)) (key : Key) (w : World) (H : DctU w.heap d db nb lb tb gb seed M) (hs : key.length ≤ 9223372036854775807) :
    Calls Tryz.prog 42 #[.pointer (some ⟨d, 0, none⟩), .string (bs key)] w fun e w' => ∃ v ok, e = .returned (.tuple #[(Value.int .u64) v, .bool ok]) ∧ HasU M key v ok ∧ Ext w.heap w'.heap ∧ outw w' = outw w := by
  obtain ⟨T, HT, hp⟩ := H.tab
  have hne := H.ne
  simp only [List.nodup_cons, List.mem_cons, List.not_mem_nil, or_false, not_or, List.nodup_nil, and_true, not_false_eq_true] at hne
  refine begins (k42 {}) [.ptr (.at (.v 0) (.c 0)), .str (.v 0)] [(.v 0, .c 0, [.int .u64 (.v 0), .int .i64 (.c 0), .slice (.at (.v 1) (.c 0)) (.c 1) (.c 1), .int .i64 (.ofN (.v 2))])]
    { n := fun j => if j = 0 then d else if j = 1 then db else M.length, i := fun _ => seed, s := fun _ => key, h := fun _ => w.heap, o := outw w } 3 1000 rfl rfl rfl
    ⟨by simpa [NE.den, SV.den, IE.den, PE.den] using H.dc, trivial, trivial⟩ (by simp [SV.den, NE.den, PE.den, SE.den]) ?_
  conv => arg 7; reduce
  simp only [VC.den, BE.prop, IE.den, NE.den, SE.den, SV.den, HE.den, PE.den, BE.den, WS.den, List.map_cons, List.map_nil, Int.cast_ofNat_Int, reduceIte, Nat.reduceEqDiff, Env.setE, Env.setH, Env.setB, Env.setI, Env.setP]
  intro w1 hw1 ho1
  refine (Of_any seed key w1 hs).mono ?_
  rintro e1 v1 ⟨rfl, hx1, hp1⟩
  rw [hw1] at hx1
  rw [hk_cast]
  refine ⟨hp1.trans ho1, hx1, _, rfl, fun _ w2 hw2 ho2 => ?_⟩
  refine (placeU_any d db nb (hk seed key) M.length seed w2 hne.1.1 (by rw [hw2]; exact hx1.cellsAt H.dc) (by rw [hw2]; exact hx1.cellsAt H.bc)).mono ?_
  rintro e2 v2 ⟨rfl, hx2, hp2⟩
  rw [hw2] at hx2
  refine ⟨hp2.trans ho2, hx2, _, rfl, fun w3 hw3 ho3 => ?_⟩
  have hX2 := hx1.trans hx2
  refine (nfindU_any nb lb tb gb seed T key w3 hs hne.2.2.1.1 (by rw [hw3]; exact hX2.cellsAt H.nc) (by rw [hw3]; exact hX2.cellsAt H.lc) (by rw [hw3]; exact HT.ext hX2)).mono ?_
  rintro e3 v3 ⟨p, rfl, hP, hx3, hp3⟩
  rw [hw3] at hx3
  have hX3 := hX2.trans hx3
  refine ⟨hp3.trans ho3, hx3, p, rfl, fun hpn w4 hw4 ho4 => ?_, fun hpn _ hf w4 hw4 ho4 => ?_⟩
  · rcases hP with ⟨rfl, _⟩ | ⟨h, _⟩
    · refine (tGetU_any seed T tb gb key w4 (by rw [hw4]; exact HT.ext hX3) hs).mono ?_
      rintro e4 v4 ⟨v, ok, rfl, hH, hx4, hp4⟩
      rw [hw4] at hx4
      exact ⟨hp4.trans ho4, hx4, v, ok, rfl, fun _ hf w5 hw5 ho5 => ⟨v, ok, rfl, has_permU hp hH, by rw [hw5]; exact hf.none, ho5⟩⟩
    · exact absurd h hpn
  · rcases hP with ⟨h, _⟩ | ⟨_, h⟩
    · exact absurd (by rw [h]; simp) hpn
    · exact ⟨(0 : Int), false, rfl, .inr ⟨rfl, rfl, fun x hx => h x (hp.symm.subset hx)⟩, by rw [hw4]; exact hf.none, ho4⟩
end Go.Proofs.YtkcjhabbgaaknaaGreat
/- A key is put to a dict (U). -/
namespace Go.Proofs.YtkcjhabbgaaknaaGreat
open E
set_option maxRecDepth 100000
theorem put_permU {l l' M : List (Key × Int)} (h : l.Perm M) {key : Key} {v : Int} (H : PutRU l key v l') : PutRU M key v l' := by
  rcases H with ⟨u, r, a, b⟩ | ⟨a, b⟩
  · exact .inl ⟨u, r, h.symm.trans a, b⟩
  · exact .inr ⟨fun x hx => a x (h.symm.subset hx), b.trans (h.cons _)⟩
set_option maxHeartbeats 1000000 in
theorem dPutU_any (d db nb lb tb gb : Nat) (seed : Int) (M : List (Key × Int)) (key : Key) (v : Int) (w : World) (H : DctU w.heap d db nb lb tb gb seed M) (hs : key.length ≤ 9223372036854775807) (hfew : M.length ≤ 111) :
    Calls Tryz.prog 59 #[.pointer (some ⟨d, 0, none⟩), .string (bs key), (Value.int .u64) v] w fun e w' => e = .returned (.int .i64 0) ∧ E.Frame (fun b => b = d ∨ b = tb ∨ b = gb) w.heap w'.heap ∧ outw w' = outw w ∧
      ∃ gb' M', (gb' = gb ∨ w.heap.size ≤ gb') ∧ DctU w'.heap d db nb lb tb gb' seed M' ∧ PutRU M key v M' := by
  obtain ⟨T, HT, hp⟩ := H.tab
  have hne := H.ne
  simp only [List.nodup_cons, List.mem_cons, List.not_mem_nil, or_false, not_or, List.nodup_nil, and_true, not_false_eq_true] at hne
  have hlt := H.lt
  simp only [List.mem_cons, List.not_mem_nil, or_false, forall_eq_or_imp, forall_eq] at hlt
  refine begins (k59 {}) [.ptr (.at (.v 0) (.c 0)), .str (.v 0), .int .u64 (.v 9)] [(.v 0, .c 0, [.int .u64 (.v 0), .int .i64 (.c 0), .slice (.at (.v 1) (.c 0)) (.c 1) (.c 1), .int .i64 (.ofN (.v 2))])]
    { n := fun j => if j = 0 then d else if j = 1 then db else M.length, i := fun j => if j = 9 then v else seed, p := fun _ => none, s := fun _ => key, h := fun _ => w.heap, o := outw w } 10 1000 rfl rfl rfl
    ⟨by simpa [NE.den, SV.den, IE.den, PE.den] using H.dc, trivial, trivial⟩ (by simp [SV.den, IE.den, NE.den, PE.den, SE.den]) ?_
  conv => arg 7; reduce
  simp only [VC.den, BE.prop, IE.den, NE.den, SE.den, SV.den, HE.den, PE.den, WS.den, WI.den, noneIn, List.map_cons, List.map_nil, Int.cast_ofNat_Int, reduceIte, Nat.reduceEqDiff, Env.setE, Env.setH, Env.setI, Env.setP, Env.setW]
  intro w1 hw1 ho1
  refine (Of_any seed key w1 hs).mono ?_
  rintro e1 v1 ⟨rfl, hx1, hp1⟩
  rw [hw1] at hx1
  rw [hk_cast]
  refine ⟨hp1.trans ho1, hx1, _, rfl, fun _ w2 hw2 ho2 => ?_⟩
  refine (placeU_any d db nb (hk seed key) M.length seed w2 hne.1.1 (by rw [hw2]; exact hx1.cellsAt H.dc) (by rw [hw2]; exact hx1.cellsAt H.bc)).mono ?_
  rintro e2 v2 ⟨rfl, hx2, hp2⟩
  rw [hw2] at hx2
  refine ⟨hp2.trans ho2, hx2, _, rfl, fun w3 hw3 ho3 => ?_⟩
  have hX2 := hx1.trans hx2
  refine (nfindU_any nb lb tb gb seed T key w3 hs hne.2.2.1.1 (by rw [hw3]; exact hX2.cellsAt H.nc) (by rw [hw3]; exact hX2.cellsAt H.lc) (by rw [hw3]; exact HT.ext hX2)).mono ?_
  rintro e3 v3 ⟨p, rfl, hP, hx3, hp3⟩
  rw [hw3] at hx3
  have hX3 := hX2.trans hx3
  refine ⟨hp3.trans ho3, hx3, p, rfl, fun hpn => ?_, fun hpn => ?_⟩
  · rcases hP with ⟨rfl, hin⟩ | ⟨h, _⟩
    · intro w4 hw4 ho4
      refine (tPutU_any seed T tb gb key v w4 (by rw [hw4]; exact HT.ext hX3) hs (fun _ => by rw [hp.length_eq]; exact hfew)).mono ?_
      rintro e4 v4 ⟨rfl, hf4, hp4, gb', T', hgb, HT', hR⟩
      rw [hw4] at hf4 hgb
      have hz := hX3.le
      refine ⟨hp4.trans ho4, _, hf4, ⟨by rintro (e | e) <;> omega, trivial⟩, _, rfl, fun hc hf w5 hw5 ho5 => ⟨rfl, ?_, ho5, gb', T'.full, by omega, ⟨?_, ?_, ?_, ?_, ⟨T', by rw [hw5]; exact HT', List.Perm.refl _⟩, ?_⟩, put_permU hp hR⟩⟩
      · rw [hw5]; exact hf.mono fun b _ h => by simp only [or_false] at h; omega
      · rw [hw5]
        have hl : T'.full.length = M.length := by
          rcases hR with ⟨u, r, r1, r2⟩ | ⟨h, _⟩
          · have h1 := r1.length_eq
            have h2 := r2.length_eq
            have h3 := hp.length_eq
            simp only [List.length_cons] at h1 h2
            omega
          · obtain ⟨v', hv'⟩ := hin
            exact absurd rfl (h _ hv')
        rw [hl]; exact hc
      · rw [hw5]; exact hf4.cellsAt (hX3.cellsAt H.bc) (by rintro (e | e) <;> omega)
      · rw [hw5]; exact hf4.cellsAt (hX3.cellsAt H.nc) (by rintro (e | e) <;> omega)
      · rw [hw5]; exact hf4.cellsAt (hX3.cellsAt H.lc) (by rintro (e | e) <;> omega)
      · simp only [List.nodup_cons, List.mem_cons, List.not_mem_nil, or_false, not_or, List.nodup_nil, and_true, not_false_eq_true]
        omega
    · exact absurd h hpn
  · rcases hP with ⟨h, _⟩ | ⟨_, h⟩
    · exact absurd (by rw [h]; simp) hpn
    · intro hc0 _
      refine looping (k59 {}) [.ptr (.at (.v 0) (.c 0)), .str (.v 0), .int .u64 (.v 9), .int .u64 (.ofN (.v 3))] [(.v 0, .c 0, [.int .u64 (.v 0), .int .i64 (.c 0), .slice (.at (.v 1) (.c 0)) (.c 1) (.c 1), .int .i64 (.ofN (.v 2))])]
        (fun _ : Unit => { n := fun j => if j = 0 then d else if j = 1 then db else if j = 2 then M.length else hk seed key, i := fun j => if j = 9 then v else seed, p := fun _ => none, s := fun _ => key, h := fun _ => v3.heap, o := outw w }) 10 1000
        (fun _ => True) (fun _ => 0) () trivial rfl (by simp [SV.den, IE.den, NE.den, PE.den, SE.den]) rfl (fun _ => rfl) (fun _ _ => ⟨by simpa [NE.den, SV.den, IE.den, PE.den] using hc0, trivial, trivial⟩) ?_
      rintro _ _ N hN
      conv => arg 7; reduce
      simp only [VC.den, BE.prop, IE.den, NE.den, SE.den, SV.den, HE.den, PE.den, WS.den, WI.den, noneIn, List.map_cons, List.map_nil, Int.cast_ofNat_Int, reduceIte, Nat.reduceEqDiff, Env.setE, Env.setH, Env.setI, Env.setN, Env.setP, Env.setW, inK_i64]
      intro _ w4 hw4 ho4
      refine (placeU_any d db nb (hk seed key) M.length seed w4 hne.1.1 (by rw [hw4]; exact hX3.cellsAt H.dc) (by rw [hw4]; exact hX3.cellsAt H.bc)).mono ?_
      rintro e4 v4 ⟨rfl, hx4, hp4⟩
      rw [hw4] at hx4
      have hX4 := hX3.trans hx4
      refine ⟨hp4.trans ho4, hx4, _, rfl, fun w5 hw5 ho5 => ?_⟩
      refine (roomU_any nb lb tb gb seed T w5 hne.2.2.1.1 (by rw [hp.length_eq]; exact hfew) (by rw [hw5]; exact hX4.cellsAt H.nc) (by rw [hw5]; exact hX4.cellsAt H.lc) (by rw [hw5]; exact HT.ext hX4)).mono ?_
      rintro e5 v5 ⟨rfl, hx5, hp5⟩
      rw [hw5] at hx5
      have hX5 := hX4.trans hx5
      refine ⟨hp5.trans ho5, hx5, _, rfl, fun h => absurd h (by simp), fun _ => ⟨fun h => absurd h (by simp), fun _ => ⟨by omega, fun w6 hw6 ho6 => ?_⟩⟩⟩
      have hfS : E.Frame (fun b => b = d) w.heap (setc v5.heap d 3 (.int .i64 ((M.length : Int) + 1))) := E.Frame.set (hX5.frame (fun b => b = d)) (b := d) (fun _ => rfl) _ _
      refine (tPutU_any seed T tb gb key v w6 (by rw [hw6]; exact HT.frame hfS (by omega) (by omega)) hs (fun _ => by rw [hp.length_eq]; exact hfew)).mono ?_
      rintro e7 v7 ⟨rfl, hf7, hp7, gb', T', hgb, HT', hR⟩
      rw [hw6] at hf7 hgb
      have hz := hfS.le
      have hF : E.Frame (fun b => b = d ∨ b = tb ∨ b = gb) w.heap v7.heap := hfS.trans hf7 (fun _ h => .inl h) (fun _ _ h => .inr h)
      have hdc : CellsAt v7.heap d 0 [.int .u64 seed, .int .i64 0, .slice (some ⟨db, 0, none⟩) 1 1, .int .i64 ((M.length : Int) + 1)] := by
        have := hf7.cellsAt ((hX5.cellsAt H.dc).set0 3 (.int .i64 ((M.length : Int) + 1))) (by rintro (e | e) <;> omega)
        simpa using this
      refine ⟨hp7.trans ho6, _, hf7, ⟨by rintro (e | e) <;> omega, trivial⟩, _, rfl, fun _ _ w8 hw8 ho8 => ⟨rfl, ?_, ho8, gb', T'.full, by omega, ⟨?_, ?_, ?_, ?_, ⟨T', by rw [hw8]; exact HT', List.Perm.refl _⟩, ?_⟩, put_permU hp hR⟩⟩
      · rw [hw8]; exact hF
      · rw [hw8]
        have hl : ((T'.full.length : Nat) : Int) = (M.length : Int) + 1 := by
          rcases hR with ⟨u, r, r1, r2⟩ | ⟨_, r2⟩
          · exact absurd rfl (h _ (r1.symm.subset List.mem_cons_self))
          · have h2 := r2.length_eq
            have h3 := hp.length_eq
            simp only [List.length_cons] at h2
            omega
        rw [hl]; exact hdc
      · rw [hw8]; exact hF.cellsAt H.bc (by rintro (e | e | e) <;> omega)
      · rw [hw8]; exact hF.cellsAt H.nc (by rintro (e | e | e) <;> omega)
      · rw [hw8]; exact hF.cellsAt H.lc (by rintro (e | e | e) <;> omega)
      · simp only [List.nodup_cons, List.mem_cons, List.not_mem_nil, or_false, not_or, List.nodup_nil, and_true, not_false_eq_true]
        omega
end Go.Proofs.YtkcjhabbgaaknaaGreat
/- New tables, new dicts (U). -/
namespace Go.Proofs.YtkcjhabbgaaknaaGreat
open E
set_option maxRecDepth 100000
theorem tNewU_any (seed : Int) (w : World) :
    Calls Tryz.prog 46 #[.int .u64 seed] w fun e w' => ∃ tb gb, e = .returned (.pointer (some ⟨tb, 0, none⟩)) ∧ w.heap.size ≤ tb ∧ w.heap.size ≤ gb ∧ Ext w.heap w'.heap ∧ TabAt (Value.int .u64) w'.heap tb gb seed (Tb.new 1 (0 : Int)) ∧ outw w' = outw w := by
  refine begins (k46 { tell := true }) [.int .u64 (.v 0)] [] { i := fun _ => seed, h := fun _ => w.heap, o := outw w } 1 1000 rfl rfl rfl trivial (by simp [SV.den, IE.den]) ?_
  conv => arg 7; reduce
  simp only [VC.den, IE.den, NE.den, SV.den, HE.den, PE.den, WS.den, List.map_cons, List.map_nil, Int.cast_ofNat_Int, reduceIte, Nat.reduceEqDiff, Env.setE, Env.setH, Env.setN, Env.setP]
  intro w1 hw1 ho1
  refine (emptyU_any 1 (by decide) w1).mono ?_
  rintro e1 v1 ⟨b, rfl, hb, hx1, hG, hp1⟩
  rw [hw1] at hb hx1
  refine ⟨hp1.trans ho1, hx1, _, _, _, rfl, fun hc hf w2 hw2 ho2 => ⟨v1.heap.size, b, rfl, hx1.le, hb, by rw [hw2]; exact hf.none, ?_, ho2⟩⟩
  rw [hw2]
  have hbl := get_lt (hG.w 0 (by decide))
  exact ⟨by rw [Tb.new_full, Tb.new_dels]; exact hc, hG.ext (ext_push _ _) hbl, by omega, Tb.new_ok 1 _ (by decide), by decide, fun x hx => by rw [Tb.new_full] at hx; cases hx⟩
theorem dNewU_any (seed : Int) (w : World) :
    Calls Tryz.prog 25 #[.int .u64 seed] w fun e w' => ∃ d db nb lb tb gb, e = .returned (.pointer (some ⟨d, 0, none⟩)) ∧ (∀ b ∈ [d, db, nb, lb, tb, gb], w.heap.size ≤ b) ∧ Ext w.heap w'.heap ∧ DctU w'.heap d db nb lb tb gb seed [] ∧ outw w' = outw w := by
  refine begins (k25 { tell := true }) [.int .u64 (.v 0)] [] { i := fun _ => seed, h := fun _ => w.heap, o := outw w } 1 1000 rfl rfl rfl trivial (by simp [SV.den, IE.den]) ?_
  conv => arg 7; reduce
  simp only [VC.den, IE.den, NE.den, SV.den, HE.den, PE.den, WS.den, List.map_cons, List.map_nil, Int.cast_ofNat_Int, reduceIte, Nat.reduceEqDiff, Env.setE, Env.setH, Env.setN, Env.setP]
  intro w1 hw1 ho1
  refine (tNewU_any seed w1).mono ?_
  rintro e1 v1 ⟨tb, gb, rfl, htb, hgb, hx1, HT, hp1⟩
  rw [hw1] at htb hgb hx1
  have htl := HT.tl
  have hgl := HT.gl
  have htg := HT.ne
  refine ⟨hp1.trans ho1, hx1, _, rfl, fun c1 c2 c3 c4 hf w2 hw2 ho2 => ?_⟩
  have hz := hx1.le
  have hT2 : TabAt (Value.int .u64) w2.heap tb gb seed (Tb.new 1 (0 : Int)) := by
    rw [hw2]
    exact (((HT.ext (ext_push _ _)).ext (ext_push _ _)).ext (ext_push _ _)).ext (ext_push _ _)
  refine ⟨_, _, _, _, tb, gb, rfl, ?_, by rw [hw2]; exact hf.none, ⟨by rw [hw2]; exact c1, by rw [hw2]; exact c2, by rw [hw2]; exact c3, by rw [hw2]; exact c4, ⟨_, hT2, by rw [Tb.new_full]⟩, ?_⟩, ho2⟩
  · intro b hb
    simp only [List.mem_cons, List.not_mem_nil, or_false] at hb
    rcases hb with rfl | rfl | rfl | rfl | rfl | rfl
    all_goals first | omega | (simp only [Array.size_push]; omega)
  · simp only [List.nodup_cons, List.mem_cons, List.not_mem_nil, or_false, not_or, List.nodup_nil, and_true, not_false_eq_true, Array.size_push]
    omega
end Go.Proofs.YtkcjhabbgaaknaaGreat
/- A put to a dict, told exactly (U). -/
namespace Go.Proofs.YtkcjhabbgaaknaaGreat
open E
set_option maxRecDepth 100000
theorem DctU.perm {h : Heap} {d db nb lb tb gb : Nat} {seed : Int} {M M' : List (Key × Int)} (H : DctU h d db nb lb tb gb seed M) (hp : M.Perm M') : DctU h d db nb lb tb gb seed M' := by
  obtain ⟨T, HT, hpm⟩ := H.tab
  exact ⟨by rw [← hp.length_eq]; exact H.dc, H.bc, H.nc, H.lc, ⟨T, HT, hpm.trans hp⟩, H.ne⟩
theorem DctU.nodup {h : Heap} {d db nb lb tb gb : Nat} {seed : Int} {M : List (Key × Int)} (H : DctU h d db nb lb tb gb seed M) : (M.map (·.1)).Nodup := by
  obtain ⟨T, HT, hpm⟩ := H.tab
  rw [← (hpm.map (·.1)).nodup_iff]
  exact HT.ok.uniq
theorem dPutU_x (d db nb lb tb gb : Nat) (seed : Int) (M : List (Key × Int)) (key : Key) (v : Int) (w : World) (H : DctU w.heap d db nb lb tb gb seed M) (hs : key.length ≤ 9223372036854775807) (hfew : M.length ≤ 111) :
    Calls Tryz.prog 59 #[.pointer (some ⟨d, 0, none⟩), .string (bs key), (Value.int .u64) v] w fun e w' => e = .returned (.int .i64 0) ∧ E.Frame (fun b => b = d ∨ b = tb ∨ b = gb) w.heap w'.heap ∧ outw w' = outw w ∧
      ∃ gb', (gb' = gb ∨ w.heap.size ≤ gb') ∧ DctU w'.heap d db nb lb tb gb' seed (pt M key v) := by
  refine (dPutU_any d db nb lb tb gb seed M key v w H hs hfew).mono ?_
  rintro e w' ⟨rfl, hf, ho, gb', M', hg, HD, hR⟩
  exact ⟨rfl, hf, ho, gb', hg, HD.perm (put_pt H.nodup hR)⟩
end Go.Proofs.YtkcjhabbgaaknaaGreat
