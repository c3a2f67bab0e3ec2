import Derived.Test.YtkcjhabbgaaknaaGreatSD
import Derived.WalkKit
import Derived.Lib.AppendZerosOnto
/- A space of which the versions are told. -/
namespace Go.Proofs.YtkcjhabbgaaknaaGreat
open E
set_option maxRecDepth 100000
/-- A space that has this; of its clock and its versions this is so. -/
def SpQ (Z : Nat → Prop) (q : Int → List (Key × Int) → Prop) (h : Heap) (sb : Nat) (md : List (Key × Option Addr)) (me : List (Key × Int)) : Prop :=
  ∃ s : Sp, SpAt Z h s ∧ s.sb = sb ∧ s.Md = md ∧ s.Me = me ∧ q s.clock s.Mv ∧ 0 ≤ s.nx ∧ s.nx ≤ 1000
def SqR (Z : Nat → Prop) (q : Int → List (Key × Int) → Prop) (h0 : Heap) (o : Os × Array (Nat × ByteArray)) (sb : Nat) (v : Value) (md : List (Key × Option Addr)) (me : List (Key × Int)) : Ending → World → Prop :=
  fun e w' => e = .returned v ∧ E.Frame (fun b => ¬ Z b) h0 w'.heap ∧ outw w' = o ∧ SpQ Z q w'.heap sb md me
/-- What is so of the versions, and what is so when a key is changed. -/
def Chg (q q' : Int → List (Key × Int) → Prop) (key : Key) : Prop := ∀ c mv, (mv.map (·.1)).Nodup → q c mv → mv.length ≤ 13 ∧ q' (IntKind.u64.wrap (c + 1)) (pt mv key (IntKind.u64.wrap (c + 1)))
section
variable {Z : Nat → Prop} {q q' : Int → List (Key × Int) → Prop} {h h' : Heap} {sb : Nat} {md : List (Key × Option Addr)} {me : List (Key × Int)}
theorem SpQ.ext (H : SpQ Z q h sb md me) (hx : Ext h h') : SpQ Z q h' sb md me := by
  obtain ⟨s, H, r⟩ := H
  exact ⟨s, H.ext hx, r⟩
theorem SpQ.mono (H : SpQ Z q h sb md me) (hq : ∀ c mv, q c mv → q' c mv) : SpQ Z q' h sb md me := by
  obtain ⟨s, H, h1, h2, h3, h4⟩ := H
  exact ⟨s, H, h1, h2, h3, hq _ _ h4.1, h4.2⟩
theorem SpQ.S (H : SpQ Z q h sb md me) : ∃ K, SpS Z K h sb md me := by
  obtain ⟨s, H, h1, h2, h3, _⟩ := H
  exact ⟨s.Mv.map (·.1), s, H, h1, h2, h3, fun x hx => List.mem_map.2 ⟨x, hx, rfl⟩⟩
theorem SpQ.nd (H : SpQ Z q h sb md me) : (md.map (·.1)).Nodup ∧ (me.map (·.1)).Nodup := by
  obtain ⟨K, H⟩ := H.S
  exact H.nd
end
theorem changedC_any (Z : Nat → Prop) (s : Sp) (key : Key) (w : World) (H : SpAt Z w.heap s) (hs : key.length ≤ 9223372036854775807) (hV : s.Mv.length ≤ 13) :
    Calls Tryz.prog 31 #[.pointer (some ⟨s.sb, 0, none⟩), .string (bs key)] w fun e w' => e = .returned (.tuple #[]) ∧ E.Frame (fun b => ¬ Z b) w.heap w'.heap ∧ outw w' = outw w ∧
      ∃ s' c, SpAt Z w'.heap s' ∧ s'.sb = s.sb ∧ s'.Md = s.Md ∧ s'.Me = s.Me ∧ s'.Mv = pt s.Mv key c ∧ c = IntKind.u64.wrap (s.clock + 1) ∧ s'.clock = c ∧ s'.nx = s.nx := by
  refine begins (k31 {}) [.ptr (.at (.v 0) (.c 0)), .str (.v 0)] [(.v 0, .c 0, [.int .u64 (.v 0), .int .i64 (.v 1), .int .i64 (.v 2), .ptr (.at (.v 1) (.c 0)), .ptr (.at (.v 2) (.c 0)), .ptr (.at (.v 3) (.c 0)), .int .u64 (.v 3), .int .i64 (.v 4)])]
    { n := fun j => if j = 0 then s.sb else if j = 1 then s.D.d else if j = 2 then s.E.d else s.V.d, i := fun j => if j = 0 then s.seed else if j = 1 then s.l1 else if j = 2 then s.l2 else if j = 3 then s.clock else s.nx, s := fun _ => key, h := fun _ => w.heap, o := outw w } 5 1000 rfl rfl rfl
    ⟨by simpa [NE.den, SV.den, IE.den, PE.den, Sp.v] using H.hd, trivial, trivial⟩ (by simp [SV.den, SE.den, NE.den, PE.den]) ?_
  conv => arg 7; reduce
  simp only [VC.den, IE.den, NE.den, SE.den, SV.den, HE.den, PE.den, WS.den, WI.den, noneIn, List.map_cons, List.map_nil, Int.cast_ofNat_Int, reduceIte, Nat.reduceEqDiff, Env.setE, Env.setH, Env.setI, Env.setW]
  obtain ⟨Ht, hft⟩ := H.tick (IntKind.u64.wrap (s.clock + 1))
  intro w1 hw1 ho1
  refine (dPutU_x s.V.d s.V.db s.V.nb s.V.lb s.V.tb s.V.gb s.seed s.Mv key _ w1 (by rw [hw1]; exact Ht.v) hs hV).mono ?_
  rintro e1 v1 ⟨rfl, hf1, hp1, g, hg, HD⟩
  rw [hw1] at hf1 hg
  obtain ⟨H2, hf2⟩ := Ht.onV hf1 hg HD
  have ex : ∃ s' c, SpAt Z v1.heap s' ∧ s'.sb = s.sb ∧ s'.Md = s.Md ∧ s'.Me = s.Me ∧ s'.Mv = pt s.Mv key c ∧ c = IntKind.u64.wrap (s.clock + 1) ∧ s'.clock = c ∧ s'.nx = s.nx := ⟨_, _, H2, rfl, rfl, rfl, rfl, rfl, rfl, rfl⟩
  refine ⟨hp1.trans ho1, _, hf1, ⟨fun e => H.sv (D6.F_mem (D := s.V) e), trivial⟩, _, rfl, fun _ _ w2 hw2 ho2 => ⟨trivial, ?_, ho2, by rw [hw2]; exact ex⟩⟩
  rw [hw2]
  exact frz_trans hft hf2
theorem changed_Q (Z : Nat → Prop) (q q' : Int → List (Key × Int) → Prop) (sb : Nat) (md : List (Key × Option Addr)) (me : List (Key × Int)) (key : Key) (w : World) (H : SpQ Z q w.heap sb md me) (hq : Chg q q' key) (hs : key.length ≤ 9223372036854775807) :
    Calls Tryz.prog 31 #[.pointer (some ⟨sb, 0, none⟩), .string (bs key)] w (SqR Z q' w.heap (outw w) sb (.tuple #[]) md me) := by
  obtain ⟨s, Hs, rfl, rfl, rfl, hv⟩ := H
  have hV := hq s.clock s.Mv Hs.v.nodup hv.1
  refine (changedC_any Z s key w Hs hs hV.1).mono ?_
  rintro e w' ⟨rfl, hf, ho, s', c, H', h1, h2, h3, h4, h5, h6, h7⟩
  exact ⟨rfl, hf, ho, s', H', h1, h2, h3, by rw [h6, h4, h5]; exact hV.2, by rw [h7]; exact hv.2⟩
theorem drop_Q (Z : Nat → Prop) (q q' : Int → List (Key × Int) → Prop) (sb : Nat) (md : List (Key × Option Addr)) (me : List (Key × Int)) (key : Key) (w : World) (H : SpQ Z q w.heap sb md me) (hq : Chg q q' key) (hs : key.length ≤ 9223372036854775807) (hmd : md.length ≤ 12) (hme : me.length ≤ 12) :
    Calls Tryz.prog 28 #[.pointer (some ⟨sb, 0, none⟩), .string (bs key)] w (SqR Z q' w.heap (outw w) sb (.tuple #[]) (rm md key) (rm me key)) := by
  obtain ⟨s, H, rfl, rfl, rfl, hv⟩ := H
  refine begins (k28 {}) [.ptr (.at (.v 0) (.c 0)), .str (.v 0)] [(.v 0, .c 0, [.int .u64 (.v 0), .int .i64 (.v 1), .int .i64 (.v 2), .ptr (.at (.v 1) (.c 0)), .ptr (.at (.v 2) (.c 0)), .ptr (.at (.v 3) (.c 0)), .int .u64 (.v 3), .int .i64 (.v 4)])]
    { n := fun j => if j = 0 then s.sb else if j = 1 then s.D.d else if j = 2 then s.E.d else s.V.d, i := fun j => if j = 0 then s.seed else if j = 1 then s.l1 else if j = 2 then s.l2 else if j = 3 then s.clock else s.nx, s := fun _ => key, h := fun _ => w.heap, o := outw w } 5 1000 rfl rfl rfl
    ⟨by simpa [NE.den, SV.den, IE.den, PE.den, Sp.v] using H.hd, trivial, trivial⟩ (by simp [SV.den, SE.den, NE.den, PE.den]) ?_
  conv => arg 7; reduce
  simp only [VC.den, IE.den, NE.den, SE.den, SV.den, HE.den, PE.den, BE.den, WS.den, WI.den, noneIn, List.map_cons, List.map_nil, reduceIte, Nat.reduceEqDiff, Env.setE, Env.setH, Env.setB, Env.setW]
  intro w1 hw1 ho1
  refine (dDeleteP_x s.D.d s.D.db s.D.nb s.D.lb s.D.tb s.D.gb s.seed s.Md key w1 (by rw [hw1]; exact H.d) hs (by omega)).mono ?_
  rintro e1 v1 ⟨rfl, hf1, hp1, HD⟩
  rw [hw1] at hf1
  obtain ⟨H1, hz1⟩ := H.onD (g := s.D.gb) hf1 (.inl rfl) HD
  refine ⟨hp1.trans ho1, _, hf1, ⟨fun e => H.sd (D6.F_mem (D := s.D) e), trivial⟩, _, rfl, fun w2 hw2 ho2 => ?_⟩
  refine (dDeleteI_x s.E.d s.E.db s.E.nb s.E.lb s.E.tb s.E.gb s.seed s.Me key w2 (by rw [hw2]; exact H1.e) hs (by omega)).mono ?_
  rintro e2 v2 ⟨rfl, hf2, hp2, HE⟩
  rw [hw2] at hf2
  obtain ⟨H2, hz2⟩ := H1.onE (g := s.E.gb) hf2 (.inl rfl) HE
  refine ⟨hp2.trans ho2, _, hf2, ⟨fun e => H.se (D6.F_mem (D := s.E) e), trivial⟩, _, rfl, ?_⟩
  have ex : SpQ Z q v2.heap s.sb (rm s.Md key) (rm s.Me key) := ⟨_, H2, rfl, rfl, rfl, hv⟩
  intro _ w3 hw3 ho3
  refine (changed_Q Z q q' s.sb _ _ key w3 (by rw [hw3]; exact ex) hq hs).mono ?_
  rintro e3 v3 ⟨rfl, hf3, hp3, H3⟩
  rw [hw3] at hf3
  refine ⟨hp3.trans ho3, _, hf3, trivial, rfl, fun _ w4 hw4 ho4 => ⟨rfl, ?_, ho4, by rw [hw4]; exact H3⟩⟩
  rw [hw4]
  exact frz_trans (frz_trans hz1 hz2) hf3
theorem Put_Q (Z : Nat → Prop) (q q' : Int → List (Key × Int) → Prop) (sb vb : Nat) (t : List UInt8) (md : List (Key × Option Addr)) (me : List (Key × Int)) (key : Key) (now : Int) (w : World) (H : SpQ Z q w.heap sb md me) (hq : Chg q q' key) (hs : key.length ≤ 4096) (hmd : md.length ≤ 12) (hme : me.length ≤ 12) (hl : ∀ x ∈ me, now < x.2)
    (hT : TextAt w.heap vb t) (_hz : Z vb) :
    Calls Tryz.prog 7 #[.pointer (some ⟨sb, 0, none⟩), .string (bs key), .pointer (some ⟨vb, 0, none⟩), .int .i64 now] w (SqR Z q' w.heap (outw w) sb (.int .i64 0) (pt md key (some ⟨vb, 0, none⟩)) (rm me key)) := by
  refine begins (k7 {}) [.ptr (.at (.v 0) (.c 0)), .str (.v 0), .ptr (.at (.v 1) (.c 0)), .int .i64 (.v 0)] [] { n := fun j => if j = 0 then sb else vb, i := fun _ => now, s := fun _ => key, h := fun _ => w.heap, o := outw w } 2 1000 rfl rfl rfl trivial (by simp [SV.den, SE.den, NE.den, PE.den, IE.den]) ?_
  conv => arg 7; reduce
  simp only [VC.den, BE.prop, IE.den, NE.den, SE.den, SV.den, HE.den, PE.den, BE.den, WS.den, WI.den, noneIn, List.map_cons, List.map_nil, Int.cast_ofNat_Int, reduceIte, Nat.reduceEqDiff, Env.setE, Env.setH, Env.setB, Env.setI, Env.setP, Env.setW]
  intro w1 hw1 ho1
  obtain ⟨K, HK⟩ := H.S
  refine (there_live Z K sb md me key now w1 (by rw [hw1]; exact HK) (by omega) hl).mono ?_
  rintro e1 v1 ⟨b, p, ok, rfl, hH, hb, hx1, hp1⟩
  rw [hw1] at hx1
  refine ⟨hp1.trans ho1, _, hx1.frame (fun _ => False), trivial, b, rfl, fun h => absurd h (by omega), fun _ => ?_⟩
  intro w2 hw2 ho2
  refine (Empty_any vb t _ (by rw [hw2]; exact hx1.cellsAt hT)).mono ?_
  rintro e2 v2 ⟨rfl, hx2, hp2⟩
  rw [hw2] at hx2
  refine ⟨hp2.trans ho2, hx2, ?_⟩
  refine ⟨_, rfl, fun h => (by cases h.1), fun _ => ?_⟩
  intro w3 hw3 ho3
  refine (Empty_any vb t _ (by rw [hw3]; exact (hx1.trans hx2).cellsAt hT)).mono ?_
  rintro e3 v3 ⟨rfl, hx3, hp3⟩
  rw [hw3] at hx3
  refine ⟨hp3.trans ho3, hx3, ?_⟩
  have hX := hx1.trans (hx2.trans hx3)
  obtain ⟨s, Hs, rfl, rfl, rfl, hv⟩ := H.ext hX
  refine ⟨_, rfl, fun _ => ⟨_, Hs.hd.at0 (j := 3) rfl, fun w4 hw4 ho4 => ?_⟩, fun h => (h (by simp)).elim⟩
  refine (dPutP_x s.D.d s.D.db s.D.nb s.D.lb s.D.tb s.D.gb s.seed s.Md key (some ⟨vb, 0, none⟩) w4 (by rw [hw4]; exact Hs.d) (by omega) (by omega)).mono ?_
  rintro e4 v4 ⟨rfl, hf4, hp4, g, hg, HD⟩
  rw [hw4] at hf4 hg
  obtain ⟨H4, hz4⟩ := Hs.onD hf4 hg HD
  refine ⟨hp4.trans ho4, _, hz4, trivial, _, rfl, _, H4.hd.at0 (j := 4) rfl, fun w5 hw5 ho5 => ?_⟩
  refine (dDeleteI_x s.E.d s.E.db s.E.nb s.E.lb s.E.tb s.E.gb s.seed s.Me key w5 (by rw [hw5]; exact H4.e) (by omega) (by omega)).mono ?_
  rintro e5 v5 ⟨rfl, hf5, hp5, HE⟩
  rw [hw5] at hf5
  obtain ⟨H5, hz5⟩ := H4.onE (g := s.E.gb) hf5 (.inl rfl) HE
  have ex : SpQ Z q v5.heap s.sb (pt s.Md key (some ⟨vb, 0, none⟩)) (rm s.Me key) := ⟨_, H5, rfl, rfl, rfl, hv⟩
  refine ⟨hp5.trans ho5, _, hz5, trivial, _, rfl, fun w6 hw6 ho6 => ?_⟩
  refine (changed_Q Z q q' s.sb _ _ key w6 (by rw [hw6]; exact ex) hq (by omega)).mono ?_
  rintro e6 v6 ⟨rfl, hf6, hp6, H6⟩
  rw [hw6] at hf6
  refine ⟨hp6.trans ho6, _, hf6, trivial, rfl, fun hf w7 hw7 ho7 => ⟨rfl, ?_, ho7, by rw [hw7]; exact H6⟩⟩
  rw [hw7]
  exact hf.mono fun b _ h => by simpa using h
theorem Expire_Q (Z : Nat → Prop) (q q' : Int → List (Key × Int) → Prop) (sb : Nat) (md : List (Key × Option Addr)) (me : List (Key × Int)) (key : Key) (at_ now : Int) (a : Addr) (w : World) (H : SpQ Z q w.heap sb md me) (hq : Chg q q' key) (hs : key.length ≤ 4096) (hme : me.length ≤ 12) (hl : ∀ x ∈ me, now < x.2) (hin : (key, some a) ∈ md) (hat : now < at_) :
    Calls Tryz.prog 10 #[.pointer (some ⟨sb, 0, none⟩), .string (bs key), .int .i64 at_, .int .i64 now] w (SqR Z q' w.heap (outw w) sb (.bool true) md (pt me key at_)) := by
  refine begins (k10 {}) [.ptr (.at (.v 0) (.c 0)), .str (.v 0), .int .i64 (.v 1), .int .i64 (.v 0)] [] { n := fun _ => sb, i := fun j => if j = 0 then now else at_, s := fun _ => key, h := fun _ => w.heap, o := outw w } 2 1000 rfl rfl rfl trivial (by simp [SV.den, SE.den, NE.den, PE.den, IE.den]) ?_
  conv => arg 7; reduce
  simp only [VC.den, BE.prop, IE.den, NE.den, SE.den, SV.den, HE.den, PE.den, BE.den, WS.den, WI.den, noneIn, List.map_cons, List.map_nil, reduceIte, Nat.reduceEqDiff, Env.setE, Env.setH, Env.setB, Env.setI, Env.setP, Env.setW]
  intro w1 hw1 ho1
  obtain ⟨K, HK⟩ := H.S
  refine (there_live Z K sb md me key now w1 (by rw [hw1]; exact HK) (by omega) hl).mono ?_
  rintro e1 v1 ⟨b, p, ok, rfl, hH, hb, hx1, hp1⟩
  rw [hw1] at hx1
  have hp := here H.nd.1 hin hH
  refine ⟨hp1.trans ho1, _, hx1.frame (fun b => ¬ Z b), trivial, b, rfl, fun h => absurd (hb.2 (by rw [hp]; simp)) h, fun _ => ⟨fun h => absurd h (by omega), fun _ => ?_⟩⟩
  obtain ⟨s, Hs, rfl, rfl, rfl, hv⟩ := H.ext hx1
  refine ⟨_, Hs.hd.at0 (j := 4) rfl, fun w4 hw4 ho4 => ?_⟩
  refine (dPutI_x s.E.d s.E.db s.E.nb s.E.lb s.E.tb s.E.gb s.seed s.Me key at_ w4 (by rw [hw4]; exact Hs.e) (by omega) (by omega)).mono ?_
  rintro e4 v4 ⟨rfl, hf4, hp4, g, hg, HE⟩
  rw [hw4] at hf4 hg
  obtain ⟨H4, hz4⟩ := Hs.onE hf4 hg HE
  have ex : SpQ Z q v4.heap s.sb s.Md (pt s.Me key at_) := ⟨_, H4, rfl, rfl, rfl, hv⟩
  refine ⟨hp4.trans ho4, _, hz4, trivial, _, rfl, fun w6 hw6 ho6 => ?_⟩
  refine (changed_Q Z q q' s.sb _ _ key w6 (by rw [hw6]; exact ex) hq (by omega)).mono ?_
  rintro e6 v6 ⟨rfl, hf6, hp6, H6⟩
  rw [hw6] at hf6
  refine ⟨hp6.trans ho6, _, hf6, trivial, rfl, fun hf w7 hw7 ho7 => ⟨rfl, ?_, ho7, by rw [hw7]; exact H6⟩⟩
  rw [hw7]
  exact hf.mono fun b _ h => by simpa using h
end Go.Proofs.YtkcjhabbgaaknaaGreat
/- A key is deleted, touched; its version is told. -/
namespace Go.Proofs.YtkcjhabbgaaknaaGreat
open E
set_option maxRecDepth 100000
/-- All values are texts. -/
def TV (Z : Nat → Prop) (h : Heap) (md : List (Key × Option Addr)) : Prop := ∀ x ∈ md, ∃ b t, x.2 = some ⟨b, 0, none⟩ ∧ TextAt h b t ∧ Z b
theorem TV.keep {Z : Nat → Prop} {h h' : Heap} {md : List (Key × Option Addr)} (H : TV Z h md) (hf : E.Frame (fun b => ¬ Z b) h h') : TV Z h' md := fun x hx => by
  obtain ⟨b, t, e, hT, hz⟩ := H x hx
  exact ⟨b, t, e, hT.keep hf hz, hz⟩
theorem TV.ext {Z : Nat → Prop} {h h' : Heap} {md : List (Key × Option Addr)} (H : TV Z h md) (hf : Ext h h') : TV Z h' md := H.keep (hf.frame _)
theorem TV.rm {Z : Nat → Prop} {h : Heap} {md : List (Key × Option Addr)} (H : TV Z h md) (key : Key) : TV Z h (rm md key) := fun x hx => H x (mem_rm.1 hx).1
theorem Delete_Q (Z : Nat → Prop) (q q' : Int → List (Key × Int) → Prop) (sb : Nat) (md : List (Key × Option Addr)) (me : List (Key × Int)) (key : Key) (now : Int) (w : World) (H : SpQ Z q w.heap sb md me) (hq : Chg q q' key) (hm : ∀ c mv, q c mv → q' c mv) (hs : key.length ≤ 4096) (hmd : md.length ≤ 12) (hme : me.length ≤ 12) (hl : ∀ x ∈ me, now < x.2) :
    Calls Tryz.prog 18 #[.pointer (some ⟨sb, 0, none⟩), .string (bs key), .int .i64 now] w fun e w' => ∃ b md' me', SqR Z q' w.heap (outw w) sb (.bool b) md' me' e w' ∧ (md' = md ∧ me' = me ∨ md' = rm md key ∧ me' = rm me key) := by
  refine begins (k18 {}) [.ptr (.at (.v 0) (.c 0)), .str (.v 0), .int .i64 (.v 0)] [] { n := fun _ => sb, i := fun _ => now, s := fun _ => key, h := fun _ => w.heap, o := outw w } 1 1000 rfl rfl rfl trivial (by simp [SV.den, SE.den, NE.den, PE.den, IE.den]) ?_
  conv => arg 7; reduce
  simp only [VC.den, BE.prop, IE.den, NE.den, SE.den, SV.den, HE.den, PE.den, BE.den, WS.den, WI.den, noneIn, List.map_cons, List.map_nil, reduceIte, Nat.reduceEqDiff, Env.setE, Env.setH, Env.setB, Env.setW]
  intro w1 hw1 ho1
  obtain ⟨K, HK⟩ := H.S
  refine (there_live Z K sb md me key now w1 (by rw [hw1]; exact HK) (by omega) hl).mono ?_
  rintro e1 v1 ⟨b, p, ok, rfl, hH, hb, hx1, hp1⟩
  rw [hw1] at hx1
  refine ⟨hp1.trans ho1, _, hx1.frame (fun b => ¬ Z b), trivial, b, rfl, fun _ hf w2 hw2 ho2 => ?_, fun _ w2 hw2 ho2 => ?_⟩
  · exact ⟨_, md, me, ⟨rfl, by rw [hw2]; exact hx1.frame _, ho2, by rw [hw2]; exact (H.ext hx1).mono hm⟩, .inl ⟨rfl, rfl⟩⟩
  · refine (drop_Q Z q q' sb md me key w2 (by rw [hw2]; exact H.ext hx1) hq (by omega) hmd hme).mono ?_
    rintro e2 v2 ⟨rfl, hf2, hp2, H2⟩
    rw [hw2] at hf2
    refine ⟨hp2.trans ho2, _, hf2, trivial, rfl, fun hf w3 hw3 ho3 => ⟨_, _, _, ⟨rfl, ?_, ho3, by rw [hw3]; exact H2⟩, .inr ⟨rfl, rfl⟩⟩⟩
    rw [hw3]
    exact hf.mono fun b _ h => by simpa using h
theorem Touch_Q (Z : Nat → Prop) (q q' : Int → List (Key × Int) → Prop) (sb : Nat) (md : List (Key × Option Addr)) (me : List (Key × Int)) (key : Key) (now : Int) (w : World) (H : SpQ Z q w.heap sb md me) (hq : Chg q q' key) (hT : TV Z w.heap md) (hs : key.length ≤ 4096) (hl : ∀ x ∈ me, now < x.2) :
    Calls Tryz.prog 21 #[.pointer (some ⟨sb, 0, none⟩), .string (bs key), .int .i64 now] w fun e w' => SqR Z q' w.heap (outw w) sb (.tuple #[]) md me e w' ∨ ((∀ x ∈ md, x.1 ≠ key) ∧ SqR Z q w.heap (outw w) sb (.tuple #[]) md me e w') := by
  refine begins (k21 {}) [.ptr (.at (.v 0) (.c 0)), .str (.v 0), .int .i64 (.v 0)] [] { n := fun _ => sb, i := fun _ => now, s := fun _ => key, h := fun _ => w.heap, o := outw w } 1 1000 rfl rfl rfl trivial (by simp [SV.den, SE.den, NE.den, PE.den, IE.den]) ?_
  conv => arg 7; reduce
  simp only [VC.den, BE.prop, IE.den, NE.den, SE.den, SV.den, HE.den, PE.den, BE.den, WS.den, WI.den, noneIn, List.map_cons, List.map_nil, reduceIte, Nat.reduceEqDiff, Env.setE, Env.setH, Env.setB, Env.setP, Env.setW]
  intro w1 hw1 ho1
  obtain ⟨K, HK⟩ := H.S
  refine (Get_live Z K sb md me key now w1 (by rw [hw1]; exact HK) (by omega) hl).mono ?_
  rintro e1 v1 ⟨p, ok, rfl, hH, hx1, hp1⟩
  rw [hw1] at hx1
  refine ⟨hp1.trans ho1, _, hx1.frame (fun b => ¬ Z b), trivial, p, rfl, fun hp hf w2 hw2 ho2 => ?_, fun hp w2 hw2 ho2 => ?_⟩
  · refine .inr ⟨?_, rfl, by rw [hw2]; exact hx1.frame _, ho2, by rw [hw2]; exact H.ext hx1⟩
    rcases hH with ⟨_, hm⟩ | ⟨_, _, hm⟩
    · obtain ⟨b, t, e, _⟩ := hT _ hm
      simp only at e
      rw [hp] at e; cases e
    · exact hm
  · rcases hH with ⟨_, hm⟩ | ⟨_, h, _⟩
    · obtain ⟨b, t, e, hTb, hz⟩ := hT _ hm
      simp only at e
      subst e
      refine (Empty_any b t w2 (by rw [hw2]; exact E.Ext.cellsAt hx1 hTb)).mono ?_
      rintro e2 v2 ⟨rfl, hx2, hp2⟩
      rw [hw2] at hx2
      refine ⟨hp2.trans ho2, hx2, _, rfl, fun h => (by cases h), fun _ w3 hw3 ho3 => ?_⟩
      refine (changed_Q Z q q' sb md me key w3 (by rw [hw3]; exact (H.ext hx1).ext hx2) hq (by omega)).mono ?_
      rintro e3 v3 ⟨rfl, hf3, hp3, H3⟩
      rw [hw3] at hf3
      refine ⟨hp3.trans ho3, _, hf3, trivial, rfl, fun hf w4 hw4 ho4 => .inl ⟨rfl, ?_, ho4, by rw [hw4]; exact H3⟩⟩
      rw [hw4]
      exact hf.mono fun b _ h => by simpa using h
    · exact absurd h hp
theorem Version_Q (Z : Nat → Prop) (q : Int → List (Key × Int) → Prop) (sb : Nat) (md : List (Key × Option Addr)) (me : List (Key × Int)) (key : Key) (now : Int) (w : World) (H : SpQ Z q w.heap sb md me) (hs : key.length ≤ 4096) (hl : ∀ x ∈ me, now < x.2) :
    Calls Tryz.prog 19 #[.pointer (some ⟨sb, 0, none⟩), .string (bs key), .int .i64 now] w fun e w' => ∃ x, e = .returned (.int .u64 x) ∧ Ext w.heap w'.heap ∧ outw w' = outw w ∧ ∃ c mv ok, (mv.map (·.1)).Nodup ∧ q c mv ∧ HasU mv key x ok ∧ SpQ Z (fun c' mv' => c' = c ∧ mv' = mv) w'.heap sb md me := by
  refine begins (k19 {}) [.ptr (.at (.v 0) (.c 0)), .str (.v 0), .int .i64 (.v 0)] [] { n := fun _ => sb, i := fun _ => now, s := fun _ => key, h := fun _ => w.heap, o := outw w } 1 1000 rfl rfl rfl trivial (by simp [SV.den, SE.den, NE.den, PE.den, IE.den]) ?_
  conv => arg 7; reduce
  simp only [VC.den, IE.den, NE.den, SE.den, SV.den, HE.den, PE.den, BE.den, WS.den, WI.den, noneIn, List.map_cons, List.map_nil, reduceIte, Nat.reduceEqDiff, Env.setE, Env.setH, Env.setB, Env.setI, Env.setP, Env.setW]
  intro w1 hw1 ho1
  obtain ⟨K, HK⟩ := H.S
  refine (there_live Z K sb md me key now w1 (by rw [hw1]; exact HK) (by omega) hl).mono ?_
  rintro e1 v1 ⟨b, p, ok, rfl, hH, hb, hx1, hp1⟩
  rw [hw1] at hx1
  obtain ⟨s, Hs, rfl, rfl, rfl, hv⟩ := H.ext hx1
  refine ⟨hp1.trans ho1, _, hx1.frame (fun _ => False), trivial, b, rfl, _, Hs.hd.at0 (j := 5) rfl, fun w2 hw2 ho2 => ?_⟩
  refine (dGetU_any s.V.d s.V.db s.V.nb s.V.lb s.V.tb s.V.gb s.seed s.Mv key w2 (by rw [hw2]; exact Hs.v) (by omega)).mono ?_
  rintro e2 v2 ⟨x, ok2, rfl, hH2, hx2, hp2⟩
  rw [hw2] at hx2
  exact ⟨hp2.trans ho2, hx2, x, ok2, rfl, fun hf w3 hw3 ho3 => ⟨x, rfl, by rw [hw3]; exact hx1.trans hx2, ho3, s.clock, s.Mv, ok2, Hs.v.nodup, hv.1, hH2, s, by rw [hw3]; exact Hs.ext hx2, rfl, rfl, rfl, ⟨rfl, rfl⟩, hv.2⟩⟩
def nameK (n : Nat) : Key := [107, UInt8.ofNat (97 + n)]
theorem nameK_is : ∀ n : Nat, n < 7 → bytesOf [107] ++ utf8 (IntKind.i32.wrap (97 + (n : Int))) = nameK n := by decide +kernel
theorem name_any (a : Int) (w : World) : Calls Tryz.prog 20 #[.int .i64 a] w fun e w' => ∃ n, n < 7 ∧ e = .returned (.string (bs (nameK n))) ∧ Ext w.heap w'.heap ∧ outw w' = outw w := by
  refine begins (k20 {}) [.int .i64 (.v 0)] [] { i := fun _ => a, h := fun _ => w.heap, o := outw w } 1 1000 rfl rfl rfl trivial (by simp [SV.den, IE.den]) ?_
  conv => arg 7; reduce
  simp only [VC.den, BE.prop, IE.den, NE.den, SE.den, SV.den, HE.den, WS.den, List.map_cons, List.map_nil, Int.cast_ofNat_Int, reduceIte, Nat.reduceEqDiff, Env.setE, Env.setH, Env.setI, inK_i64]
  intro w1 hw1 ho1
  refine (Within_any a 0 1048576 w1 (by omega) (by omega) (by omega)).mono ?_
  rintro e1 v1 ⟨x, rfl, hxa, hxb, hx1, hp1⟩
  rw [hw1] at hx1
  obtain ⟨n, rfl⟩ : ∃ n : Nat, x = n := ⟨x.toNat, by omega⟩
  have hm : (n : Int).tmod 7 = ((n % 7 : Nat) : Int) := tmod_nat n 7
  have hlt : n % 7 < 7 := Nat.mod_lt _ (by decide)
  have hnm := nameK_is (n % 7) hlt
  have hl := congrArg List.length hnm
  have e1 : (bytesOf [107]).length = 1 := rfl
  have e2 : (nameK (n % 7)).length = 2 := rfl
  rw [List.length_append, e1, e2] at hl
  refine ⟨hp1.trans ho1, hx1, _, rfl, by omega, by rw [hm]; omega, fun hf w2 hw2 ho2 => ⟨n % 7, hlt, by rw [hm, hnm], by rw [hw2]; exact hf.none, ho2⟩⟩
end Go.Proofs.YtkcjhabbgaaknaaGreat
/- All keys of a table, of a node (P). -/
namespace Go.Proofs.YtkcjhabbgaaknaaGreat
open E
set_option maxRecDepth 100000
theorem keys1P_any (ob base : Nat) (l : List Key) (key : Key) (v : (Option Addr)) (w : World) (p : Option Addr) (cap : Nat) (hc : CellsAt w.heap ob 0 [.slice p l.length cap]) (ho : Own w.heap base p cap 1 (strs l)) (hob : ob < base) (hb : base ≤ w.heap.size) (hl : l.length ≤ 1000000) :
    Calls Tryz.prog 137 #[.string (bs key), Value.pointer v, .pointer (some ⟨ob, 0, none⟩)] w fun e w' => e = .returned (.tuple #[]) ∧ E.Frame (fun b => b = ob ∨ ∃ a, p = some a ∧ b = a.block) w.heap w'.heap ∧ outw w' = outw w ∧ KS w'.heap ob base (l ++ [key]) := by
  refine begins (k137 {}) [.str (.v 0), .ptr (.v 9), .ptr (.at (.v 0) (.c 0))] [(.v 0, .c 0, [.slice (.v 0) (.v 1) (.v 2)])] { n := fun j => if j = 0 then ob else if j = 1 then l.length else cap, p := fun j => if j = 9 then v else p, i := fun _ => 0, s := fun _ => key, h := fun _ => w.heap, o := outw w } 10 1000 rfl rfl rfl
    ⟨by simpa [NE.den, SV.den, IE.den, PE.den] using hc, trivial, trivial⟩ (by simp [SV.den, SE.den, NE.den, PE.den]) ?_
  conv => arg 7; reduce
  simp only [VC.den, NE.den, SE.den, SV.den, HE.den, PE.den, WS.den, WI.den, List.map_cons, List.map_nil, reduceIte, Nat.reduceEqDiff, Env.setH, Env.setN, Env.setP]
  have hx := ext_push w.heap (.cells #[.string (bs key)] 9)
  have o0 := ho.ext hx
  refine ⟨ho.ne (Nat.le_refl _), ho.ne_lt hob, _, o0.app (by simp [strs_length]) (by omega) (by omega), fun h' p' c' ha hc2 hf w1 hw1 ho1 => ⟨trivial, ?_, ho1, p', c', ?_, ?_⟩⟩
  · rw [hw1]
    exact hf.mono fun b _ h => by simpa using h
  · rw [hw1, List.length_append]; exact hc2
  · rw [hw1, strs_snoc]
    exact own_ne (o0.next (by simp [strs_length]) (by simp) (Nat.le_trans hb hx.le) ha) hob _ _
set_option maxHeartbeats 4000000 in
theorem eachKP_any (To : Tb (Option Addr)) (ob base go : Nat) (w : World) (hG : GrpAt Value.pointer w.heap go To) (hTn : To.n ≤ 2) (hgo : go < w.heap.size) (hne : go ≠ ob) (hgb : go < base) (hob : ob < base) (hbase : base ≤ w.heap.size) (H : KS w.heap ob base []) :
    Calls Tryz.prog 111 #[.slice (some ⟨go, 0, none⟩) To.n To.n, .func (.func 137) #[] #[.pointer (some ⟨ob, 0, none⟩)]] w fun e w' => e = .returned (.tuple #[]) ∧ E.Frame (fun b => b = ob ∨ base ≤ b) w.heap w'.heap ∧ outw w' = outw w ∧ KS w'.heap ob base (To.full.map (·.1)) := by
  refine begins (k111 {}) [.slice (.at (.v 0) (.c 0)) (.v 1) (.v 1), .fn (.func 137) [] [.ptr (.at (.v 2) (.c 0))]] [] { n := fun j => if j = 0 then go else if j = 1 then To.n else ob, h := fun _ => w.heap, o := outw w } 3 1000 rfl rfl rfl trivial (by simp [SV.den, NE.den, PE.den]) ?_
  conv => arg 7; reduce
  simp only [VC.den, IE.den, NE.den, SV.den, HE.den, PE.den, WS.den, List.map_cons, List.map_nil, Int.cast_ofNat_Int, reduceIte, Nat.reduceEqDiff]
  intro _
  refine looping (k111 {}) [.slice (.at (.v 0) (.c 0)) (.v 1) (.v 1), .fn (.func 137) [] [.ptr (.at (.v 2) (.c 0))], .int .i64 (.ofN (.v 1)), .int .i64 (.ofN (.v 3))] []
    (fun y : Nat × Heap => { n := fun j => if j = 0 then go else if j = 1 then To.n else if j = 2 then ob else y.1, h := fun _ => y.2, o := outw w }) 4 1000
    (fun y => y.1 ≤ To.n ∧ E.Frame (fun b => b = ob ∨ base ≤ b) w.heap y.2 ∧ KS y.2 ob base ((at_ To.cell (8 * y.1)).map (·.1))) (fun y => To.n - y.1) (0, w.heap)
    ⟨Nat.zero_le _, E.Frame.refl _ _, H⟩ rfl (by simp [SV.den, NE.den, PE.den, IE.den]) rfl (fun _ => rfl) (fun _ _ => trivial) ?_
  rintro ⟨g, h⟩ ⟨hg, hf, HT⟩ N hN
  simp only at hg hf HT
  simp only [SV.den, PE.den, NE.den, IE.den, List.map_cons, List.map_nil, reduceIte, Nat.reduceEqDiff] at hN
  conv => arg 7; reduce
  simp only [VC.den, BE.prop, IE.den, NE.den, SE.den, SV.den, HE.den, PE.den, WS.den, List.map_cons, List.map_nil, Int.cast_ofNat_Int, reduceIte, Nat.reduceEqDiff, Env.setS, Env.setP]
  refine ⟨fun h1 => ?_, fun h1 _ w1 hw1 ho1 => ?_⟩
  · have hlt : g < To.n := by omega
    have hGh := hG.frame hf hgo (by rintro (e | e) <;> omega)
    refine ⟨h1, _, _, _, _, _, _, _, _, _, _, _, _, _, _, _, _, hGh.k g 0 hlt (by omega), hGh.v g 0 hlt (by omega), hGh.k g 1 hlt (by omega), hGh.v g 1 hlt (by omega), hGh.k g 2 hlt (by omega), hGh.v g 2 hlt (by omega), hGh.k g 3 hlt (by omega), hGh.v g 3 hlt (by omega), hGh.k g 4 hlt (by omega), hGh.v g 4 hlt (by omega), hGh.k g 5 hlt (by omega), hGh.v g 5 hlt (by omega), hGh.k g 6 hlt (by omega), hGh.v g 6 hlt (by omega), hGh.k g 7 hlt (by omega), hGh.v g 7 hlt (by omega), fun _ => ?_⟩
    refine loopingF (k111 {}) (fun y : Nat × Heap => [.slice (.at (.v 0) (.c 0)) (.v 1) (.v 1), .fn (.func 137) [] [.ptr (.at (.v 2) (.c 0))], .int .i64 (.ofN (.v 3)), .int .i64 (.ofN (.v 1)), .int .i64 (.ofN (.v 3)), .agg [.str (.v 0), .ptr (.v 20), .str (.v 1), .ptr (.v 21), .str (.v 2), .ptr (.v 22), .str (.v 3), .ptr (.v 23), .str (.v 4), .ptr (.v 24), .str (.v 5), .ptr (.v 25), .str (.v 6), .ptr (.v 26), .str (.v 7), .ptr (.v 27)], .int .i64 (.c y.1)]) []
      (fun y : Nat × Heap => { n := fun j => if j = 0 then go else if j = 1 then To.n else if j = 2 then ob else g, s := fun m => To.k (8 * g + m), i := fun m => 0, p := fun m => (To.v (8 * g + (m - 20))), h := fun _ => y.2, o := outw w }) 30 1000
      (fun y => y.1 ≤ 8 ∧ E.Frame (fun b => b = ob ∨ base ≤ b) w.heap y.2 ∧ KS y.2 ob base ((at_ To.cell (8 * g + y.1)).map (·.1))) (fun y => 8 - y.1) (0, h)
      ⟨Nat.zero_le _, hf, HT⟩ (fun _ _ => rfl) (by simp [SV.den, NE.den, PE.den, IE.den, SE.den]) rfl (fun _ => rfl) (fun _ _ => trivial) ?_
    rintro ⟨j, h'⟩ ⟨hj, hf1, HT1⟩ N1 hN1
    simp only at hj hf1 HT1
    have hnF : ¬ (go = ob ∨ base ≤ go) := by rintro (e | e) <;> omega
    have hgo' : go < h'.size := Nat.lt_of_lt_of_le hgo hf1.le
    have hob' : ob < h'.size := Nat.lt_of_lt_of_le hob (Nat.le_trans hbase hf1.le)
    have hb' : base ≤ h'.size := Nat.le_trans hbase hf1.le
    obtain rfl | rfl | rfl | rfl | rfl | rfl | rfl | rfl | rfl : j = 0 ∨ j = 1 ∨ j = 2 ∨ j = 3 ∨ j = 4 ∨ j = 5 ∨ j = 6 ∨ j = 7 ∨ j = 8 := by omega
    all_goals
      dsimp only
      dsimp only at hN1
      simp only [SV.den, SE.den, PE.den, NE.den, IE.den, List.map_cons, List.map_nil, reduceIte, Nat.reduceEqDiff] at hN1
      conv => arg 7; reduce
      simp only [VC.den, BE.prop, IE.den, NE.den, SE.den, SV.den, HE.den, PE.den, WS.den, WI.den, noneIn, List.map_cons, List.map_nil, Int.cast_ofNat_Int, reduceIte, Nat.reduceEqDiff, Env.setE, Env.setH, Env.setI, Env.setN, Env.setW, inK_i64]
    · have x0 := (((Ext.refl h').push (.cells #[.string (bs (bytesOf [])), Value.pointer (none : Option Addr)] 148)).set (Nat.le_refl _) 0 (.string (bs (To.k (8 * g + 0))))).set (Nat.le_refl _) 1 (Value.pointer (To.v (8 * g + 0)))
      have hw0 := (hG.frame hf1 hgo hnF).ext x0 hgo'
      refine ⟨h1, _, hw0.w g hlt, ?_⟩
      intro w1 hw1 ho1
      refine (At_any (To.w g) 0 (by omega) w1).mono ?_
      rintro e1 v1 ⟨rfl, hx1, hp1'⟩
      rw [hw1] at hx1
      rw [← To.by_at g (show 0 < 8 by omega)]
      have hX := x0.trans hx1
      refine ⟨hp1'.trans ho1, hx1, _, rfl, fun hb => ?_, fun hb _ => ?_⟩
      · have hk := at_succ To.cell (8 * g + 0)
        rw [To.cell_some (j := 8 * g + 0) (by omega)] at hk
        have hll : (at_ To.cell (8 * g + 0)).length ≤ 8 * g + 0 := at_len _ _
        intro w2 hw2 ho2
        obtain ⟨p, cap, hc, ho⟩ := HT1
        refine (keys1P_any ob base ((at_ To.cell (8 * g + 0)).map (·.1)) (To.k (8 * g + 0)) (To.v (8 * g + 0)) w2 p cap (by rw [hw2]; exact hX.cellsAt hc) (by rw [hw2]; exact ho.ext hX) hob (by rw [hw2]; exact Nat.le_trans hb' hX.le) (by rw [List.length_map]; omega)).mono ?_
        rintro e2 v2 ⟨rfl, hf2, hp2, HK⟩
        rw [hw2] at hf2
        refine ⟨hp2.trans ho2, _, hf2, ⟨by
          rintro (e | ⟨a, ha, e⟩)
          · omega
          · exact ho.ne (Nat.le_refl _) a ha e.symm, trivial⟩, rfl, fun _ => ?_⟩
        exact hN1 (1, v2.heap) ⟨by simp only; omega, (hf1.trans (hX.frame (fun _ => False)) (fun _ h => h) (fun _ _ h => h.elim)).trans hf2 (fun _ h => h) (fun b _ h => h.imp id fun ⟨a, ha, e⟩ => Nat.le_of_not_lt fun hlt => ho.ne_lt hlt a ha e.symm), by show KS _ _ _ (List.map _ (at_ To.cell (8 * g + 0 + 1))); rw [hk]; simpa using HK⟩ (by simp only; omega)
      · have hk := at_succ To.cell (8 * g + 0)
        rw [To.cell_none (j := 8 * g + 0) (by omega)] at hk
        exact hN1 (1, v1.heap) ⟨by simp only; omega, hf1.trans (hX.frame (fun _ => False)) (fun _ h => h) (fun _ _ h => h.elim), by show KS _ _ _ (List.map _ (at_ To.cell (8 * g + 0 + 1))); rw [hk]; simpa using HT1.ext hX⟩ (by simp only; omega)
    · have x0 := (((Ext.refl h').push (.cells #[.string (bs (bytesOf [])), Value.pointer (none : Option Addr)] 148)).set (Nat.le_refl _) 0 (.string (bs (To.k (8 * g + 1))))).set (Nat.le_refl _) 1 (Value.pointer (To.v (8 * g + 1)))
      have hw0 := (hG.frame hf1 hgo hnF).ext x0 hgo'
      refine ⟨h1, _, hw0.w g hlt, ?_⟩
      intro w1 hw1 ho1
      refine (At_any (To.w g) 1 (by omega) w1).mono ?_
      rintro e1 v1 ⟨rfl, hx1, hp1'⟩
      rw [hw1] at hx1
      rw [← To.by_at g (show 1 < 8 by omega)]
      have hX := x0.trans hx1
      refine ⟨hp1'.trans ho1, hx1, _, rfl, fun hb => ?_, fun hb _ => ?_⟩
      · have hk := at_succ To.cell (8 * g + 1)
        rw [To.cell_some (j := 8 * g + 1) (by omega)] at hk
        have hll : (at_ To.cell (8 * g + 1)).length ≤ 8 * g + 1 := at_len _ _
        intro w2 hw2 ho2
        obtain ⟨p, cap, hc, ho⟩ := HT1
        refine (keys1P_any ob base ((at_ To.cell (8 * g + 1)).map (·.1)) (To.k (8 * g + 1)) (To.v (8 * g + 1)) w2 p cap (by rw [hw2]; exact hX.cellsAt hc) (by rw [hw2]; exact ho.ext hX) hob (by rw [hw2]; exact Nat.le_trans hb' hX.le) (by rw [List.length_map]; omega)).mono ?_
        rintro e2 v2 ⟨rfl, hf2, hp2, HK⟩
        rw [hw2] at hf2
        refine ⟨hp2.trans ho2, _, hf2, ⟨by
          rintro (e | ⟨a, ha, e⟩)
          · omega
          · exact ho.ne (Nat.le_refl _) a ha e.symm, trivial⟩, rfl, fun _ => ?_⟩
        exact hN1 (2, v2.heap) ⟨by simp only; omega, (hf1.trans (hX.frame (fun _ => False)) (fun _ h => h) (fun _ _ h => h.elim)).trans hf2 (fun _ h => h) (fun b _ h => h.imp id fun ⟨a, ha, e⟩ => Nat.le_of_not_lt fun hlt => ho.ne_lt hlt a ha e.symm), by show KS _ _ _ (List.map _ (at_ To.cell (8 * g + 1 + 1))); rw [hk]; simpa using HK⟩ (by simp only; omega)
      · have hk := at_succ To.cell (8 * g + 1)
        rw [To.cell_none (j := 8 * g + 1) (by omega)] at hk
        exact hN1 (2, v1.heap) ⟨by simp only; omega, hf1.trans (hX.frame (fun _ => False)) (fun _ h => h) (fun _ _ h => h.elim), by show KS _ _ _ (List.map _ (at_ To.cell (8 * g + 1 + 1))); rw [hk]; simpa using HT1.ext hX⟩ (by simp only; omega)
    · have x0 := (((Ext.refl h').push (.cells #[.string (bs (bytesOf [])), Value.pointer (none : Option Addr)] 148)).set (Nat.le_refl _) 0 (.string (bs (To.k (8 * g + 2))))).set (Nat.le_refl _) 1 (Value.pointer (To.v (8 * g + 2)))
      have hw0 := (hG.frame hf1 hgo hnF).ext x0 hgo'
      refine ⟨h1, _, hw0.w g hlt, ?_⟩
      intro w1 hw1 ho1
      refine (At_any (To.w g) 2 (by omega) w1).mono ?_
      rintro e1 v1 ⟨rfl, hx1, hp1'⟩
      rw [hw1] at hx1
      rw [← To.by_at g (show 2 < 8 by omega)]
      have hX := x0.trans hx1
      refine ⟨hp1'.trans ho1, hx1, _, rfl, fun hb => ?_, fun hb _ => ?_⟩
      · have hk := at_succ To.cell (8 * g + 2)
        rw [To.cell_some (j := 8 * g + 2) (by omega)] at hk
        have hll : (at_ To.cell (8 * g + 2)).length ≤ 8 * g + 2 := at_len _ _
        intro w2 hw2 ho2
        obtain ⟨p, cap, hc, ho⟩ := HT1
        refine (keys1P_any ob base ((at_ To.cell (8 * g + 2)).map (·.1)) (To.k (8 * g + 2)) (To.v (8 * g + 2)) w2 p cap (by rw [hw2]; exact hX.cellsAt hc) (by rw [hw2]; exact ho.ext hX) hob (by rw [hw2]; exact Nat.le_trans hb' hX.le) (by rw [List.length_map]; omega)).mono ?_
        rintro e2 v2 ⟨rfl, hf2, hp2, HK⟩
        rw [hw2] at hf2
        refine ⟨hp2.trans ho2, _, hf2, ⟨by
          rintro (e | ⟨a, ha, e⟩)
          · omega
          · exact ho.ne (Nat.le_refl _) a ha e.symm, trivial⟩, rfl, fun _ => ?_⟩
        exact hN1 (3, v2.heap) ⟨by simp only; omega, (hf1.trans (hX.frame (fun _ => False)) (fun _ h => h) (fun _ _ h => h.elim)).trans hf2 (fun _ h => h) (fun b _ h => h.imp id fun ⟨a, ha, e⟩ => Nat.le_of_not_lt fun hlt => ho.ne_lt hlt a ha e.symm), by show KS _ _ _ (List.map _ (at_ To.cell (8 * g + 2 + 1))); rw [hk]; simpa using HK⟩ (by simp only; omega)
      · have hk := at_succ To.cell (8 * g + 2)
        rw [To.cell_none (j := 8 * g + 2) (by omega)] at hk
        exact hN1 (3, v1.heap) ⟨by simp only; omega, hf1.trans (hX.frame (fun _ => False)) (fun _ h => h) (fun _ _ h => h.elim), by show KS _ _ _ (List.map _ (at_ To.cell (8 * g + 2 + 1))); rw [hk]; simpa using HT1.ext hX⟩ (by simp only; omega)
    · have x0 := (((Ext.refl h').push (.cells #[.string (bs (bytesOf [])), Value.pointer (none : Option Addr)] 148)).set (Nat.le_refl _) 0 (.string (bs (To.k (8 * g + 3))))).set (Nat.le_refl _) 1 (Value.pointer (To.v (8 * g + 3)))
      have hw0 := (hG.frame hf1 hgo hnF).ext x0 hgo'
      refine ⟨h1, _, hw0.w g hlt, ?_⟩
      intro w1 hw1 ho1
      refine (At_any (To.w g) 3 (by omega) w1).mono ?_
      rintro e1 v1 ⟨rfl, hx1, hp1'⟩
      rw [hw1] at hx1
      rw [← To.by_at g (show 3 < 8 by omega)]
      have hX := x0.trans hx1
      refine ⟨hp1'.trans ho1, hx1, _, rfl, fun hb => ?_, fun hb _ => ?_⟩
      · have hk := at_succ To.cell (8 * g + 3)
        rw [To.cell_some (j := 8 * g + 3) (by omega)] at hk
        have hll : (at_ To.cell (8 * g + 3)).length ≤ 8 * g + 3 := at_len _ _
        intro w2 hw2 ho2
        obtain ⟨p, cap, hc, ho⟩ := HT1
        refine (keys1P_any ob base ((at_ To.cell (8 * g + 3)).map (·.1)) (To.k (8 * g + 3)) (To.v (8 * g + 3)) w2 p cap (by rw [hw2]; exact hX.cellsAt hc) (by rw [hw2]; exact ho.ext hX) hob (by rw [hw2]; exact Nat.le_trans hb' hX.le) (by rw [List.length_map]; omega)).mono ?_
        rintro e2 v2 ⟨rfl, hf2, hp2, HK⟩
        rw [hw2] at hf2
        refine ⟨hp2.trans ho2, _, hf2, ⟨by
          rintro (e | ⟨a, ha, e⟩)
          · omega
          · exact ho.ne (Nat.le_refl _) a ha e.symm, trivial⟩, rfl, fun _ => ?_⟩
        exact hN1 (4, v2.heap) ⟨by simp only; omega, (hf1.trans (hX.frame (fun _ => False)) (fun _ h => h) (fun _ _ h => h.elim)).trans hf2 (fun _ h => h) (fun b _ h => h.imp id fun ⟨a, ha, e⟩ => Nat.le_of_not_lt fun hlt => ho.ne_lt hlt a ha e.symm), by show KS _ _ _ (List.map _ (at_ To.cell (8 * g + 3 + 1))); rw [hk]; simpa using HK⟩ (by simp only; omega)
      · have hk := at_succ To.cell (8 * g + 3)
        rw [To.cell_none (j := 8 * g + 3) (by omega)] at hk
        exact hN1 (4, v1.heap) ⟨by simp only; omega, hf1.trans (hX.frame (fun _ => False)) (fun _ h => h) (fun _ _ h => h.elim), by show KS _ _ _ (List.map _ (at_ To.cell (8 * g + 3 + 1))); rw [hk]; simpa using HT1.ext hX⟩ (by simp only; omega)
    · have x0 := (((Ext.refl h').push (.cells #[.string (bs (bytesOf [])), Value.pointer (none : Option Addr)] 148)).set (Nat.le_refl _) 0 (.string (bs (To.k (8 * g + 4))))).set (Nat.le_refl _) 1 (Value.pointer (To.v (8 * g + 4)))
      have hw0 := (hG.frame hf1 hgo hnF).ext x0 hgo'
      refine ⟨h1, _, hw0.w g hlt, ?_⟩
      intro w1 hw1 ho1
      refine (At_any (To.w g) 4 (by omega) w1).mono ?_
      rintro e1 v1 ⟨rfl, hx1, hp1'⟩
      rw [hw1] at hx1
      rw [← To.by_at g (show 4 < 8 by omega)]
      have hX := x0.trans hx1
      refine ⟨hp1'.trans ho1, hx1, _, rfl, fun hb => ?_, fun hb _ => ?_⟩
      · have hk := at_succ To.cell (8 * g + 4)
        rw [To.cell_some (j := 8 * g + 4) (by omega)] at hk
        have hll : (at_ To.cell (8 * g + 4)).length ≤ 8 * g + 4 := at_len _ _
        intro w2 hw2 ho2
        obtain ⟨p, cap, hc, ho⟩ := HT1
        refine (keys1P_any ob base ((at_ To.cell (8 * g + 4)).map (·.1)) (To.k (8 * g + 4)) (To.v (8 * g + 4)) w2 p cap (by rw [hw2]; exact hX.cellsAt hc) (by rw [hw2]; exact ho.ext hX) hob (by rw [hw2]; exact Nat.le_trans hb' hX.le) (by rw [List.length_map]; omega)).mono ?_
        rintro e2 v2 ⟨rfl, hf2, hp2, HK⟩
        rw [hw2] at hf2
        refine ⟨hp2.trans ho2, _, hf2, ⟨by
          rintro (e | ⟨a, ha, e⟩)
          · omega
          · exact ho.ne (Nat.le_refl _) a ha e.symm, trivial⟩, rfl, fun _ => ?_⟩
        exact hN1 (5, v2.heap) ⟨by simp only; omega, (hf1.trans (hX.frame (fun _ => False)) (fun _ h => h) (fun _ _ h => h.elim)).trans hf2 (fun _ h => h) (fun b _ h => h.imp id fun ⟨a, ha, e⟩ => Nat.le_of_not_lt fun hlt => ho.ne_lt hlt a ha e.symm), by show KS _ _ _ (List.map _ (at_ To.cell (8 * g + 4 + 1))); rw [hk]; simpa using HK⟩ (by simp only; omega)
      · have hk := at_succ To.cell (8 * g + 4)
        rw [To.cell_none (j := 8 * g + 4) (by omega)] at hk
        exact hN1 (5, v1.heap) ⟨by simp only; omega, hf1.trans (hX.frame (fun _ => False)) (fun _ h => h) (fun _ _ h => h.elim), by show KS _ _ _ (List.map _ (at_ To.cell (8 * g + 4 + 1))); rw [hk]; simpa using HT1.ext hX⟩ (by simp only; omega)
    · have x0 := (((Ext.refl h').push (.cells #[.string (bs (bytesOf [])), Value.pointer (none : Option Addr)] 148)).set (Nat.le_refl _) 0 (.string (bs (To.k (8 * g + 5))))).set (Nat.le_refl _) 1 (Value.pointer (To.v (8 * g + 5)))
      have hw0 := (hG.frame hf1 hgo hnF).ext x0 hgo'
      refine ⟨h1, _, hw0.w g hlt, ?_⟩
      intro w1 hw1 ho1
      refine (At_any (To.w g) 5 (by omega) w1).mono ?_
      rintro e1 v1 ⟨rfl, hx1, hp1'⟩
      rw [hw1] at hx1
      rw [← To.by_at g (show 5 < 8 by omega)]
      have hX := x0.trans hx1
      refine ⟨hp1'.trans ho1, hx1, _, rfl, fun hb => ?_, fun hb _ => ?_⟩
      · have hk := at_succ To.cell (8 * g + 5)
        rw [To.cell_some (j := 8 * g + 5) (by omega)] at hk
        have hll : (at_ To.cell (8 * g + 5)).length ≤ 8 * g + 5 := at_len _ _
        intro w2 hw2 ho2
        obtain ⟨p, cap, hc, ho⟩ := HT1
        refine (keys1P_any ob base ((at_ To.cell (8 * g + 5)).map (·.1)) (To.k (8 * g + 5)) (To.v (8 * g + 5)) w2 p cap (by rw [hw2]; exact hX.cellsAt hc) (by rw [hw2]; exact ho.ext hX) hob (by rw [hw2]; exact Nat.le_trans hb' hX.le) (by rw [List.length_map]; omega)).mono ?_
        rintro e2 v2 ⟨rfl, hf2, hp2, HK⟩
        rw [hw2] at hf2
        refine ⟨hp2.trans ho2, _, hf2, ⟨by
          rintro (e | ⟨a, ha, e⟩)
          · omega
          · exact ho.ne (Nat.le_refl _) a ha e.symm, trivial⟩, rfl, fun _ => ?_⟩
        exact hN1 (6, v2.heap) ⟨by simp only; omega, (hf1.trans (hX.frame (fun _ => False)) (fun _ h => h) (fun _ _ h => h.elim)).trans hf2 (fun _ h => h) (fun b _ h => h.imp id fun ⟨a, ha, e⟩ => Nat.le_of_not_lt fun hlt => ho.ne_lt hlt a ha e.symm), by show KS _ _ _ (List.map _ (at_ To.cell (8 * g + 5 + 1))); rw [hk]; simpa using HK⟩ (by simp only; omega)
      · have hk := at_succ To.cell (8 * g + 5)
        rw [To.cell_none (j := 8 * g + 5) (by omega)] at hk
        exact hN1 (6, v1.heap) ⟨by simp only; omega, hf1.trans (hX.frame (fun _ => False)) (fun _ h => h) (fun _ _ h => h.elim), by show KS _ _ _ (List.map _ (at_ To.cell (8 * g + 5 + 1))); rw [hk]; simpa using HT1.ext hX⟩ (by simp only; omega)
    · have x0 := (((Ext.refl h').push (.cells #[.string (bs (bytesOf [])), Value.pointer (none : Option Addr)] 148)).set (Nat.le_refl _) 0 (.string (bs (To.k (8 * g + 6))))).set (Nat.le_refl _) 1 (Value.pointer (To.v (8 * g + 6)))
      have hw0 := (hG.frame hf1 hgo hnF).ext x0 hgo'
      refine ⟨h1, _, hw0.w g hlt, ?_⟩
      intro w1 hw1 ho1
      refine (At_any (To.w g) 6 (by omega) w1).mono ?_
      rintro e1 v1 ⟨rfl, hx1, hp1'⟩
      rw [hw1] at hx1
      rw [← To.by_at g (show 6 < 8 by omega)]
      have hX := x0.trans hx1
      refine ⟨hp1'.trans ho1, hx1, _, rfl, fun hb => ?_, fun hb _ => ?_⟩
      · have hk := at_succ To.cell (8 * g + 6)
        rw [To.cell_some (j := 8 * g + 6) (by omega)] at hk
        have hll : (at_ To.cell (8 * g + 6)).length ≤ 8 * g + 6 := at_len _ _
        intro w2 hw2 ho2
        obtain ⟨p, cap, hc, ho⟩ := HT1
        refine (keys1P_any ob base ((at_ To.cell (8 * g + 6)).map (·.1)) (To.k (8 * g + 6)) (To.v (8 * g + 6)) w2 p cap (by rw [hw2]; exact hX.cellsAt hc) (by rw [hw2]; exact ho.ext hX) hob (by rw [hw2]; exact Nat.le_trans hb' hX.le) (by rw [List.length_map]; omega)).mono ?_
        rintro e2 v2 ⟨rfl, hf2, hp2, HK⟩
        rw [hw2] at hf2
        refine ⟨hp2.trans ho2, _, hf2, ⟨by
          rintro (e | ⟨a, ha, e⟩)
          · omega
          · exact ho.ne (Nat.le_refl _) a ha e.symm, trivial⟩, rfl, fun _ => ?_⟩
        exact hN1 (7, v2.heap) ⟨by simp only; omega, (hf1.trans (hX.frame (fun _ => False)) (fun _ h => h) (fun _ _ h => h.elim)).trans hf2 (fun _ h => h) (fun b _ h => h.imp id fun ⟨a, ha, e⟩ => Nat.le_of_not_lt fun hlt => ho.ne_lt hlt a ha e.symm), by show KS _ _ _ (List.map _ (at_ To.cell (8 * g + 6 + 1))); rw [hk]; simpa using HK⟩ (by simp only; omega)
      · have hk := at_succ To.cell (8 * g + 6)
        rw [To.cell_none (j := 8 * g + 6) (by omega)] at hk
        exact hN1 (7, v1.heap) ⟨by simp only; omega, hf1.trans (hX.frame (fun _ => False)) (fun _ h => h) (fun _ _ h => h.elim), by show KS _ _ _ (List.map _ (at_ To.cell (8 * g + 6 + 1))); rw [hk]; simpa using HT1.ext hX⟩ (by simp only; omega)
    · have x0 := (((Ext.refl h').push (.cells #[.string (bs (bytesOf [])), Value.pointer (none : Option Addr)] 148)).set (Nat.le_refl _) 0 (.string (bs (To.k (8 * g + 7))))).set (Nat.le_refl _) 1 (Value.pointer (To.v (8 * g + 7)))
      have hw0 := (hG.frame hf1 hgo hnF).ext x0 hgo'
      refine ⟨h1, _, hw0.w g hlt, ?_⟩
      intro w1 hw1 ho1
      refine (At_any (To.w g) 7 (by omega) w1).mono ?_
      rintro e1 v1 ⟨rfl, hx1, hp1'⟩
      rw [hw1] at hx1
      rw [← To.by_at g (show 7 < 8 by omega)]
      have hX := x0.trans hx1
      refine ⟨hp1'.trans ho1, hx1, _, rfl, fun hb => ?_, fun hb _ => ?_⟩
      · have hk := at_succ To.cell (8 * g + 7)
        rw [To.cell_some (j := 8 * g + 7) (by omega)] at hk
        have hll : (at_ To.cell (8 * g + 7)).length ≤ 8 * g + 7 := at_len _ _
        intro w2 hw2 ho2
        obtain ⟨p, cap, hc, ho⟩ := HT1
        refine (keys1P_any ob base ((at_ To.cell (8 * g + 7)).map (·.1)) (To.k (8 * g + 7)) (To.v (8 * g + 7)) w2 p cap (by rw [hw2]; exact hX.cellsAt hc) (by rw [hw2]; exact ho.ext hX) hob (by rw [hw2]; exact Nat.le_trans hb' hX.le) (by rw [List.length_map]; omega)).mono ?_
        rintro e2 v2 ⟨rfl, hf2, hp2, HK⟩
        rw [hw2] at hf2
        refine ⟨hp2.trans ho2, _, hf2, ⟨by
          rintro (e | ⟨a, ha, e⟩)
          · omega
          · exact ho.ne (Nat.le_refl _) a ha e.symm, trivial⟩, rfl, fun _ => ?_⟩
        exact hN1 (8, v2.heap) ⟨by simp only; omega, (hf1.trans (hX.frame (fun _ => False)) (fun _ h => h) (fun _ _ h => h.elim)).trans hf2 (fun _ h => h) (fun b _ h => h.imp id fun ⟨a, ha, e⟩ => Nat.le_of_not_lt fun hlt => ho.ne_lt hlt a ha e.symm), by show KS _ _ _ (List.map _ (at_ To.cell (8 * g + 7 + 1))); rw [hk]; simpa using HK⟩ (by simp only; omega)
      · have hk := at_succ To.cell (8 * g + 7)
        rw [To.cell_none (j := 8 * g + 7) (by omega)] at hk
        exact hN1 (8, v1.heap) ⟨by simp only; omega, hf1.trans (hX.frame (fun _ => False)) (fun _ h => h) (fun _ _ h => h.elim), by show KS _ _ _ (List.map _ (at_ To.cell (8 * g + 7 + 1))); rw [hk]; simpa using HT1.ext hX⟩ (by simp only; omega)
    · exact ⟨by omega, fun _ => hN (g + 1, h') ⟨hlt, hf1, HT1⟩ (by simp only; omega)⟩
  · obtain rfl : g = To.n := by omega
    exact ⟨trivial, by rw [hw1]; exact hf, ho1, by rw [hw1]; exact HT⟩
theorem tKeysP_any (seed : Int) (T : Tb (Option Addr)) (tb gb : Nat) (w : World) (H : TabAt Value.pointer w.heap tb gb seed T) :
    Calls Tryz.prog 127 #[.pointer (some ⟨tb, 0, none⟩)] w (KeysR (T.full.map (·.1)) w.heap (outw w)) := by
  refine begins (k127 {}) [.ptr (.at (.v 0) (.c 0))] [(.v 0, .c 0, [.int .u64 (.v 0), .slice (.at (.v 1) (.c 0)) (.v 2) (.v 2), .int .i64 (.ofN (.v 3)), .int .i64 (.ofN (.v 4))])]
    { n := fun j => if j = 0 then tb else if j = 1 then gb else if j = 2 then T.n else if j = 3 then T.full.length else T.dels, i := fun _ => seed, h := fun _ => w.heap, o := outw w } 5 1000 rfl rfl rfl
    ⟨by simpa [NE.den, SV.den, IE.den, PE.den] using H.hd, trivial, trivial⟩ (by simp [SV.den, NE.den, PE.den]) ?_
  conv => arg 7; reduce
  simp only [VC.den, IE.den, NE.den, SV.den, HE.den, PE.den, WS.den, WI.den, noneIn, List.map_cons, List.map_nil, reduceIte, Nat.reduceEqDiff, Env.setE, Env.setH, Env.setN, Env.setP, Env.setW]
  intro hob w1 hw1 ho1
  have hgl := H.gl
  have htl := H.tl
  have hG := H.gr.ext (ext_push w.heap (.cells #[.slice none 0 0] 50)) hgl
  refine (eachKP_any T w.heap.size (w.heap.size + 1) gb w1 (by rw [hw1]; exact hG) H.few (by rw [hw1]; simp; omega) (by omega) (by omega) (by omega) (by rw [hw1]; simp) ⟨none, 0, by rw [hw1]; exact hob, Own.nil _ _ _⟩).mono ?_
  rintro e1 v1 ⟨rfl, hf1, hp1, p, cap, hc, ho⟩
  rw [hw1] at hf1
  refine ⟨hp1.trans ho1, _, hf1, ⟨by rintro (e | e) <;> omega, trivial⟩, rfl, _, _, _, hc.at0 (j := 0) rfl, ?_⟩
  exact fun _ hf w2 hw2 ho2 => ⟨p, cap, rfl, by rw [hw2]; exact ho.row, by rw [hw2]; exact hf.ext fun n hn h => by simp only [or_false] at h; omega, ho2⟩
theorem nkeysP_any (nb lb tb gb : Nat) (seed : Int) (T : Tb (Option Addr)) (w : World) (_hnl : nb ≠ lb)
    (hn : CellsAt w.heap nb 0 [.int .i64 0, .slice (some ⟨lb, 0, none⟩) 1 1]) (hl : CellsAt w.heap lb 0 [.pointer (some ⟨tb, 0, none⟩)]) (HT : TabAt Value.pointer w.heap tb gb seed T) :
    Calls Tryz.prog 99 #[.pointer (some ⟨nb, 0, none⟩)] w (KeysR (T.full.map (·.1)) w.heap (outw w)) := by
  refine begins (k99 {}) [.ptr (.at (.v 0) (.c 0))] [(.v 0, .c 0, [.int .i64 (.c 0), .slice (.at (.v 1) (.c 0)) (.c 1) (.c 1)])]
    { n := fun j => if j = 0 then nb else lb, h := fun _ => w.heap, o := outw w } 3 1000 rfl rfl rfl
    ⟨by simpa [NE.den, SV.den, IE.den, PE.den] using hn, trivial, trivial⟩ (by simp [SV.den, NE.den, PE.den]) ?_
  conv => arg 7; reduce
  simp only [VC.den, IE.den, NE.den, SV.den, HE.den, PE.den, WS.den, List.map_cons, List.map_nil, Int.cast_ofNat_Int, reduceIte, Nat.reduceEqDiff]
  intro _ _
  have hlen : (T.full.map (·.1)).length ≤ 16 := by
    have h1 := T.full_le
    have h2 := HT.few
    rw [List.length_map]; omega
  refine looping (k99 {}) [.slice (.v 0) (.v 0) (.v 1), .slice (.at (.v 2) (.c 0)) (.c 1) (.c 1), .int .i64 (.c 1), .int .i64 (.ofN (.v 3))] []
    (fun y : Nat × List Key × Option Addr × Nat × Heap => { n := fun j => if j = 0 then y.2.1.length else if j = 1 then y.2.2.2.1 else if j = 2 then lb else y.1, p := fun _ => y.2.2.1, h := fun _ => y.2.2.2.2, o := outw w }) 4 1000
    (fun y => y.1 ≤ 1 ∧ Ext w.heap y.2.2.2.2 ∧ (y.1 = 0 ∧ y.2.1 = [] ∧ y.2.2.1 = none ∧ y.2.2.2.1 = 0 ∨ y.1 = 1 ∧ y.2.1 = T.full.map (·.1) ∧ row y.2.2.2.2 y.2.2.1 (strs y.2.1))) (fun y => 1 - y.1) (0, [], none, 0, w.heap) ⟨by simp, Ext.refl _, .inl ⟨rfl, rfl, rfl, rfl⟩⟩ rfl (by simp [SV.den, IE.den, NE.den, PE.den]) rfl (fun _ => rfl) (fun _ _ => trivial) ?_
  rintro ⟨i, l, p, cap, h⟩ ⟨hi, hx, hst⟩ N hN
  simp only at hi hx hst
  simp only [SV.den, PE.den, NE.den, IE.den, List.map_cons, List.map_nil, reduceIte, Nat.reduceEqDiff] at hN
  conv => arg 7; reduce
  simp only [VC.den, BE.prop, IE.den, NE.den, SV.den, HE.den, PE.den, WS.den, WI.den, List.map_cons, List.map_nil, Int.cast_ofNat_Int, reduceIte, Nat.reduceEqDiff, Env.setE, Env.setH, Env.setN, Env.setP, inK_i64]
  refine ⟨fun h1 => ?_, fun h1 _ w1 hw1 ho1 => ?_⟩
  · rcases hst with ⟨rfl, rfl, rfl, rfl⟩ | ⟨h2, _⟩
    · refine ⟨h1, _, (hx.cellsAt hl).at0 (j := 0) rfl, fun w1 hw1 ho1 => ?_⟩
      refine (tKeysP_any seed T tb gb w1 (by rw [hw1]; exact HT.ext hx)).mono ?_
      rintro e1 v1 ⟨q, qc, rfl, hr, hx1, hp1⟩
      rw [hw1] at hx1
      refine ⟨hp1.trans ho1, hx1, q, _, qc, rfl, [], _, app_one v1.heap 0 _ q qc (by omega) hr, fun h' p' c' ha => ⟨by omega, fun _ => ?_⟩⟩
      have o1 := (Own.nil v1.heap v1.heap.size 1).next (n := 0) (m := (T.full.map (·.1)).length) rfl (by simp [strs_length]) (Nat.le_refl _) ha
      have x1 := (Own.nil v1.heap v1.heap.size 1).keep (Nat.le_refl _) (Ext.refl _) ha
      have := hN (1, T.full.map (·.1), p', c', h') ⟨Nat.le_refl _, (hx.trans hx1).trans x1, .inr ⟨rfl, rfl, by simpa using o1.row⟩⟩ (by simp)
      simp only [List.length_nil, Nat.zero_add] at this ⊢
      exact this
    · omega
  · rcases hst with ⟨h2, _⟩ | ⟨_, rfl, h2⟩
    · omega
    · exact ⟨p, cap, rfl, by rw [hw1]; exact h2, by rw [hw1]; exact hx, ho1⟩
end Go.Proofs.YtkcjhabbgaaknaaGreat
/- A scan of a dict that has one node. -/
namespace Go.Proofs.YtkcjhabbgaaknaaGreat
open E
set_option maxRecDepth 100000
theorem cBucket_any (x : Int) (w : World) : Calls Tryz.prog 98 #[.int .u64 x, .int .i64 0] w (RetX (.int .u64 0) w.heap (outw w)) := by
  refine begins (k98 {}) [.int .u64 (.v 0), .int .i64 (.c 0)] [] { i := fun _ => x, h := fun _ => w.heap, o := outw w } 1 1000 rfl rfl rfl trivial (by simp [SV.den, IE.den]) ?_
  conv => arg 7; reduce
  simp only [VC.den, IE.den, SV.den, HE.den, WS.den, List.map_cons, List.map_nil, Int.cast_ofNat_Int, reduceIte, Nat.reduceEqDiff, Env.setE, Env.setH, Env.setI]
  intro w1 hw1 ho1
  refine (Low_any x _).mono ?_
  rintro e1 v1 ⟨rfl, hx1, hp1⟩
  rw [hw1] at hx1
  refine ⟨hp1.trans ho1, hx1, ?_⟩
  refine ⟨_, rfl, ?_⟩
  exact (fun hf wr hwr hor => ⟨rfl, by rw [hwr]; exact hf.none, hor⟩)
theorem cdepth_any (w : World) : Calls Tryz.prog 100 #[.int .i64 0] w (RetX (.int .i64 0) w.heap (outw w)) := by
  refine begins (k100 {}) [.int .i64 (.c 0)] [] { h := fun _ => w.heap, o := outw w } 1 1000 rfl rfl rfl trivial (by simp [SV.den, IE.den]) ?_
  conv => arg 7; reduce
  simp only [VC.den, IE.den, SV.den, HE.den, WS.den, Int.cast_ofNat_Int]
  have e : min (max (0 : Int) 0) 16 = 0 := by decide
  rw [e]
  exact (fun hf wr hwr hor => ⟨rfl, by rw [hwr]; exact hf.none, hor⟩)
theorem turned_any (x : Int) (w : World) : Calls Tryz.prog 101 #[.int .u64 x, .int .i64 0] w (RetX (.int .u64 0) w.heap (outw w)) := by
  refine begins (k101 {}) [.int .u64 (.v 0), .int .i64 (.v 1)] [] { i := fun j => if j = 0 then x else 0, h := fun _ => w.heap, o := outw w } 2 1000 rfl rfl rfl trivial (by simp [SV.den, IE.den]) ?_
  conv => arg 7; reduce
  simp only [VC.den, BE.prop, IE.den, NE.den, SV.den, HE.den, WS.den, List.map_cons, List.map_nil, Int.cast_ofNat_Int, reduceIte, Nat.reduceEqDiff, Env.setE, Env.setH, Env.setI, inK_i64]
  refine ⟨fun _ => ?_, fun h => absurd trivial h⟩
  exact (fun hf wr hwr hor => ⟨rfl, by rw [hwr]; exact hf.none, hor⟩)
theorem Next_any (x : Int) (w : World) : Calls Tryz.prog 68 #[.int .u64 x, .int .i64 0] w (RetX (.int .u64 0) w.heap (outw w)) := by
  refine begins (k68 {}) [.int .u64 (.v 0), .int .i64 (.c 0)] [] { i := fun _ => x, h := fun _ => w.heap, o := outw w } 1 1000 rfl rfl rfl trivial (by simp [SV.den, IE.den]) ?_
  conv => arg 7; reduce
  simp only [VC.den, IE.den, SV.den, HE.den, WS.den, List.map_cons, List.map_nil, Int.cast_ofNat_Int, reduceIte, Nat.reduceEqDiff, Env.setE, Env.setH, Env.setI]
  intro w1 hw1 ho1
  refine (cdepth_any _).mono ?_
  rintro e1 v1 ⟨rfl, hx1, hp1⟩
  rw [hw1] at hx1
  refine ⟨hp1.trans ho1, hx1, ?_⟩
  refine ⟨_, rfl, ?_⟩
  intro w2 hw2 ho2
  refine (turned_any x _).mono ?_
  rintro e2 v2 ⟨rfl, hx2, hp2⟩
  rw [hw2] at hx2
  refine ⟨hp2.trans ho2, hx2, ?_⟩
  refine ⟨_, rfl, ?_⟩
  intro w3 hw3 ho3
  refine (turned_any _ _).mono ?_
  rintro e3 v3 ⟨rfl, hx3, hp3⟩
  rw [hw3] at hx3
  refine ⟨hp3.trans ho3, hx3, ?_⟩
  refine ⟨_, rfl, ?_⟩
  exact (fun hf wr hwr hor => ⟨rfl, by rw [hwr]; exact hf.none, hor⟩)
theorem Bucket_any (d db nb lb tb gb : Nat) (seed : Int) (M : List (Key × Option Addr)) (x : Int) (w : World) (H : DctP w.heap d db nb lb tb gb seed M) :
    Calls Tryz.prog 67 #[.pointer (some ⟨d, 0, none⟩), .int .u64 x] w fun e w' => ∃ l : List Key, l.Perm (M.map (·.1)) ∧ KeysR l w.heap (outw w) e w' := by
  obtain ⟨T, HT, hpm⟩ := H.tab
  have hne := H.ne
  simp only [List.nodup_cons, List.mem_cons, List.not_mem_nil, or_false, not_or, List.nodup_nil, and_true, not_false_eq_true] at hne
  refine begins (k67 {}) [.ptr (.at (.v 0) (.c 0)), .int .u64 (.v 1)] [(.v 0, .c 0, [.int .u64 (.v 0), .int .i64 (.c 0), .slice (.at (.v 1) (.c 0)) (.c 1) (.c 1), .int .i64 (.ofN (.v 2))])]
    { n := fun j => if j = 0 then d else if j = 1 then db else M.length, i := fun j => if j = 0 then seed else x, h := fun _ => w.heap, o := outw w } 3 1000 rfl rfl rfl
    ⟨by simpa [NE.den, SV.den, IE.den, PE.den] using H.dc, trivial, trivial⟩ (by simp [SV.den, IE.den, NE.den, PE.den]) ?_
  conv => arg 7; reduce
  simp only [VC.den, BE.prop, IE.den, NE.den, SV.den, HE.den, PE.den, WS.den, List.map_cons, List.map_nil, Int.cast_ofNat_Int, reduceIte, Nat.reduceEqDiff, Env.setE, Env.setH, Env.setI, Env.setN, Env.setP]
  intro w1 hw1 ho1
  refine (cBucket_any x w1).mono ?_
  rintro e1 v1 ⟨rfl, hx1, hp1⟩
  rw [hw1] at hx1
  refine ⟨hp1.trans ho1, hx1, _, rfl, by omega, by omega, _, (hx1.cellsAt H.bc).at0 (j := 0) rfl, fun w2 hw2 ho2 => ?_⟩
  refine (nkeysP_any nb lb tb gb seed T w2 hne.2.2.1.1 (by rw [hw2]; exact hx1.cellsAt H.nc) (by rw [hw2]; exact hx1.cellsAt H.lc) (by rw [hw2]; exact HT.ext hx1)).mono ?_
  rintro e2 v2 ⟨p, cap, rfl, hr, hx2, hp2⟩
  rw [hw2] at hx2
  refine ⟨hp2.trans ho2, hx2, p, _, cap, rfl, ?_⟩
  have hX := hx1.trans hx2
  have hlen : (T.full.map (·.1)).length ≤ 16 := by
    have h1 := T.full_le
    have h2 := HT.few
    rw [List.length_map]; omega
  have hkl : ∀ k ∈ T.full.map (·.1), k.length ≤ 9223372036854775807 := fun k hk => by
    obtain ⟨y, hy, rfl⟩ := List.mem_map.1 hk
    exact HT.kl y hy
  have hpl := hpm.map (·.1)
  generalize T.full.map (·.1) = l at *
  intro hc0 _
  refine looping (k67 {}) [.ptr (.at (.v 0) (.c 0)), .int .u64 (.c 0), .slice (.v 0) (.v 3) (.v 4), .slice (.v 1) (.v 5) (.v 6), .int .i64 (.ofN (.v 5)), .int .i64 (.ofN (.v 3))] [(.v 0, .c 0, [.int .u64 (.v 0), .int .i64 (.c 0), .slice (.at (.v 1) (.c 0)) (.c 1) (.c 1), .int .i64 (.ofN (.v 2))])]
    (fun y : Nat × Option Addr × Nat × Heap => { n := fun j => if j = 0 then d else if j = 1 then db else if j = 2 then M.length else if j = 3 then y.1 else if j = 4 then y.2.2.1 else if j = 5 then l.length else cap, i := fun j => seed, p := fun j => if j = 0 then y.2.1 else p, h := fun _ => y.2.2.2, o := outw w }) 7 1000
    (fun y => y.1 ≤ l.length ∧ Ext v2.heap y.2.2.2 ∧ Own y.2.2.2 v2.heap.size y.2.1 y.2.2.1 1 (strs (l.take y.1))) (fun y => l.length - y.1) (0, none, 0, v2.heap) ⟨Nat.zero_le _, Ext.refl _, by exact Own.nil v2.heap v2.heap.size 1⟩ rfl (by simp [SV.den, IE.den, NE.den, PE.den]) rfl (fun _ => rfl)
    (fun y hy => ⟨by simpa [NE.den, SV.den, IE.den, PE.den] using hy.2.1.cellsAt hc0, trivial, trivial⟩) ?_
  rintro ⟨i, q, qc, h⟩ ⟨hi, hx, hown⟩ N hN
  simp only at hi hx hown
  simp only [SV.den, PE.den, NE.den, IE.den, List.map_cons, List.map_nil, reduceIte, Nat.reduceEqDiff] at hN
  conv => arg 7; reduce
  simp only [VC.den, BE.prop, IE.den, NE.den, SE.den, SV.den, HE.den, PE.den, WS.den, WI.den, List.map_cons, List.map_nil, Int.cast_ofNat_Int, reduceIte, Nat.reduceEqDiff, Env.setE, Env.setH, Env.setS, Env.setI, Env.setN, Env.setP, inK_i64]
  refine ⟨fun h1 => ?_, fun h1 _ _ w3 hw3 ho3 => ?_⟩
  · have hlt : i < l.length := by omega
    obtain ⟨b, o, rfl, g0⟩ := strs_at (hx.row hr) hlt
    refine ⟨b, o, rfl, h1, _, g0, fun w3 hw3 ho3 => ?_⟩
    refine (Of_any seed l[i] w3 (hkl _ (List.getElem_mem hlt))).mono ?_
    rintro e3 v3 ⟨rfl, hx3, hp3⟩
    rw [hw3] at hx3
    refine ⟨hp3.trans ho3, hx3, _, rfl, fun w4 hw4 ho4 => ?_⟩
    refine (cBucket_any _ w4).mono ?_
    rintro e4 v4 ⟨rfl, hx4, hp4⟩
    rw [hw4] at hx4
    have hX4 := hx3.trans hx4
    have o0 := (hown.ext hX4).ext (ext_push v4.heap (.cells #[.string (bs l[i])] 9))
    have hlen' : (strs (l.take i)).length = i := by rw [strs_length, List.length_take]; omega
    refine ⟨hp4.trans ho4, hx4, _, rfl, fun _ => ⟨(hown.ext hX4).ne (Nat.le_refl _), hown.ne_lt hc0.1, _, o0.app (by rw [hlen']; omega) (by omega) (by omega), fun h' p' c' ha => ⟨by omega, fun _ _ => ?_⟩⟩, fun h => absurd rfl h⟩
    have o1 := o0.next (by rw [hlen']; omega) rfl (Nat.le_trans hx.le (hX4.trans (ext_push _ _)).le) ha
    have x1 := o0.keep (h0 := v2.heap) (Nat.le_refl _) (hx.trans (hX4.trans (ext_push _ _))) ha
    rw [← strs_snoc, ← List.take_succ_eq_append_getElem hlt] at o1
    exact hN (i + 1, p', c', h') ⟨hlt, x1, o1⟩ (by simp only; omega)
  · obtain rfl : i = l.length := by omega
    rw [List.take_length] at hown
    exact ⟨l, hpl, q, qc, rfl, by rw [hw3]; exact hown.row, by rw [hw3]; exact hX.trans hx, ho3⟩
theorem dScan_any (d db nb lb tb gb : Nat) (seed : Int) (M : List (Key × Option Addr)) (x : Int) (w : World) (H : DctP w.heap d db nb lb tb gb seed M) (hM : M.length ≤ 100) :
    Calls Tryz.prog 39 #[.pointer (some ⟨d, 0, none⟩), .int .u64 x, .int .i64 3] w fun e w' => ∃ l p cap, l.Perm (M.map (·.1)) ∧ e = .returned (.tuple #[.slice p l.length cap, .int .u64 0]) ∧ row w'.heap p (strs l) ∧ Ext w.heap w'.heap ∧ outw w' = outw w := by
  refine begins (k39 {}) [.ptr (.at (.v 0) (.c 0)), .int .u64 (.v 1), .int .i64 (.c 3)] [(.v 0, .c 0, [.int .u64 (.v 0), .int .i64 (.c 0), .slice (.at (.v 1) (.c 0)) (.c 1) (.c 1), .int .i64 (.ofN (.v 2))])]
    { n := fun j => if j = 0 then d else if j = 1 then db else M.length, i := fun j => if j = 0 then seed else x, h := fun _ => w.heap, o := outw w } 3 1000 rfl rfl rfl
    ⟨by simpa [NE.den, SV.den, IE.den, PE.den] using H.dc, trivial, trivial⟩ (by simp [SV.den, IE.den, NE.den, PE.den]) ?_
  conv => arg 7; reduce
  simp only [VC.den, BE.prop, IE.den, NE.den, SV.den, HE.den, PE.den, WS.den, List.map_cons, List.map_nil, Int.cast_ofNat_Int, reduceIte, Nat.reduceEqDiff, inK_i64]
  refine ⟨by decide, ?_⟩
  intro hc0 _
  refine looping (k39 {}) [.ptr (.at (.v 0) (.c 0)), .int .u64 (.v 1), .int .i64 (.c 3), .slice .nil (.c 0) (.c 0), .int .i64 (.c 30), .int .i64 (.c 0)] [(.v 0, .c 0, [.int .u64 (.v 0), .int .i64 (.c 0), .slice (.at (.v 1) (.c 0)) (.c 1) (.c 1), .int .i64 (.ofN (.v 2))])]
    (fun y : Unit => { n := fun j => if j = 0 then d else if j = 1 then db else M.length, i := fun j => if j = 0 then seed else x, h := fun _ => w.heap, o := outw w }) 7 1000
    (fun _ => True) (fun _ => 0) () trivial rfl (by simp [SV.den, IE.den, NE.den, PE.den]; decide) rfl (fun _ => rfl) (fun _ _ => ⟨by simpa [NE.den, SV.den, IE.den, PE.den] using hc0, trivial, trivial⟩) ?_
  rintro _ _ N hN
  conv => arg 7; reduce
  simp only [VC.den, BE.prop, IE.den, NE.den, SV.den, HE.den, PE.den, WS.den, List.map_cons, List.map_nil, Int.cast_ofNat_Int, reduceIte, Nat.reduceEqDiff, Env.setE, Env.setH, Env.setI, Env.setN, Env.setP]
  intro _ w1 hw1 ho1
  refine (Bucket_any d db nb lb tb gb seed M x w1 (by rw [hw1]; exact H)).mono ?_
  rintro e1 v1 ⟨l, hlp, p, cap, rfl, hr, hx1, hp1⟩
  rw [hw1] at hx1
  have hll : l.length ≤ 100 := by rw [hlp.length_eq, List.length_map]; exact hM
  refine ⟨hp1.trans ho1, hx1, p, _, cap, rfl, [], _, app_one v1.heap 0 l p cap (by omega) hr, fun h' p' c' ha w2 hw2 ho2 => ?_⟩
  have o1 := (Own.nil v1.heap v1.heap.size 1).next (n := 0) (m := l.length) rfl (by simp [strs_length]) (Nat.le_refl _) ha
  have x1 := (Own.nil v1.heap v1.heap.size 1).keep (Nat.le_refl _) (Ext.refl _) ha
  rw [List.nil_append] at o1
  refine (Next_any x w2).mono ?_
  rintro e2 v2 ⟨rfl, hx2, hp2⟩
  rw [hw2] at hx2
  exact ⟨hp2.trans ho2, hx2, _, rfl, fun _ _ _ w3 hw3 ho3 => ⟨l, p', c', hlp, rfl, by rw [hw3]; exact hx2.row o1.row, by rw [hw3]; exact hx1.trans (x1.trans hx2), ho3⟩, fun h => absurd (.inl rfl) h⟩
end Go.Proofs.YtkcjhabbgaaknaaGreat
/- A scan of a space in which nothing ends. -/
namespace Go.Proofs.YtkcjhabbgaaknaaGreat
open E
set_option maxRecDepth 100000
theorem scan1_any (Z : Nat → Prop) (K : List Key) (sb : Nat) (md : List (Key × Option Addr)) (me : List (Key × Int)) (key : Key) (now : Int) (b1 b2 : Nat) (a : Addr) (w : World) (H : SpS Z K w.heap sb md me) (hs : key.length ≤ 9223372036854775807) (hl : ∀ x ∈ me, now < x.2) (hin : (key, some a) ∈ md)
    (h1 : CellsAt w.heap b1 0 [.pointer (some ⟨sb, 0, none⟩)]) (h2 : CellsAt w.heap b2 0 [.int .i64 now]) (hne : b1 ≠ b2) :
    Calls Tryz.prog 41 #[.string (bs key), .pointer (some ⟨b1, 0, none⟩), .pointer (some ⟨b2, 0, none⟩)] w (RetX (.bool false) w.heap (outw w)) := by
  refine begins (k41 {}) [.str (.v 0), .ptr (.at (.v 0) (.c 0)), .ptr (.at (.v 1) (.c 0))] [(.v 0, .c 0, [.ptr (.at (.v 2) (.c 0))]), (.v 1, .c 0, [.int .i64 (.v 0)])] { n := fun j => if j = 0 then b1 else if j = 1 then b2 else sb, i := fun _ => now, s := fun _ => key, h := fun _ => w.heap, o := outw w } 3 1000 rfl rfl rfl
    ⟨by simpa [NE.den, SV.den, PE.den] using h1, ⟨by simpa [NE.den] using hne, trivial⟩, by simpa [NE.den, SV.den, IE.den] using h2, trivial, trivial⟩ (by simp [SV.den, SE.den, NE.den, PE.den]) ?_
  conv => arg 7; reduce
  simp only [VC.den, IE.den, NE.den, SE.den, SV.den, HE.den, PE.den, BE.den, WS.den, WI.den, noneIn, List.map_cons, List.map_nil, reduceIte, Nat.reduceEqDiff, Env.setE, Env.setH, Env.setB, Env.setW]
  intro w1 hw1 ho1
  refine (there_live Z K sb md me key now w1 (by rw [hw1]; exact H) hs hl).mono ?_
  rintro e1 v1 ⟨b, p, ok, rfl, hH, hb, hx1, hp1⟩
  rw [hw1] at hx1
  have hp := here H.nd.1 hin hH
  have hbt : b = true := hb.2 (by rw [hp]; simp)
  subst hbt
  refine ⟨hp1.trans ho1, _, hx1.frame (fun _ => False), ⟨id, id, trivial⟩, _, rfl, fun _ _ _ w2 hw2 ho2 => ⟨rfl, by rw [hw2]; exact hx1, ho2⟩⟩
theorem indexF_any (f : Nat) (cs : List Value) (l : List Key) (p : Option Addr) (cap : Nat) (w : World) (hen : enters Tryz.prog f = true) (hr : row w.heap p (strs l)) (hl : l.length ≤ 9223372036854775807)
    (hclo : ∀ k ∈ l, ∀ w1 : World, Ext w.heap w1.heap → Calls Tryz.prog f (.string (bs k) :: cs).toArray w1 (RetX (.bool false) w1.heap (outw w1))) :
    Calls Tryz.prog 69 #[.slice p l.length cap, cloVal (some (f, cs))] w (RetX (.int .i64 (-1)) w.heap (outw w)) := by
  refine begins (k69 {}) [.slice (.v 0) (.v 0) (.v 1), .clo 0] [] { p := fun _ => p, n := fun j => if j = 0 then l.length else cap, c := fun _ => some (f, cs), h := fun _ => w.heap, o := outw w } 2 1000 rfl rfl rfl trivial (by simp [SV.den, PE.den, NE.den]) ?_
  conv => arg 7; reduce
  simp only [VC.den, IE.den, NE.den, SV.den, HE.den, PE.den, WS.den, List.map_cons, List.map_nil, Int.cast_ofNat_Int, reduceIte, Nat.reduceEqDiff]
  intro _
  refine looping (k69 {}) [.slice (.v 0) (.v 0) (.v 1), .clo 0, .int .i64 (.ofN (.v 0)), .int .i64 (.ofN (.v 2))] []
    (fun y : Nat × Heap => { p := fun _ => p, n := fun j => if j = 0 then l.length else if j = 1 then cap else y.1, c := fun _ => some (f, cs), h := fun _ => y.2, o := outw w }) 3 1000
    (fun y => y.1 ≤ l.length ∧ Ext w.heap y.2) (fun y => l.length - y.1) (0, w.heap) ⟨Nat.zero_le _, Ext.refl _⟩ rfl (by simp [SV.den, IE.den, NE.den, PE.den]) rfl (fun _ => rfl) (fun _ _ => trivial) ?_
  rintro ⟨i, h⟩ ⟨hi, hx⟩ N hN
  simp only at hi hx
  simp only [SV.den, PE.den, NE.den, IE.den, List.map_cons, List.map_nil, reduceIte, Nat.reduceEqDiff] at hN
  conv => arg 7; reduce
  simp only [VC.den, BE.prop, IE.den, NE.den, SE.den, SV.den, HE.den, PE.den, BE.den, WS.den, List.map_cons, List.map_nil, List.cons_append, List.nil_append, Int.cast_ofNat_Int, reduceIte, Nat.reduceEqDiff, Env.setE, Env.setH, Env.setB, Env.setS, Env.setN, inK_i64]
  refine ⟨fun h1 => ?_, fun h1 _ w1 hw1 ho1 => ⟨rfl, by rw [hw1]; exact hx, ho1⟩⟩
  have hlt : i < l.length := by omega
  obtain ⟨b, o, rfl, g0⟩ := strs_at (hx.row hr) hlt
  refine ⟨b, o, rfl, h1, _, g0, f, cs, rfl, hen, fun w1 hw1 ho1 => ?_⟩
  refine (hclo _ (List.getElem_mem hlt) w1 (by rw [hw1]; exact hx)).mono ?_
  rintro e1 v1 ⟨rfl, hx1, hp1⟩
  rw [hw1] at hx1
  refine ⟨hp1.trans ho1, hx1, _, rfl, fun h => (by cases h), fun _ => ⟨by omega, fun _ => ?_⟩⟩
  exact hN (i + 1, v1.heap) ⟨hlt, hx.trans hx1⟩ (by simp only; omega)
theorem delF_any (f : Nat) (cs : List Value) (l : List Key) (p : Option Addr) (cap : Nat) (w : World) (hen : enters Tryz.prog f = true) (hr : row w.heap p (strs l)) (hl : l.length ≤ 9223372036854775807)
    (hclo : ∀ k ∈ l, ∀ w1 : World, Ext w.heap w1.heap → Calls Tryz.prog f (.string (bs k) :: cs).toArray w1 (RetX (.bool false) w1.heap (outw w1))) :
    Calls Tryz.prog 40 #[.slice p l.length cap, cloVal (some (f, cs))] w (RetX (.slice p l.length cap) w.heap (outw w)) := by
  refine begins (k40 {}) [.slice (.v 0) (.v 0) (.v 1), .clo 0] [] { p := fun _ => p, n := fun j => if j = 0 then l.length else cap, c := fun _ => some (f, cs), h := fun _ => w.heap, o := outw w } 2 1000 rfl rfl rfl trivial (by simp [SV.den, PE.den, NE.den]) ?_
  conv => arg 7; reduce
  simp only [VC.den, BE.prop, IE.den, NE.den, SV.den, HE.den, PE.den, WS.den, List.map_cons, List.map_nil, Int.cast_ofNat_Int, reduceIte, Nat.reduceEqDiff, Env.setE, Env.setH, Env.setI, inK_i64]
  intro w1 hw1 ho1
  refine (indexF_any f cs l p cap w1 hen (by rw [hw1]; exact hr) hl (fun k hk w2 hx2 => hclo k hk w2 (by rw [hw1] at hx2; exact hx2))).mono ?_
  rintro e1 v1 ⟨rfl, hx1, hp1⟩
  rw [hw1] at hx1
  refine ⟨hp1.trans ho1, hx1, _, rfl, fun _ => ?_, fun h => absurd rfl h⟩
  exact (fun hf wr hwr hor => ⟨rfl, by rw [hwr]; exact hf.none, hor⟩)
theorem Scan_any (Z : Nat → Prop) (K : List Key) (sb : Nat) (md : List (Key × Option Addr)) (me : List (Key × Int)) (x now : Int) (w : World) (H : SpS Z K w.heap sb md me) (hl : ∀ x ∈ me, now < x.2) (hT : ∀ y ∈ md, ∃ a, y.2 = some a) (hmd : md.length ≤ 12) :
    Calls Tryz.prog 17 #[.pointer (some ⟨sb, 0, none⟩), .int .u64 x, .int .i64 3, .int .i64 now] w fun e w' => (∃ v, e = .returned (.tuple #[v, .int .u64 0]) ∧ ∃ p n c, v = .slice p n c) ∧ Ext w.heap w'.heap ∧ outw w' = outw w := by
  have HS := H
  obtain ⟨s, H, rfl, rfl, rfl, hv⟩ := H
  refine begins (k17 {}) [.ptr (.at (.v 0) (.c 0)), .int .u64 (.v 5), .int .i64 (.c 3), .int .i64 (.v 6)] [(.v 0, .c 0, [.int .u64 (.v 0), .int .i64 (.v 1), .int .i64 (.v 2), .ptr (.at (.v 1) (.c 0)), .ptr (.at (.v 2) (.c 0)), .ptr (.at (.v 3) (.c 0)), .int .u64 (.v 3), .int .i64 (.v 4)])]
    { n := fun j => if j = 0 then s.sb else if j = 1 then s.D.d else if j = 2 then s.E.d else s.V.d, i := fun j => if j = 0 then s.seed else if j = 1 then s.l1 else if j = 2 then s.l2 else if j = 3 then s.clock else if j = 4 then s.nx else if j = 5 then x else now, h := fun _ => w.heap, o := outw w } 7 1000 rfl rfl rfl
    ⟨by simpa [NE.den, SV.den, IE.den, PE.den, Sp.v] using H.hd, trivial, trivial⟩ (by simp [SV.den, NE.den, PE.den, IE.den]) ?_
  conv => arg 7; reduce
  simp only [VC.den, IE.den, NE.den, SV.den, HE.den, PE.den, WS.den, WI.den, noneIn, List.map_cons, List.map_nil, Int.cast_ofNat_Int, reduceIte, Nat.reduceEqDiff, Env.setE, Env.setH, Env.setI, Env.setN, Env.setP, Env.setW]
  have hE := (ext_push w.heap (.cells #[.pointer (some ⟨s.sb, 0, none⟩)] 28)).trans (ext_push _ (.cells #[.int .i64 now] 2))
  have hkl : ∀ k ∈ s.Md.map (·.1), k.length ≤ 9223372036854775807 := fun k hk => by
    obtain ⟨T, HT, hpm⟩ := H.d.tab
    obtain ⟨y, hy, rfl⟩ := List.mem_map.1 hk
    exact HT.kl y (hpm.symm.subset hy)
  intro w1 hw1 ho1
  refine (dScan_any s.D.d s.D.db s.D.nb s.D.lb s.D.tb s.D.gb s.seed s.Md x w1 (by rw [hw1]; exact H.d.ext hE) (by omega)).mono ?_
  rintro e1 v1 ⟨l, p, cap, hlp, rfl, hr, hx1, hp1⟩
  rw [hw1] at hx1
  have hll : l.length ≤ 12 := by rw [hlp.length_eq, List.length_map]; exact hmd
  have hX := hE.trans hx1
  refine ⟨hp1.trans ho1, hx1, p, _, cap, _, rfl, fun c1 c2 w2 hw2 ho2 => ?_⟩
  refine (delF_any 41 [.pointer (some ⟨w.heap.size, 0, none⟩), .pointer (some ⟨(w.heap.push (.cells #[.pointer (some ⟨s.sb, 0, none⟩)] 28)).size, 0, none⟩)] l p cap w2 (by kernel_rfl) (by rw [hw2]; exact hr) (by omega) (fun k hk w3 hx3 => ?_)).mono ?_
  · rw [hw2] at hx3
    obtain ⟨y, hy, rfl⟩ := List.mem_map.1 (hlp.subset hk)
    obtain ⟨a, ha⟩ := hT y hy
    exact scan1_any Z K s.sb s.Md s.Me y.1 now _ _ a w3 (HS.ext (hX.trans hx3)) (hkl _ (hlp.subset hk)) hl (by rw [← ha]; exact hy) (hx3.cellsAt c2) (hx3.cellsAt c1) (by simp)
  · rintro e2 v2 ⟨rfl, hx2, hp2⟩
    rw [hw2] at hx2
    exact ⟨hp2.trans ho2, _, hx2.frame (fun _ => False), ⟨id, trivial⟩, _, _, _, rfl, fun _ _ w3 hw3 ho3 => ⟨⟨_, rfl, _, _, _, rfl⟩, by rw [hw3]; exact hX.trans hx2, ho3⟩⟩
end Go.Proofs.YtkcjhabbgaaknaaGreat
/- A nil slice is given room. -/
namespace Go.Proofs.YtkcjhabbgaaknaaGreat
open Go E Go.RowKit Go.Lib
set_option maxRecDepth 100000
theorem info9 : ∃ i, Tryz.prog.info? 9 = some i ∧ i.size = 1 ∧ i.bytes = 16 ∧ i.zero = some (.string ⟨#[]⟩) := by
  have e : (Tryz.prog.info? 9).map (fun i => (i.size, i.bytes, i.zero)) = some (1, 16, some (.string ⟨#[]⟩)) := by kernel_rfl
  cases h : Tryz.prog.info? 9 with
  | none => rw [h] at e; cases e
  | some i =>
    rw [h] at e
    injection e with e
    injection e with e1 e
    injection e with e2 e3
    exact ⟨i, rfl, e1, e2, e3⟩
set_option maxHeartbeats 4000000 in
theorem Grow_new (n : Nat) (h0 : 0 < n) (hn : n ≤ 1000) (w : World) :
    Calls Tryz.prog 73 #[.slice none 0 0, .int .i64 (n : Nat)] w fun e w' => ∃ G l, e = .returned (.slice (some ⟨w.heap.size, 0, none⟩) 0 G) ∧ n ≤ G ∧ w'.heap = w.heap.push (.cells l 9) ∧ l.size = G ∧ outw w' = outw w := by
  obtain ⟨i0, hi0, hs0, hb0, hz0⟩ := info9
  have h1 : ¬ ((n : Int) < 0) := by omega
  have h2 : Go.RowKit.wrap64 ((0 : Int) - (0 : Int)) = 0 := by unfold Go.RowKit.wrap64; omega
  have h3 : Go.RowKit.wrap64 ((n : Int) - (0 : Int)) = (n : Int) := by unfold Go.RowKit.wrap64; omega
  have h4 : (n : Int) > 0 := by omega
  have hold : (Builtin.firstCells i0.size 0 (.slice none 0 0)).run Tryz.prog w.drew = .ok ([] : List Value).toArray w.drew := run_firstCells_none w.drew i0.size 0 0 0
  have hrz : ∀ ty, (Builtin.append_ #[50, 3] ty #[.slice none 0 0, .int .i64 (n : Nat)]).run Tryz.prog w = _ := fun ty =>
    Lib.run_append_grow_zeros w 50 3 ty 9 i0 (.string ⟨#[]⟩) .i64 .i64 Tryz.underlying50 Tryz.underlying3 hi0 hz0 none 0 0 [] hold n h0 (by omega) (by omega) (by omega) (by rw [hb0]; omega) (by rw [Nat.zero_add, hb0]; exact growslice_fits h0 (by omega))
  rw [Nat.zero_add] at hrz
  have hGn : n ≤ grownCap w n 0 9 := grownCap_ge w _ _ _
  obtain ⟨G, hG⟩ : ∃ G, G = grownCap w n 0 9 := ⟨_, rfl⟩
  rw [← hG] at hrz hGn
  have hG63 : G ≤ 9223372036854775807 := by
    have := grownCap_le_maxLen w n 0 9 (by unfold maxLen; omega)
    rw [← hG] at this
    unfold maxLen at this
    omega
  clear hold hG
  go_enter Tryz.func73, Tryz.ntmps73
  go_wp2_with (at_builtin; refine Lib.wpList_append_run _ rfl _ _ _ _ rfl _ _ rfl rfl _ _ (hrz _) ?_)
  all_goals
    go_ret
    exact ⟨G, rfl, hGn, _, rfl, by simp [Builtin.zeroCells]; omega, rfl⟩
theorem own_cap {h : Heap} {base cap : Nat} {p : Option Addr} {vs : List Value} (H : Own h base p cap 1 vs) : vs.length ≤ cap := by
  rcases H with ⟨_, rfl, _⟩ | ⟨b, rest, _, _, _, h3⟩
  · simp
  · rw [List.length_append] at h3; omega
theorem Concat_any (ab : Nat) (pa pb : Option Addr) (ca cb : Nat) (la lb : List Key) (w : World) (hc : CellsAt w.heap ab 0 [.slice pa la.length ca, .slice pb lb.length cb]) (ha : row w.heap pa (strs la)) (hb : row w.heap pb (strs lb)) (h0 : 0 < la.length + lb.length) (hn : la.length + lb.length ≤ 1000) :
    Calls Tryz.prog 43 #[.slice (some ⟨ab, 0, none⟩) 2 2] w fun e w' => ∃ p cap, e = .returned (.slice p (la.length + lb.length) cap) ∧ la.length + lb.length ≤ cap ∧ row w'.heap p (strs (la ++ lb)) ∧ Ext w.heap w'.heap ∧ outw w' = outw w := by
  refine begins (k43 {}) [.slice (.at (.v 0) (.c 0)) (.c 2) (.c 2)] [] { n := fun _ => ab, h := fun _ => w.heap, o := outw w } 1 1000 rfl rfl rfl trivial (by simp [SV.den, PE.den, NE.den]) ?_
  conv => arg 7; reduce
  simp only [VC.den, IE.den, NE.den, SV.den, HE.den, PE.den, WS.den, List.map_cons, List.map_nil, Int.cast_ofNat_Int]
  intro _
  refine looping (k43 {}) [.slice (.at (.v 0) (.c 0)) (.c 2) (.c 2), .int .i64 (.ofN (.v 1)), .slice (.at (.v 0) (.c 0)) (.c 2) (.c 2), .int .i64 (.c 2), .int .i64 (.ofN (.v 2))] []
    (fun i : Nat => { n := fun j => if j = 0 then ab else if j = 1 then (if i = 0 then 0 else if i = 1 then la.length else la.length + lb.length) else i, h := fun _ => w.heap, o := outw w }) 3 1000
    (fun i => i ≤ 2) (fun i => 2 - i) 0 (Nat.zero_le _) rfl (by simp [SV.den, IE.den, NE.den, PE.den]) rfl (fun _ => rfl) (fun _ _ => trivial) ?_
  intro i hi N hN
  simp only [SV.den, PE.den, NE.den, IE.den, List.map_cons, List.map_nil, reduceIte, Nat.reduceEqDiff] at hN
  conv => arg 7; reduce
  simp only [VC.den, BE.prop, IE.den, NE.den, SV.den, HE.den, PE.den, WS.den, List.map_cons, List.map_nil, Int.cast_ofNat_Int, reduceIte, Nat.reduceEqDiff, Env.setE, Env.setH, Env.setN, Env.setP, inK_i64]
  refine ⟨fun h1 => ?_, fun h1 => ?_⟩
  · obtain rfl | rfl : i = 0 ∨ i = 1 := by omega
    · refine ⟨h1, _, _, _, hc.at0 (j := 0) rfl, by simp only [if_true]; omega, fun h => absurd h (by simp only [if_true]; omega), fun _ => ⟨by omega, fun _ => ?_⟩⟩
      have := hN 1 (by omega) (by omega)
      simp only [if_true, if_neg (show ¬ (1 : Nat) = 0 by omega)] at this ⊢
      simpa using this
    · refine ⟨h1, _, _, _, hc.at0 (j := 1) rfl, by simp only [if_true, if_neg (show ¬ (1 : Nat) = 0 by omega)]; omega, fun h => absurd h (by simp only [if_true, if_neg (show ¬ (1 : Nat) = 0 by omega)]; omega), fun _ => ⟨by omega, fun _ => ?_⟩⟩
      have := hN 2 (by omega) (by omega)
      simp only [if_true, if_neg (show ¬ (1 : Nat) = 0 by omega), if_neg (show ¬ (2 : Nat) = 0 by omega), if_neg (show ¬ (2 : Nat) = 1 by omega)] at this ⊢
      simpa using this
  · obtain rfl : i = 2 := by omega
    simp only [if_neg (show ¬ (2 : Nat) = 0 by omega), if_neg (show ¬ (2 : Nat) = 1 by omega)]
    intro w1 hw1 ho1
    refine (Grow_new (la.length + lb.length) h0 hn w1).mono ?_
    rintro e1 v1 ⟨G, gl, rfl, hG, hv1, hgl, hp1⟩
    rw [hw1] at hv1
    have hx1 : Ext w.heap v1.heap := by rw [hv1]; exact ext_push _ _
    rw [hw1]
    refine ⟨hp1.trans ho1, hx1, _, _, _, rfl, fun _ => ?_⟩
    have o0 : Own v1.heap w.heap.size (some ⟨w.heap.size, 0, none⟩) G 1 (strs []) := by
      refine .inr ⟨w.heap.size, gl.toList, rfl, Nat.le_refl _, ?_, by simp [strs]; omega⟩
      rw [hv1]
      have := CellsAt.made w.heap gl.toList 9
      simpa [strs] using this
    refine looping (k43 {}) [.slice (.v 0) (.v 1) (.v 2), .slice (.at (.v 0) (.c 0)) (.c 2) (.c 2), .int .i64 (.c 2), .int .i64 (.ofN (.v 3))] []
      (fun y : Nat × Option Addr × Nat × Heap => { n := fun j => if j = 0 then ab else if j = 1 then (if y.1 = 0 then 0 else if y.1 = 1 then la.length else la.length + lb.length) else if j = 2 then y.2.2.1 else y.1, p := fun _ => y.2.1, h := fun _ => y.2.2.2, o := outw w }) 4 1000
      (fun y => y.1 ≤ 2 ∧ Ext w.heap y.2.2.2 ∧ Own y.2.2.2 w.heap.size y.2.1 y.2.2.1 1 (strs (if y.1 = 0 then [] else if y.1 = 1 then la else la ++ lb))) (fun y => 2 - y.1) (0, some ⟨w.heap.size, 0, none⟩, G, v1.heap) ⟨Nat.zero_le _, hx1, o0⟩ rfl (by simp [SV.den, IE.den, NE.den, PE.den]) rfl (fun _ => rfl) (fun _ _ => trivial) ?_
    rintro ⟨i, p, cap, h⟩ ⟨hi, hx, ho⟩ N hN
    simp only at hi hx ho
    simp only [SV.den, PE.den, NE.den, IE.den, List.map_cons, List.map_nil, reduceIte, Nat.reduceEqDiff] at hN
    conv => arg 7; reduce
    simp only [VC.den, BE.prop, IE.den, NE.den, SV.den, HE.den, PE.den, WS.den, WI.den, List.map_cons, List.map_nil, Int.cast_ofNat_Int, reduceIte, Nat.reduceEqDiff, Env.setH, Env.setN, Env.setP, inK_i64]
    refine ⟨fun h1 => ?_, fun h1 _ w3 hw3 ho3 => ?_⟩
    · obtain rfl | rfl : i = 0 ∨ i = 1 := by omega
      · simp only [if_true] at ho ⊢
        have hl1 : (strs la).length = la.length * 1 := by simp [strs_length]
        refine ⟨h1, _, _, _, (hx.cellsAt hc).at0 (j := 0) rfl, strs ([] : List Key), strs la, E.Own.appPre ho (n := ([] : List Key).length) (by simp [strs_length]) ⟨Nat.le_refl _, by simp [strs_length, lenV], hx.row ha⟩ (fun u hu => by obtain ⟨z, _, rfl⟩ := List.mem_map.1 hu; rfl) (by simp only [lenV, List.length_nil]; omega) (by simp only [lenV, List.length_nil]; omega), fun h' p' c' ha => ⟨by omega, fun _ => ?_⟩⟩
        have o1 := ho.next (n := ([] : List Key).length) (m := la.length) (by simp [strs_length]) hl1 hx.le ha
        have x1 := ho.keep (h0 := w.heap) (Nat.le_refl _) hx ha
        have := hN (1, p', c', h') ⟨by simp only; omega, x1, by simpa [strs] using o1⟩ (by simp only; omega)
        simpa using this
      · simp only [if_true, if_neg (show ¬ (1 : Nat) = 0 by omega)] at ho ⊢
        have hl1 : (strs lb).length = lb.length * 1 := by simp [strs_length]
        refine ⟨h1, _, _, _, (hx.cellsAt hc).at0 (j := 1) rfl, strs la, strs lb, E.Own.appPre ho (n := la.length) (by simp [strs_length]) ⟨Nat.le_refl _, by simp [strs_length, lenV], hx.row hb⟩ (fun u hu => by obtain ⟨z, _, rfl⟩ := List.mem_map.1 hu; rfl) (by simp only [lenV]; omega) (by simp only [lenV]; omega), fun h' p' c' ha => ⟨by omega, fun _ => ?_⟩⟩
        have o1 := ho.next (n := la.length) (m := lb.length) (by simp [strs_length]) hl1 hx.le ha
        have x1 := ho.keep (h0 := w.heap) (Nat.le_refl _) hx ha
        have := hN (2, p', c', h') ⟨by simp only; omega, x1, by simpa [strs] using o1⟩ (by simp only; omega)
        simpa using this
    · obtain rfl : i = 2 := by omega
      simp only [if_neg (show ¬ (2 : Nat) = 0 by omega), if_neg (show ¬ (2 : Nat) = 1 by omega)] at ho ⊢
      refine ⟨p, cap, rfl, ?_, by rw [hw3]; exact ho.row, by rw [hw3]; exact hx, ho3⟩
      have := own_cap ho
      rwa [strs_length, List.length_append] at this
end Go.Proofs.YtkcjhabbgaaknaaGreat
/- All keys of a dict, and the room of the slice (I). -/
namespace Go.Proofs.YtkcjhabbgaaknaaGreat
open E
set_option maxRecDepth 100000
/-- What is handed back: a slice of texts. -/
def KeysC (l : List Key) (h : Heap) (o : Os × Array (Nat × ByteArray)) : Ending → World → Prop := fun e w' => ∃ p cap, e = .returned (.slice p l.length cap) ∧ row w'.heap p (strs l) ∧ Ext h w'.heap ∧ outw w' = o ∧ l.length ≤ cap
theorem tKeysC_any (seed : Int) (T : Tb Int) (tb gb : Nat) (w : World) (H : TabAt (Value.int .i64) w.heap tb gb seed T) :
    Calls Tryz.prog 97 #[.pointer (some ⟨tb, 0, none⟩)] w (KeysC (T.full.map (·.1)) w.heap (outw w)) := by
  refine begins (k97 {}) [.ptr (.at (.v 0) (.c 0))] [(.v 0, .c 0, [.int .u64 (.v 0), .slice (.at (.v 1) (.c 0)) (.v 2) (.v 2), .int .i64 (.ofN (.v 3)), .int .i64 (.ofN (.v 4))])]
    { n := fun j => if j = 0 then tb else if j = 1 then gb else if j = 2 then T.n else if j = 3 then T.full.length else T.dels, i := fun _ => seed, h := fun _ => w.heap, o := outw w } 5 1000 rfl rfl rfl
    ⟨by simpa [NE.den, SV.den, IE.den, PE.den] using H.hd, trivial, trivial⟩ (by simp [SV.den, NE.den, PE.den]) ?_
  conv => arg 7; reduce
  simp only [VC.den, IE.den, NE.den, SV.den, HE.den, PE.den, WS.den, WI.den, noneIn, List.map_cons, List.map_nil, reduceIte, Nat.reduceEqDiff, Env.setE, Env.setH, Env.setN, Env.setP, Env.setW]
  intro hob w1 hw1 ho1
  have hgl := H.gl
  have htl := H.tl
  have hG := H.gr.ext (ext_push w.heap (.cells #[.slice none 0 0] 50)) hgl
  refine (eachK_any T w.heap.size (w.heap.size + 1) gb w1 (by rw [hw1]; exact hG) H.few (by rw [hw1]; simp; omega) (by omega) (by omega) (by omega) (by rw [hw1]; simp) ⟨none, 0, by rw [hw1]; exact hob, Own.nil _ _ _⟩).mono ?_
  rintro e1 v1 ⟨rfl, hf1, hp1, p, cap, hc, ho⟩
  rw [hw1] at hf1
  refine ⟨hp1.trans ho1, _, hf1, ⟨by rintro (e | e) <;> omega, trivial⟩, rfl, _, _, _, hc.at0 (j := 0) rfl, ?_⟩
  exact fun _ hf w2 hw2 ho2 => ⟨p, cap, rfl, by rw [hw2]; exact ho.row, by rw [hw2]; exact hf.ext fun n hn h => by simp only [or_false] at h; omega, ho2, by have := own_cap ho; simpa [strs_length] using this⟩
theorem nkeysC_any (nb lb tb gb : Nat) (seed : Int) (T : Tb Int) (w : World) (_hnl : nb ≠ lb)
    (hn : CellsAt w.heap nb 0 [.int .i64 0, .slice (some ⟨lb, 0, none⟩) 1 1]) (hl : CellsAt w.heap lb 0 [.pointer (some ⟨tb, 0, none⟩)]) (HT : TabAt (Value.int .i64) w.heap tb gb seed T) :
    Calls Tryz.prog 66 #[.pointer (some ⟨nb, 0, none⟩)] w (KeysC (T.full.map (·.1)) w.heap (outw w)) := by
  refine begins (k66 {}) [.ptr (.at (.v 0) (.c 0))] [(.v 0, .c 0, [.int .i64 (.c 0), .slice (.at (.v 1) (.c 0)) (.c 1) (.c 1)])]
    { n := fun j => if j = 0 then nb else lb, h := fun _ => w.heap, o := outw w } 3 1000 rfl rfl rfl
    ⟨by simpa [NE.den, SV.den, IE.den, PE.den] using hn, trivial, trivial⟩ (by simp [SV.den, NE.den, PE.den]) ?_
  conv => arg 7; reduce
  simp only [VC.den, IE.den, NE.den, SV.den, HE.den, PE.den, WS.den, List.map_cons, List.map_nil, Int.cast_ofNat_Int, reduceIte, Nat.reduceEqDiff]
  intro _ _
  have hlen : (T.full.map (·.1)).length ≤ 16 := by
    have h1 := T.full_le
    have h2 := HT.few
    rw [List.length_map]; omega
  refine looping (k66 {}) [.slice (.v 0) (.v 0) (.v 1), .slice (.at (.v 2) (.c 0)) (.c 1) (.c 1), .int .i64 (.c 1), .int .i64 (.ofN (.v 3))] []
    (fun y : Nat × List Key × Option Addr × Nat × Heap => { n := fun j => if j = 0 then y.2.1.length else if j = 1 then y.2.2.2.1 else if j = 2 then lb else y.1, p := fun _ => y.2.2.1, h := fun _ => y.2.2.2.2, o := outw w }) 4 1000
    (fun y => y.1 ≤ 1 ∧ Ext w.heap y.2.2.2.2 ∧ (y.1 = 0 ∧ y.2.1 = [] ∧ y.2.2.1 = none ∧ y.2.2.2.1 = 0 ∨ y.1 = 1 ∧ y.2.1 = T.full.map (·.1) ∧ row y.2.2.2.2 y.2.2.1 (strs y.2.1) ∧ y.2.1.length ≤ y.2.2.2.1)) (fun y => 1 - y.1) (0, [], none, 0, w.heap) ⟨by simp, Ext.refl _, .inl ⟨rfl, rfl, rfl, rfl⟩⟩ rfl (by simp [SV.den, IE.den, NE.den, PE.den]) rfl (fun _ => rfl) (fun _ _ => trivial) ?_
  rintro ⟨i, l, p, cap, h⟩ ⟨hi, hx, hst⟩ N hN
  simp only at hi hx hst
  simp only [SV.den, PE.den, NE.den, IE.den, List.map_cons, List.map_nil, reduceIte, Nat.reduceEqDiff] at hN
  conv => arg 7; reduce
  simp only [VC.den, BE.prop, IE.den, NE.den, SV.den, HE.den, PE.den, WS.den, WI.den, List.map_cons, List.map_nil, Int.cast_ofNat_Int, reduceIte, Nat.reduceEqDiff, Env.setE, Env.setH, Env.setN, Env.setP, inK_i64]
  refine ⟨fun h1 => ?_, fun h1 _ w1 hw1 ho1 => ?_⟩
  · rcases hst with ⟨rfl, rfl, rfl, rfl⟩ | ⟨h2, _⟩
    · refine ⟨h1, _, (hx.cellsAt hl).at0 (j := 0) rfl, fun w1 hw1 ho1 => ?_⟩
      refine (tKeysC_any seed T tb gb w1 (by rw [hw1]; exact HT.ext hx)).mono ?_
      rintro e1 v1 ⟨q, qc, rfl, hr, hx1, hp1, _⟩
      rw [hw1] at hx1
      refine ⟨hp1.trans ho1, hx1, q, _, qc, rfl, [], _, app_one v1.heap 0 _ q qc (by omega) hr, fun h' p' c' ha => ⟨by omega, fun _ => ?_⟩⟩
      have o1 := (Own.nil v1.heap v1.heap.size 1).next (n := 0) (m := (T.full.map (·.1)).length) rfl (by simp [strs_length]) (Nat.le_refl _) ha
      have x1 := (Own.nil v1.heap v1.heap.size 1).keep (Nat.le_refl _) (Ext.refl _) ha
      have := hN (1, T.full.map (·.1), p', c', h') ⟨Nat.le_refl _, (hx.trans hx1).trans x1, .inr ⟨rfl, rfl, by simpa using o1.row, by have := own_cap o1; simpa [strs_length] using this⟩⟩ (by simp)
      simp only [List.length_nil, Nat.zero_add] at this ⊢
      exact this
    · omega
  · rcases hst with ⟨h2, _⟩ | ⟨_, rfl, h2, h3⟩
    · omega
    · exact ⟨p, cap, rfl, by rw [hw1]; exact h2, by rw [hw1]; exact hx, ho1, h3⟩
theorem dKeysC_any (d db nb lb tb gb : Nat) (seed : Int) (M : List (Key × Int)) (w : World) (H : DctI w.heap d db nb lb tb gb seed M) :
    Calls Tryz.prog 37 #[.pointer (some ⟨d, 0, none⟩)] w fun e w' => ∃ l : List Key, l.Perm (M.map (·.1)) ∧ KeysC l w.heap (outw w) e w' := by
  obtain ⟨T, HT, hpm⟩ := H.tab
  have hne := H.ne
  simp only [List.nodup_cons, List.mem_cons, List.not_mem_nil, or_false, not_or, List.nodup_nil, and_true, not_false_eq_true] at hne
  refine begins (k37 {}) [.ptr (.at (.v 0) (.c 0))] [] { n := fun _ => d, h := fun _ => w.heap, o := outw w } 1 1000 rfl rfl rfl trivial (by simp [SV.den, NE.den, PE.den]) ?_
  conv => arg 7; reduce
  simp only [VC.den, IE.den, NE.den, SV.den, HE.den, PE.den, WS.den, List.map_cons, List.map_nil, Int.cast_ofNat_Int, reduceIte, Nat.reduceEqDiff, Env.setE, Env.setH, Env.setN, Env.setP]
  intro w0 hw0 ho0
  refine (nodes_any d db nb lb tb gb seed M w0 (by rw [hw0]; exact H)).mono ?_
  rintro e0 v0 ⟨np, nc, rfl, hnr, hx0, hp0⟩
  rw [hw0] at hx0
  refine ⟨hp0.trans ho0, hx0, np, 1, nc, rfl, fun _ => ?_⟩
  have hlen : (T.full.map (·.1)).length ≤ 16 := by
    have h1 := T.full_le
    have h2 := HT.few
    rw [List.length_map]; omega
  refine looping (k37 {}) [.slice (.v 0) (.v 0) (.v 1), .slice (.v 1) (.c 1) (.v 2), .int .i64 (.c 1), .int .i64 (.ofN (.v 3))] []
    (fun y : Nat × List Key × Option Addr × Nat × Heap => { n := fun j => if j = 0 then y.2.1.length else if j = 1 then y.2.2.2.1 else if j = 2 then nc else y.1, p := fun j => if j = 0 then y.2.2.1 else np, h := fun _ => y.2.2.2.2, o := outw w }) 4 1000
    (fun y => y.1 ≤ 1 ∧ Ext v0.heap y.2.2.2.2 ∧ (y.1 = 0 ∧ y.2.1 = [] ∧ y.2.2.1 = none ∧ y.2.2.2.1 = 0 ∨ y.1 = 1 ∧ y.2.1 = T.full.map (·.1) ∧ row y.2.2.2.2 y.2.2.1 (strs y.2.1) ∧ y.2.1.length ≤ y.2.2.2.1)) (fun y => 1 - y.1) (0, [], none, 0, v0.heap) ⟨by simp, Ext.refl _, .inl ⟨rfl, rfl, rfl, rfl⟩⟩ rfl (by simp [SV.den, IE.den, NE.den, PE.den]) rfl (fun _ => rfl) (fun _ _ => trivial) ?_
  rintro ⟨i, l, p, cap, h⟩ ⟨hi, hx, hst⟩ N hN
  simp only at hi hx hst
  simp only [SV.den, PE.den, NE.den, IE.den, List.map_cons, List.map_nil, reduceIte, Nat.reduceEqDiff] at hN
  conv => arg 7; reduce
  simp only [VC.den, BE.prop, IE.den, NE.den, SV.den, HE.den, PE.den, WS.den, WI.den, List.map_cons, List.map_nil, Int.cast_ofNat_Int, reduceIte, Nat.reduceEqDiff, Env.setE, Env.setH, Env.setN, Env.setP, inK_i64]
  have hxw := hx0.trans hx
  refine ⟨fun h1 => ?_, fun h1 _ w1 hw1 ho1 => ?_⟩
  · rcases hst with ⟨rfl, rfl, rfl, rfl⟩ | ⟨h2, _⟩
    · rcases hx.row hnr with hq | ⟨xb, xo, rfl, hq⟩
      · cases hq
      · refine ⟨xb, xo, rfl, h1, _, hq 0 _ rfl, fun w1 hw1 ho1 => ?_⟩
        refine (nkeysC_any nb lb tb gb seed T w1 hne.2.2.1.1 (by rw [hw1]; exact hxw.cellsAt H.nc) (by rw [hw1]; exact hxw.cellsAt H.lc) (by rw [hw1]; exact HT.ext hxw)).mono ?_
        rintro e1 v1 ⟨q, qc, rfl, hr, hx1, hp1, _⟩
        rw [hw1] at hx1
        refine ⟨hp1.trans ho1, hx1, q, _, qc, rfl, [], _, app_one v1.heap 0 _ q qc (by omega) hr, fun h' p' c' ha => ⟨by omega, fun _ => ?_⟩⟩
        have o1 := (Own.nil v1.heap v1.heap.size 1).next (n := 0) (m := (T.full.map (·.1)).length) rfl (by simp [strs_length]) (Nat.le_refl _) ha
        have x1 := (Own.nil v1.heap v1.heap.size 1).keep (Nat.le_refl _) (Ext.refl _) ha
        have := hN (1, T.full.map (·.1), p', c', h') ⟨Nat.le_refl _, (hx.trans hx1).trans x1, .inr ⟨rfl, rfl, by simpa using o1.row, by have := own_cap o1; simpa [strs_length] using this⟩⟩ (by simp)
        simp only [List.length_nil, Nat.zero_add] at this ⊢
        exact this
    · omega
  · rcases hst with ⟨h2, _⟩ | ⟨_, rfl, h2, h3⟩
    · omega
    · exact ⟨_, hpm.map _, p, cap, rfl, by rw [hw1]; exact h2, by rw [hw1]; exact hxw, ho1, h3⟩
end Go.Proofs.YtkcjhabbgaaknaaGreat
/- A new space; a cycle. -/
namespace Go.Proofs.YtkcjhabbgaaknaaGreat
open E
set_option maxRecDepth 100000
theorem SNewQ_any (Z : Nat → Prop) (seed l1 l2 : Int) (w : World) (hZ : ∀ b, Z b → b < w.heap.size) :
    Calls Tryz.prog 6 #[.agg #[.int .u64 seed, .int .i64 l1, .int .i64 l2]] w fun e w' => ∃ sb, e = .returned (.pointer (some ⟨sb, 0, none⟩)) ∧ Ext w.heap w'.heap ∧ SpQ Z (fun c mv => c = 0 ∧ mv = []) w'.heap sb [] [] ∧ outw w' = outw w := by
  refine begins (k6 { tell := true }) [.agg [.int .u64 (.v 0), .int .i64 (.v 1), .int .i64 (.v 2)]] [] { i := fun j => if j = 0 then seed else if j = 1 then l1 else l2, h := fun _ => w.heap, o := outw w } 3 1000 rfl rfl rfl trivial (by simp [SV.den, IE.den]) ?_
  conv => arg 7; reduce
  simp only [VC.den, IE.den, NE.den, SV.den, HE.den, PE.den, WS.den, List.map_cons, List.map_nil, Int.cast_ofNat_Int, reduceIte, Nat.reduceEqDiff, Env.setE, Env.setH, Env.setN, Env.setP]
  intro w1 hw1 ho1
  refine (dNewP_any seed w1).mono ?_
  rintro e1 v1 ⟨a1, a2, a3, a4, a5, a6, rfl, hb1, hx1, HD, hp1⟩
  rw [hw1] at hb1 hx1
  refine ⟨hp1.trans ho1, hx1, _, rfl, fun w2 hw2 ho2 => ?_⟩
  refine (dNewI_any seed w2).mono ?_
  rintro e2 v2 ⟨b1, b2, b3, b4, b5, b6, rfl, hb2, hx2, HE, hp2⟩
  rw [hw2] at hb2 hx2
  refine ⟨hp2.trans ho2, hx2, _, rfl, fun w3 hw3 ho3 => ?_⟩
  refine (dNewU_any seed w3).mono ?_
  rintro e3 v3 ⟨c1, c2, c3, c4, c5, c6, rfl, hb3, hx3, HV, hp3⟩
  rw [hw3] at hb3 hx3
  refine ⟨hp3.trans ho3, hx3, _, rfl, fun hc _ hf w4 hw4 ho4 => ⟨v3.heap.size, rfl, by rw [hw4]; exact hf.none, ?_, ho4⟩⟩
  rw [hw4]
  have hd := HD.lt
  have he := HE.lt
  have hv := HV.lt
  have z0 : w.heap.size ≤ (w.heap.push (.cells #[.int .u64 seed, .int .i64 l1, .int .i64 l2] 26)).size := by simp
  have z1 := hx1.le
  have z2 := hx2.le
  have z3 := hx3.le
  have hE := ext_push v3.heap (.cells #[.int .u64 seed, .int .i64 l1, .int .i64 l2, .pointer (some ⟨a1, 0, none⟩), .pointer (some ⟨b1, 0, none⟩), .pointer (some ⟨c1, 0, none⟩), .int .u64 0, .int .i64 0] 69)
  refine ⟨⟨v3.heap.size, seed, l1, l2, 0, 0, ⟨a1, a2, a3, a4, a5, a6⟩, ⟨b1, b2, b3, b4, b5, b6⟩, ⟨c1, c2, c3, c4, c5, c6⟩, [], [], []⟩, ⟨hc, HD.ext (hx2.trans (hx3.trans hE)), HE.ext (hx3.trans hE), HV.ext hE, fun h => ?_, fun h => ?_, fun h => ?_, fun b h h' => ?_, fun b h h' => ?_, fun b h h' => ?_, fun h => ?_, fun b h h' => ?_, fun b h h' => ?_, fun b h h' => ?_, fun b h => ?_⟩, rfl, rfl, rfl, ⟨rfl, rfl⟩, Int.le_refl _, by show (0 : Int) ≤ 1000; decide⟩
  · have := hd _ h; simp only at this; omega
  · have := he _ h; simp only at this; omega
  · exact absurd (hv _ h) (Nat.lt_irrefl _)
  · have q1 := hd _ h; have q2 := hb2 _ h'; omega
  · have q1 := hd _ h; have q2 := hb3 _ h'; omega
  · have q1 := he _ h; have q2 := hb3 _ h'; omega
  · have q1 := hZ _ h; simp only at q1; omega
  · have q1 := hZ _ h'; have q2 := hb1 _ h; omega
  · have q1 := hZ _ h'; have q2 := hb2 _ h; omega
  · have q1 := hZ _ h'; have q2 := hb3 _ h; omega
  · have q1 := hZ _ h; simp only [Array.size_push]; omega
theorem SpQ.more {Z : Nat → Prop} {q : Int → List (Key × Int) → Prop} {h h' : Heap} {sb : Nat} {md : List (Key × Option Addr)} {me : List (Key × Int)} (H : SpQ Z q h sb md me) (hx : Ext h h') {vb : Nat} (h1 : h.size ≤ vb) (h2 : vb < h'.size) : SpQ (fun b => Z b ∨ b = vb) q h' sb md me := by
  obtain ⟨s, H, r⟩ := H
  have H' := H.ext hx
  have hd := H.dl
  have he := H.el
  have hv := H.vl
  refine ⟨s, ⟨H'.hd, H'.d, H'.e, H'.v, H'.sd, H'.se, H'.sv, H'.de, H'.dv, H'.ev, fun h => ?_, fun b hb h => ?_, fun b hb h => ?_, fun b hb h => ?_, fun b h => ?_⟩, r⟩
  · rcases h with h | h
    · exact H.zs h
    · have := H.hd.1; omega
  · rcases h with h | h
    · exact H.zd b hb h
    · have := hd b hb; omega
  · rcases h with h | h
    · exact H.ze b hb h
    · have := he b hb; omega
  · rcases h with h | h
    · exact H.zv b hb h
    · have := hv b hb; omega
  · rcases h with h | rfl
    · exact H'.zl b h
    · exact h2
theorem strs_take (l : List Key) (k : Nat) {h : Heap} {p : Option Addr} (H : row h p (strs l)) : row h p (strs (l.take k)) := by
  rcases H with H | ⟨b, o, rfl, H⟩
  · left
    have : l = [] := by simpa [strs] using H
    subst this; simp [strs]
  · refine .inr ⟨b, o, rfl, fun j v hj => H j v ?_⟩
    unfold strs at hj ⊢
    rw [List.map_take, List.getElem?_take] at hj
    split at hj
    · exact hj
    · cases hj
theorem row_setInt {h : Heap} {p : Option Addr} {l : List Key} (H : row h p (strs l)) {b o : Nat} {k : IntKind} {n : Int} (hg : get h b o = some (.int k n)) (v : Value) : row (setc h b o v) p (strs l) := by
  rcases H with H | ⟨b', o', rfl, H⟩
  · exact .inl H
  · refine .inr ⟨b', o', rfl, fun j u hj => ?_⟩
    rw [get_setc]
    split
    · rename_i e
      have h1 := H j u hj
      rw [← e.1, ← e.2.1, hg] at h1
      injection h1 with h1
      unfold strs at hj
      rw [List.getElem?_map] at hj
      cases hq : l[j]? with
      | none => rw [hq] at hj; cases hj
      | some z => rw [hq] at hj; injection hj with hj; rw [← hj] at h1; cases h1
    · exact H j u hj
theorem row_drop {h : Heap} {p : Option Addr} {l : List Key} (H : row h p (strs l)) {k cap : Nat} (hk : k < l.length) (hc : l.length ≤ cap) : row h (advp p k cap 1) (strs (l.drop k)) := by
  rcases H with H | ⟨b, o, rfl, H⟩
  · have : l = [] := by simpa [strs] using H
    subst this; simp at hk
  · unfold advp
    rw [if_neg (by omega)]
    refine .inr ⟨b, o + k, by simp [Addr.add], fun j v hj => ?_⟩
    rw [Nat.add_assoc]
    refine H (k + j) v ?_
    unfold strs at hj ⊢
    rw [List.map_drop, List.getElem?_drop] at hj
    exact hj
theorem SpAt.nxt {Z : Nat → Prop} {h : Heap} {s : Sp} (H : SpAt Z h s) (c : Int) : SpAt Z (setc h s.sb 7 (.int .i64 c)) { s with nx := c } ∧ E.Frame (fun b => ¬ Z b) h (setc h s.sb 7 (.int .i64 c)) := by
  have hf : E.Frame (fun b => b = s.sb) h (setc h s.sb 7 (.int .i64 c)) := E.Frame.set (E.Frame.refl (fun b => b = s.sb) h) (b := s.sb) (fun _ => rfl) _ _
  refine ⟨⟨?_, H.d.frame hf fun b hb e => H.sd (e ▸ hb), H.e.frame hf fun b hb e => H.se (e ▸ hb), H.v.frame hf fun b hb e => H.sv (e ▸ hb), H.sd, H.se, H.sv, H.de, H.dv, H.ev, H.zs, H.zd, H.ze, H.zv, fun b hb => by rw [size_setc]; exact H.zl b hb⟩, hf.mono fun b _ hb => hb ▸ H.zs⟩
  exact H.hd.set0 7 (.int .i64 c)
theorem Cycle_Q (Z : Nat → Prop) (q : Int → List (Key × Int) → Prop) (sb : Nat) (md : List (Key × Option Addr)) (me : List (Key × Int)) (now : Int) (w : World) (H : SpQ Z q w.heap sb md me) (hl : ∀ x ∈ me, now < x.2) (hme : me.length ≤ 12) :
    Calls Tryz.prog 22 #[.pointer (some ⟨sb, 0, none⟩), .int .i64 5, .int .i64 now] w fun e w' => ∃ n, SqR Z q w.heap (outw w) sb (.int .i64 n) md me e w' := by
  have HS := H
  obtain ⟨s, H, rfl, rfl, rfl, hv⟩ := H
  refine begins (k22 {}) [.ptr (.at (.v 0) (.c 0)), .int .i64 (.c 5), .int .i64 (.v 5)] [(.v 0, .c 0, [.int .u64 (.v 0), .int .i64 (.v 1), .int .i64 (.v 2), .ptr (.at (.v 1) (.c 0)), .ptr (.at (.v 2) (.c 0)), .ptr (.at (.v 3) (.c 0)), .int .u64 (.v 3), .int .i64 (.v 4)])]
    { n := fun j => if j = 0 then s.sb else if j = 1 then s.D.d else if j = 2 then s.E.d else s.V.d, i := fun j => if j = 0 then s.seed else if j = 1 then s.l1 else if j = 2 then s.l2 else if j = 3 then s.clock else if j = 4 then s.nx else now, h := fun _ => w.heap, o := outw w } 6 1000 rfl rfl rfl
    ⟨by simpa [NE.den, SV.den, IE.den, PE.den, Sp.v] using H.hd, trivial, trivial⟩ (by simp [SV.den, NE.den, PE.den, IE.den]) ?_
  conv => arg 7; reduce
  simp only [VC.den, BE.prop, IE.den, NE.den, SV.den, HE.den, PE.den, WS.den, WI.den, noneIn, List.map_cons, List.map_nil, Int.cast_ofNat_Int, reduceIte, Nat.reduceEqDiff, Env.setE, Env.setH, Env.setI, Env.setN, Env.setP, Env.setW, inK_i64]
  intro w1 hw1 ho1
  refine (dKeysC_any s.E.d s.E.db s.E.nb s.E.lb s.E.tb s.E.gb s.seed s.Me w1 (by rw [hw1]; exact H.e)).mono ?_
  rintro e1 v1 ⟨l, hlp, p, cap, rfl, hr, hx1, hp1, hcap⟩
  rw [hw1] at hx1
  have hll : l.length ≤ 12 := by rw [hlp.length_eq, List.length_map]; exact hme
  have hkl : ∀ k ∈ l, k.length ≤ 9223372036854775807 := fun k hk => by
    obtain ⟨T, HT, hpm⟩ := H.e.tab
    obtain ⟨x, hx, rfl⟩ := List.mem_map.1 (hlp.subset hk)
    exact HT.kl x (hpm.symm.subset hx)
  refine ⟨hp1.trans ho1, hx1, p, _, cap, rfl, fun h _ hf w2 hw2 ho2 => ?_, fun h => ?_⟩
  · exact ⟨0, rfl, by rw [hw2]; exact hx1.frame _, ho2, by rw [hw2]; exact HS.ext hx1⟩
  · have hl0 : 0 < l.length := by omega
    obtain ⟨nx, hnx⟩ : ∃ nx : Nat, s.nx = nx := ⟨s.nx.toNat, by omega⟩
    have hm : s.nx.tmod (l.length : Int) = ((nx % l.length : Nat) : Int) := by rw [hnx, tmod_nat]
    have hlt : nx % l.length < l.length := Nat.mod_lt _ hl0
    rw [hm, Int.toNat_natCast]
    obtain ⟨k, hk⟩ : ∃ k, k = nx % l.length := ⟨_, rfl⟩
    rw [← hk] at hlt ⊢
    have hmin : min (5 : Int) (l.length : Nat) = ((min 5 l.length : Nat) : Int) := by omega
    rw [hmin, Int.toNat_natCast]
    refine ⟨h, by omega, by omega, by omega, by omega, by omega, fun hc w2 hw2 ho2 => ?_⟩
    have H1 := H.ext hx1
    have hv1 := hv
    obtain ⟨Hn, hfn⟩ := H1.nxt ((k : Int) + (min 5 l.length : Nat))
    have hr1 := row_setInt hr (H1.hd.at0 (j := 7) rfl) (.int .i64 ((k : Int) + (min 5 l.length : Nat)))
    have hE := ext_push (setc v1.heap s.sb 7 (.int .i64 ((k : Int) + (min 5 l.length : Nat)))) (.cells #[.slice (advp p k cap 1) (l.length - k) (cap - k), .slice p k cap] 50)
    have e1 : (l.drop k).length = l.length - k := by simp
    have e2 : (l.take k).length = k := by rw [List.length_take]; omega
    refine (Concat_any _ (advp p k cap 1) p (cap - k) cap (l.drop k) (l.take k) w2 (by rw [hw2, e1, e2]; exact hc) (by rw [hw2]; exact hE.row (row_drop hr1 hlt hcap)) (by rw [hw2]; exact hE.row (strs_take l k hr1)) (by omega) (by omega)).mono ?_
    rintro e3 v3 ⟨p3, c3, rfl, hc3, hr3, hx3, hp3⟩
    rw [hw2] at hx3
    have hsum : (l.drop k).length + (l.take k).length = l.length := by omega
    rw [hsum] at hc3 ⊢
    refine ⟨hp3.trans ho2, hx3, _, _, _, rfl, by omega, by omega, fun _ w4 hw4 ho4 => ?_⟩
    have HnS : SpQ Z q v3.heap s.sb s.Md s.Me := ⟨_, (Hn.ext hE).ext hx3, rfl, rfl, rfl, hv.1, by show (0 : Int) ≤ (k : Int) + (min 5 l.length : Nat); omega, by show (k : Int) + (min 5 l.length : Nat) ≤ 1000; omega⟩
    obtain ⟨K, HK⟩ := HnS.S
    have e5 : (((l.drop k ++ l.take k)).take (min 5 l.length)).length = min 5 l.length := by rw [List.length_take, List.length_append]; omega
    have hsw := sweep_live Z K s.sb s.Md s.Me ((l.drop k ++ l.take k).take (min 5 l.length)) p3 c3 now w4 (by rw [hw4]; exact HK) hl (by rw [hw4]; exact strs_take _ _ hr3) (by omega) (fun y hy => by
      have := List.mem_of_mem_take hy
      rcases List.mem_append.1 this with h | h
      · exact hkl y (List.mem_of_mem_drop h)
      · exact hkl y (List.mem_of_mem_take h))
    rw [e5] at hsw
    refine hsw.mono ?_
    rintro e5 v5 ⟨n, rfl, hx5, hp5⟩
    rw [hw4] at hx5
    refine ⟨hp5.trans ho4, _, hx5.frame (fun _ => False), ⟨id, trivial⟩, n, rfl, fun _ w6 hw6 ho6 => ⟨n, rfl, ?_, ho6, by rw [hw6]; exact HnS.ext hx5⟩⟩
    rw [hw6]
    exact frz_trans (frz_trans (hx1.frame _) hfn) ((hE.trans (hx3.trans hx5)).frame _)
end Go.Proofs.YtkcjhabbgaaknaaGreat
