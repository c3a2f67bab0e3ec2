import Derived.Test.YtkcjhabbgaaknaaGreatSCP
import Derived.Test.YtkcjhabbgaaknaaGreatSCI
import Derived.Test.YtkcjhabbgaaknaaGreatSCU
/- Values; a space as it lies in memory. -/
namespace Go.Proofs.YtkcjhabbgaaknaaGreat
open E
set_option maxRecDepth 100000
/-- A value that is a text. -/
def TextAt (h : Heap) (b : Nat) (t : List UInt8) : Prop := CellsAt h b 0 [.int .i64 1, .string (bs t), .pointer none, .pointer none, .pointer none]
theorem OfText_any (t : List UInt8) (w : World) : Calls Tryz.prog 8 #[.string (bs t)] w fun e w' => ∃ b, e = .returned (.pointer (some ⟨b, 0, none⟩)) ∧ w.heap.size ≤ b ∧ TextAt w'.heap b t ∧ Ext w.heap w'.heap ∧ outw w' = outw w := by
  refine begins (k8 { tell := true }) [.str (.v 0)] [] { s := fun _ => t, h := fun _ => w.heap, o := outw w } 1 1000 rfl rfl rfl trivial (by simp [SV.den, SE.den]) ?_
  conv => arg 7; reduce
  simp only [VC.den, IE.den, NE.den, SE.den, SV.den, HE.den, PE.den, WS.den, List.map_cons, List.map_nil, Int.cast_ofNat_Int, reduceIte, Env.setN]
  exact fun hc hf w1 hw1 ho1 => ⟨_, rfl, Nat.le_refl _, by rw [hw1]; exact hc, by rw [hw1]; exact hf.none, ho1⟩
theorem kind_any (b : Nat) (t : List UInt8) (w : World) (H : TextAt w.heap b t) : Calls Tryz.prog 47 #[.pointer (some ⟨b, 0, none⟩)] w (RetX (.int .i64 1) w.heap (outw w)) := by
  refine begins (k47 {}) [.ptr (.at (.v 0) (.c 0))] [(.v 0, .c 0, [.int .i64 (.c 1), .str (.v 0), .ptr .nil, .ptr .nil, .ptr .nil])] { n := fun _ => b, s := fun _ => t, h := fun _ => w.heap, o := outw w } 1 1000 rfl rfl rfl ⟨by simpa [NE.den, SV.den, IE.den, PE.den, SE.den] using (show CellsAt w.heap b 0 [.int .i64 1, .string (bs t), .pointer none, .pointer none, .pointer none] from H), trivial, trivial⟩ (by simp [SV.den, NE.den, PE.den]) ?_
  conv => arg 7; reduce
  simp only [VC.den, IE.den, NE.den, SE.den, SV.den, HE.den, PE.den, WS.den, List.map_cons, List.map_nil, Int.cast_ofNat_Int]
  exact fun _ => (fun hf wr hwr hor => ⟨rfl, by rw [hwr]; exact hf.none, hor⟩)
theorem Empty_any (b : Nat) (t : List UInt8) (w : World) (H : TextAt w.heap b t) : Calls Tryz.prog 27 #[.pointer (some ⟨b, 0, none⟩)] w (RetX (.bool false) w.heap (outw w)) := by
  refine begins (k27 {}) [.ptr (.at (.v 0) (.c 0))] [] { n := fun _ => b, h := fun _ => w.heap, o := outw w } 1 1000 rfl rfl rfl trivial (by simp [SV.den, NE.den, PE.den]) ?_
  conv => arg 7; reduce
  simp only [VC.den, BE.prop, IE.den, NE.den, SV.den, HE.den, PE.den, BE.den, WS.den, List.map_cons, List.map_nil, Int.cast_ofNat_Int, reduceIte, Nat.reduceEqDiff, Env.setE, Env.setH, Env.setI]
  intro w1 hw1 ho1
  refine (kind_any b t w1 (by rw [hw1]; exact H)).mono ?_
  rintro e1 v1 ⟨rfl, hx1, hp1⟩
  rw [hw1] at hx1
  refine ⟨hp1.trans ho1, hx1, _, rfl, fun h => absurd rfl h, fun _ => ?_⟩
  exact (fun hf wr hwr hor => ⟨rfl, by rw [hwr]; exact hf.none, hor⟩)
theorem dLen_any (d db nb lb tb gb : Nat) (seed : Int) (M : List (Key × Option Addr)) (w : World) (H : DctP w.heap d db nb lb tb gb seed M) :
    Calls Tryz.prog 38 #[.pointer (some ⟨d, 0, none⟩)] w (RetX (.int .i64 (M.length : Nat)) w.heap (outw w)) := by
  refine begins (k38 {}) [.ptr (.at (.v 0) (.c 0))] [(.v 0, .c 0, [.int .u64 (.v 0), .int .i64 (.c 0), .slice (.at (.v 1) (.c 0)) (.c 1) (.c 1), .int .i64 (.ofN (.v 2))])]
    { n := fun j => if j = 0 then d else if j = 1 then db else M.length, i := fun _ => seed, h := fun _ => w.heap, o := outw w } 3 1000 rfl rfl rfl
    ⟨by simpa [NE.den, SV.den, IE.den, PE.den] using H.dc, trivial, trivial⟩ (by simp [SV.den, NE.den, PE.den]) ?_
  conv => arg 7; reduce
  simp only [VC.den, IE.den, NE.den, SV.den, HE.den, PE.den, WS.den, List.map_cons, List.map_nil, Int.cast_ofNat_Int, reduceIte, Nat.reduceEqDiff]
  exact fun _ => (fun hf wr hwr hor => ⟨rfl, by rw [hwr]; exact hf.none, hor⟩)
end Go.Proofs.YtkcjhabbgaaknaaGreat
/- A space as it lies in memory; what becomes of it when one of its dicts is turned. -/
namespace Go.Proofs.YtkcjhabbgaaknaaGreat
open E
set_option maxRecDepth 100000
/-- A dict's blocks. -/
structure D6 where
  d : Nat
  db : Nat
  nb : Nat
  lb : Nat
  tb : Nat
  gb : Nat
def D6.l (D : D6) : List Nat := [D.d, D.db, D.nb, D.lb, D.tb, D.gb]
/-- What a put or a delete may turn. -/
def D6.F (D : D6) : Nat → Prop := fun b => b = D.d ∨ b = D.tb ∨ b = D.gb
theorem D6.F_mem {D : D6} {b : Nat} (h : D.F b) : b ∈ D.l := by
  rcases h with rfl | rfl | rfl <;> simp [D6.l]
def D6.grown (D : D6) (g : Nat) : D6 := { D with gb := g }
theorem D6.mem_grown {D : D6} {g b : Nat} (h : b ∈ (D.grown g).l) : b ∈ D.l ∨ b = g := by
  simp only [D6.l, D6.grown, List.mem_cons, List.not_mem_nil, or_false] at *
  omega
structure Sp where
  sb : Nat
  seed : Int
  l1 : Int
  l2 : Int
  clock : Int
  nx : Int
  D : D6
  E : D6
  V : D6
  Md : List (Key × Option Addr)
  Me : List (Key × Int)
  Mv : List (Key × Int)
abbrev DP (h : Heap) (D : D6) (seed : Int) (M : List (Key × Option Addr)) : Prop := DctP h D.d D.db D.nb D.lb D.tb D.gb seed M
abbrev DI (h : Heap) (D : D6) (seed : Int) (M : List (Key × Int)) : Prop := DctI h D.d D.db D.nb D.lb D.tb D.gb seed M
abbrev DU (h : Heap) (D : D6) (seed : Int) (M : List (Key × Int)) : Prop := DctU h D.d D.db D.nb D.lb D.tb D.gb seed M
/-- The space's own cells. -/
def Sp.v (s : Sp) : List Value := [.int .u64 s.seed, .int .i64 s.l1, .int .i64 s.l2, .pointer (some ⟨s.D.d, 0, none⟩), .pointer (some ⟨s.E.d, 0, none⟩), .pointer (some ⟨s.V.d, 0, none⟩), .int .u64 s.clock, .int .i64 s.nx]
/-- A space; Z: the blocks that it leaves alone. -/
structure SpAt (Z : Nat → Prop) (h : Heap) (s : Sp) : Prop where
  hd : CellsAt h s.sb 0 s.v
  d : DP h s.D s.seed s.Md
  e : DI h s.E s.seed s.Me
  v : DU h s.V s.seed s.Mv
  sd : s.sb ∉ s.D.l
  se : s.sb ∉ s.E.l
  sv : s.sb ∉ s.V.l
  de : ∀ b ∈ s.D.l, b ∉ s.E.l
  dv : ∀ b ∈ s.D.l, b ∉ s.V.l
  ev : ∀ b ∈ s.E.l, b ∉ s.V.l
  zs : ¬ Z s.sb
  zd : ∀ b ∈ s.D.l, ¬ Z b
  ze : ∀ b ∈ s.E.l, ¬ Z b
  zv : ∀ b ∈ s.V.l, ¬ Z b
  zl : ∀ b, Z b → b < h.size
section
variable {Z : Nat → Prop} {h h' : Heap} {s : Sp}
theorem SpAt.dl (H : SpAt Z h s) : ∀ b ∈ s.D.l, b < h.size := H.d.lt
theorem SpAt.el (H : SpAt Z h s) : ∀ b ∈ s.E.l, b < h.size := H.e.lt
theorem SpAt.vl (H : SpAt Z h s) : ∀ b ∈ s.V.l, b < h.size := H.v.lt
theorem SpAt.ext (H : SpAt Z h s) (hx : Ext h h') : SpAt Z h' s :=
  ⟨hx.cellsAt H.hd, H.d.ext hx, H.e.ext hx, H.v.ext hx, H.sd, H.se, H.sv, H.de, H.dv, H.ev, H.zs, H.zd, H.ze, H.zv, fun b hb => Nat.lt_of_lt_of_le (H.zl b hb) hx.le⟩
theorem SpAt.onD (H : SpAt Z h s) {M : List (Key × Option Addr)} {g : Nat} (hf : E.Frame s.D.F h h') (hg : g = s.D.gb ∨ h.size ≤ g) (hd : DP h' (s.D.grown g) s.seed M) : SpAt Z h' { s with D := s.D.grown g, Md := M } ∧ E.Frame (fun b => ¬ Z b) h h' := by
  have hg' : ∀ b ∈ (s.D.grown g).l, b ∈ s.D.l ∨ h.size ≤ b := fun b hb => by
    rcases D6.mem_grown hb with hb | rfl
    · exact .inl hb
    · rcases hg with rfl | hg
      · exact .inl (by simp [D6.l])
      · exact .inr hg
  refine ⟨⟨hf.cellsAt H.hd fun e => H.sd (D6.F_mem e), hd, H.e.frame hf fun b hb e => H.de b (D6.F_mem e) hb, H.v.frame hf fun b hb e => H.dv b (D6.F_mem e) hb, fun hb => ?_, H.se, H.sv, fun b hb he => ?_, fun b hb he => ?_, H.ev, H.zs, fun b hb hz => ?_, H.ze, H.zv, fun b hb => Nat.lt_of_lt_of_le (H.zl b hb) hf.le⟩, hf.mono fun b _ hb => H.zd b (D6.F_mem hb)⟩
  · rcases hg' _ hb with hb | hb
    · exact H.sd hb
    · exact absurd H.hd.1 (Nat.not_lt_of_le hb)
  · rcases hg' _ hb with hb | hb
    · exact H.de b hb he
    · have := H.el b he; omega
  · rcases hg' _ hb with hb | hb
    · exact H.dv b hb he
    · have := H.vl b he; omega
  · rcases hg' _ hb with hb | hb
    · exact H.zd b hb hz
    · have := H.zl b hz; omega
theorem SpAt.onE (H : SpAt Z h s) {M : List (Key × Int)} {g : Nat} (hf : E.Frame s.E.F h h') (hg : g = s.E.gb ∨ h.size ≤ g) (hd : DI h' (s.E.grown g) s.seed M) : SpAt Z h' { s with E := s.E.grown g, Me := M } ∧ E.Frame (fun b => ¬ Z b) h h' := by
  have hg' : ∀ b ∈ (s.E.grown g).l, b ∈ s.E.l ∨ h.size ≤ b := fun b hb => by
    rcases D6.mem_grown hb with hb | rfl
    · exact .inl hb
    · rcases hg with rfl | hg
      · exact .inl (by simp [D6.l])
      · exact .inr hg
  refine ⟨⟨hf.cellsAt H.hd fun e => H.se (D6.F_mem e), H.d.frame hf fun b hb e => H.de b hb (D6.F_mem e), hd, H.v.frame hf fun b hb e => H.ev b (D6.F_mem e) hb, H.sd, fun hb => ?_, H.sv, fun b hb he => ?_, H.dv, fun b hb he => ?_, H.zs, H.zd, fun b hb hz => ?_, H.zv, fun b hb => Nat.lt_of_lt_of_le (H.zl b hb) hf.le⟩, hf.mono fun b _ hb => H.ze b (D6.F_mem hb)⟩
  · rcases hg' _ hb with hb | hb
    · exact H.se hb
    · exact absurd H.hd.1 (Nat.not_lt_of_le hb)
  · rcases hg' _ he with he | he
    · exact H.de b hb he
    · have := H.dl b hb; omega
  · rcases hg' _ hb with hb | hb
    · exact H.ev b hb he
    · have := H.vl b he; omega
  · rcases hg' _ hb with hb | hb
    · exact H.ze b hb hz
    · have := H.zl b hz; omega
theorem SpAt.onV (H : SpAt Z h s) {M : List (Key × Int)} {g : Nat} (hf : E.Frame s.V.F h h') (hg : g = s.V.gb ∨ h.size ≤ g) (hd : DU h' (s.V.grown g) s.seed M) : SpAt Z h' { s with V := s.V.grown g, Mv := M } ∧ E.Frame (fun b => ¬ Z b) h h' := by
  have hg' : ∀ b ∈ (s.V.grown g).l, b ∈ s.V.l ∨ h.size ≤ b := fun b hb => by
    rcases D6.mem_grown hb with hb | rfl
    · exact .inl hb
    · rcases hg with rfl | hg
      · exact .inl (by simp [D6.l])
      · exact .inr hg
  refine ⟨⟨hf.cellsAt H.hd fun e => H.sv (D6.F_mem e), H.d.frame hf fun b hb e => H.dv b hb (D6.F_mem e), H.e.frame hf fun b hb e => H.ev b hb (D6.F_mem e), hd, H.sd, H.se, fun hb => ?_, H.de, fun b hb he => ?_, fun b hb he => ?_, H.zs, H.zd, H.ze, fun b hb hz => ?_, fun b hb => Nat.lt_of_lt_of_le (H.zl b hb) hf.le⟩, hf.mono fun b _ hb => H.zv b (D6.F_mem hb)⟩
  · rcases hg' _ hb with hb | hb
    · exact H.sv hb
    · exact absurd H.hd.1 (Nat.not_lt_of_le hb)
  · rcases hg' _ he with he | he
    · exact H.dv b hb he
    · have := H.dl b hb; omega
  · rcases hg' _ he with he | he
    · exact H.ev b hb he
    · have := H.el b hb; omega
  · rcases hg' _ hb with hb | hb
    · exact H.zv b hb hz
    · have := H.zl b hz; omega
theorem SpAt.tick (H : SpAt Z h s) (c : Int) : SpAt Z (setc h s.sb 6 (.int .u64 c)) { s with clock := c } ∧ E.Frame (fun b => ¬ Z b) h (setc h s.sb 6 (.int .u64 c)) := by
  have hf : E.Frame (fun b => b = s.sb) h (setc h s.sb 6 (.int .u64 c)) := E.Frame.set (E.Frame.refl (fun b => b = s.sb) h) (b := s.sb) (fun _ => rfl) _ _
  refine ⟨⟨?_, H.d.frame hf fun b hb e => H.sd (e ▸ hb), H.e.frame hf fun b hb e => H.se (e ▸ hb), H.v.frame hf fun b hb e => H.sv (e ▸ hb), H.sd, H.se, H.sv, H.de, H.dv, H.ev, H.zs, H.zd, H.ze, H.zv, fun b hb => by rw [size_setc]; exact H.zl b hb⟩, hf.mono fun b _ hb => hb ▸ H.zs⟩
  exact H.hd.set0 6 (.int .u64 c)
theorem frz_trans {h'' : Heap} (a : E.Frame (fun b => ¬ Z b) h h') (b : E.Frame (fun b => ¬ Z b) h' h'') : E.Frame (fun b => ¬ Z b) h h'' := a.trans b (fun _ h => h) (fun _ _ h => h)
theorem TextAt.keep {b : Nat} {t : List UInt8} (H : TextAt h b t) (hf : E.Frame (fun b => ¬ Z b) h h') (hz : Z b) : TextAt h' b t := hf.cellsAt H fun h => h hz
end
end Go.Proofs.YtkcjhabbgaaknaaGreat
/- A key is called changed; a key is dropped. -/
namespace Go.Proofs.YtkcjhabbgaaknaaGreat
open E
set_option maxRecDepth 100000
/-- A space that has this. -/
def SpS (Z : Nat → Prop) (K : List Key) (h : Heap) (sb : Nat) (md : List (Key × Option Addr)) (me : List (Key × Int)) : Prop :=
  ∃ s : Sp, SpAt Z h s ∧ s.sb = sb ∧ s.Md = md ∧ s.Me = me ∧ ∀ x ∈ s.Mv, x.1 ∈ K
/-- What an operation on a space leaves. -/
def SpR (Z : Nat → Prop) (K : List Key) (h0 : Heap) (o : Os × Array (Nat × ByteArray)) (sb : Nat) (v : Value) (md : List (Key × Option Addr)) (me : List (Key × Int)) : Ending → World → Prop :=
  fun e w' => e = .returned v ∧ E.Frame (fun b => ¬ Z b) h0 w'.heap ∧ outw w' = o ∧ SpS Z K w'.heap sb md me
theorem SpS.ext {Z : Nat → Prop} {K : List Key} {h h' : Heap} {sb : Nat} {md : List (Key × Option Addr)} {me : List (Key × Int)} (H : SpS Z K h sb md me) (hx : Ext h h') : SpS Z K h' sb md me := by
  obtain ⟨s, H, r⟩ := H
  exact ⟨s, H.ext hx, r⟩
theorem SpS.nd {Z : Nat → Prop} {K : List Key} {h : Heap} {sb : Nat} {md : List (Key × Option Addr)} {me : List (Key × Int)} (H : SpS Z K h sb md me) : (md.map (·.1)).Nodup ∧ (me.map (·.1)).Nodup := by
  obtain ⟨s, H, _, rfl, rfl, _⟩ := H
  exact ⟨H.d.nodup, H.e.nodup⟩
theorem changed_any (Z : Nat → Prop) (s : Sp) (key : Key) (w : World) (H : SpAt Z w.heap s) (hs : key.length ≤ 9223372036854775807) (hV : s.Mv.length ≤ 13) :
    Calls Tryz.prog 31 #[.pointer (some ⟨s.sb, 0, none⟩), .string (bs key)] w fun e w' => e = .returned (.tuple #[]) ∧ E.Frame (fun b => ¬ Z b) w.heap w'.heap ∧ outw w' = outw w ∧
      ∃ s' c, SpAt Z w'.heap s' ∧ s'.sb = s.sb ∧ s'.Md = s.Md ∧ s'.Me = s.Me ∧ s'.Mv = pt s.Mv key c := by
  refine begins (k31 {}) [.ptr (.at (.v 0) (.c 0)), .str (.v 0)] [(.v 0, .c 0, [.int .u64 (.v 0), .int .i64 (.v 1), .int .i64 (.v 2), .ptr (.at (.v 1) (.c 0)), .ptr (.at (.v 2) (.c 0)), .ptr (.at (.v 3) (.c 0)), .int .u64 (.v 3), .int .i64 (.v 4)])]
    { n := fun j => if j = 0 then s.sb else if j = 1 then s.D.d else if j = 2 then s.E.d else s.V.d, i := fun j => if j = 0 then s.seed else if j = 1 then s.l1 else if j = 2 then s.l2 else if j = 3 then s.clock else s.nx, s := fun _ => key, h := fun _ => w.heap, o := outw w } 5 1000 rfl rfl rfl
    ⟨by simpa [NE.den, SV.den, IE.den, PE.den, Sp.v] using H.hd, trivial, trivial⟩ (by simp [SV.den, SE.den, NE.den, PE.den]) ?_
  conv => arg 7; reduce
  simp only [VC.den, IE.den, NE.den, SE.den, SV.den, HE.den, PE.den, WS.den, WI.den, noneIn, List.map_cons, List.map_nil, Int.cast_ofNat_Int, reduceIte, Nat.reduceEqDiff, Env.setE, Env.setH, Env.setI, Env.setW]
  obtain ⟨Ht, hft⟩ := H.tick (IntKind.u64.wrap (s.clock + 1))
  intro w1 hw1 ho1
  refine (dPutU_x s.V.d s.V.db s.V.nb s.V.lb s.V.tb s.V.gb s.seed s.Mv key _ w1 (by rw [hw1]; exact Ht.v) hs (by omega)).mono ?_
  rintro e1 v1 ⟨rfl, hf1, hp1, g, hg, HD⟩
  rw [hw1] at hf1 hg
  obtain ⟨H2, hf2⟩ := Ht.onV hf1 hg HD
  have ex : ∃ s' c, SpAt Z v1.heap s' ∧ s'.sb = s.sb ∧ s'.Md = s.Md ∧ s'.Me = s.Me ∧ s'.Mv = pt s.Mv key c := ⟨_, _, H2, rfl, rfl, rfl, rfl⟩
  refine ⟨hp1.trans ho1, _, hf1, ⟨fun e => H.sv (D6.F_mem (D := s.V) e), trivial⟩, _, rfl, fun _ _ w2 hw2 ho2 => ⟨trivial, ?_, ho2, by rw [hw2]; exact ex⟩⟩
  rw [hw2]
  exact frz_trans hft hf2
theorem pt_in {α : Type} {K : List Key} {l : List (Key × α)} {key : Key} {v : α} (h : ∀ x ∈ l, x.1 ∈ K) (hk : key ∈ K) : ∀ x ∈ pt l key v, x.1 ∈ K := by
  intro x hx
  rcases List.mem_cons.1 hx with rfl | hx
  · exact hk
  · exact h x (mem_rm.1 hx).1
theorem changed_S (Z : Nat → Prop) (K : List Key) (sb : Nat) (md : List (Key × Option Addr)) (me : List (Key × Int)) (key : Key) (w : World) (H : SpS Z K w.heap sb md me) (hk : key ∈ K) (hs : key.length ≤ 9223372036854775807) (hK : K.length ≤ 12) :
    Calls Tryz.prog 31 #[.pointer (some ⟨sb, 0, none⟩), .string (bs key)] w (SpR Z K w.heap (outw w) sb (.tuple #[]) md me) := by
  obtain ⟨s, Hs, rfl, rfl, rfl, hv⟩ := H
  have hV := len_keys Hs.v.nodup hv
  refine (changed_any Z s key w Hs hs (by omega)).mono ?_
  rintro e w' ⟨rfl, hf, ho, s', c, H', h1, h2, h3, h4⟩
  exact ⟨rfl, hf, ho, s', H', h1, h2, h3, by rw [h4]; exact pt_in hv hk⟩
theorem rm_in {α : Type} {K : List Key} {l : List (Key × α)} {key : Key} (h : ∀ x ∈ l, x.1 ∈ K) : ∀ x ∈ rm l key, x.1 ∈ K := fun x hx => h x (mem_rm.1 hx).1
theorem drop_S (Z : Nat → Prop) (K : List Key) (sb : Nat) (md : List (Key × Option Addr)) (me : List (Key × Int)) (key : Key) (w : World) (H : SpS Z K w.heap sb md me) (hk : key ∈ K) (hs : key.length ≤ 9223372036854775807) (hK : K.length ≤ 12) (hmd : md.length ≤ 12) (hme : me.length ≤ 12) :
    Calls Tryz.prog 28 #[.pointer (some ⟨sb, 0, none⟩), .string (bs key)] w (SpR Z K w.heap (outw w) sb (.tuple #[]) (rm md key) (rm me key)) := by
  obtain ⟨s, H, rfl, rfl, rfl, hv⟩ := H
  refine begins (k28 {}) [.ptr (.at (.v 0) (.c 0)), .str (.v 0)] [(.v 0, .c 0, [.int .u64 (.v 0), .int .i64 (.v 1), .int .i64 (.v 2), .ptr (.at (.v 1) (.c 0)), .ptr (.at (.v 2) (.c 0)), .ptr (.at (.v 3) (.c 0)), .int .u64 (.v 3), .int .i64 (.v 4)])]
    { n := fun j => if j = 0 then s.sb else if j = 1 then s.D.d else if j = 2 then s.E.d else s.V.d, i := fun j => if j = 0 then s.seed else if j = 1 then s.l1 else if j = 2 then s.l2 else if j = 3 then s.clock else s.nx, s := fun _ => key, h := fun _ => w.heap, o := outw w } 5 1000 rfl rfl rfl
    ⟨by simpa [NE.den, SV.den, IE.den, PE.den, Sp.v] using H.hd, trivial, trivial⟩ (by simp [SV.den, SE.den, NE.den, PE.den]) ?_
  conv => arg 7; reduce
  simp only [VC.den, IE.den, NE.den, SE.den, SV.den, HE.den, PE.den, BE.den, WS.den, WI.den, noneIn, List.map_cons, List.map_nil, reduceIte, Nat.reduceEqDiff, Env.setE, Env.setH, Env.setB, Env.setW]
  intro w1 hw1 ho1
  refine (dDeleteP_x s.D.d s.D.db s.D.nb s.D.lb s.D.tb s.D.gb s.seed s.Md key w1 (by rw [hw1]; exact H.d) hs (by omega)).mono ?_
  rintro e1 v1 ⟨rfl, hf1, hp1, HD⟩
  rw [hw1] at hf1
  obtain ⟨H1, hz1⟩ := H.onD (g := s.D.gb) hf1 (.inl rfl) HD
  refine ⟨hp1.trans ho1, _, hf1, ⟨fun e => H.sd (D6.F_mem (D := s.D) e), trivial⟩, _, rfl, fun w2 hw2 ho2 => ?_⟩
  refine (dDeleteI_x s.E.d s.E.db s.E.nb s.E.lb s.E.tb s.E.gb s.seed s.Me key w2 (by rw [hw2]; exact H1.e) hs (by omega)).mono ?_
  rintro e2 v2 ⟨rfl, hf2, hp2, HE⟩
  rw [hw2] at hf2
  obtain ⟨H2, hz2⟩ := H1.onE (g := s.E.gb) hf2 (.inl rfl) HE
  refine ⟨hp2.trans ho2, _, hf2, ⟨fun e => H.se (D6.F_mem (D := s.E) e), trivial⟩, _, rfl, ?_⟩
  have ex : SpS Z K v2.heap s.sb (rm s.Md key) (rm s.Me key) := ⟨_, H2, rfl, rfl, rfl, hv⟩
  intro _ w3 hw3 ho3
  refine (changed_S Z K s.sb _ _ key w3 (by rw [hw3]; exact ex) hk hs hK).mono ?_
  rintro e3 v3 ⟨rfl, hf3, hp3, H3⟩
  rw [hw3] at hf3
  refine ⟨hp3.trans ho3, _, hf3, trivial, rfl, fun _ w4 hw4 ho4 => ⟨rfl, ?_, ho4, by rw [hw4]; exact H3⟩⟩
  rw [hw4]
  exact frz_trans (frz_trans hz1 hz2) hf3
end Go.Proofs.YtkcjhabbgaaknaaGreat
/- What a key has in a space. -/
namespace Go.Proofs.YtkcjhabbgaaknaaGreat
open E
set_option maxRecDepth 100000
theorem Get_live (Z : Nat → Prop) (K : List Key) (sb : Nat) (md : List (Key × Option Addr)) (me : List (Key × Int)) (key : Key) (now : Int) (w : World) (H : SpS Z K w.heap sb md me) (hs : key.length ≤ 9223372036854775807) (hl : ∀ x ∈ me, now < x.2) :
    Calls Tryz.prog 12 #[.pointer (some ⟨sb, 0, none⟩), .string (bs key), .int .i64 now] w fun e w' => ∃ p ok, e = .returned (.pointer p) ∧ HasP md key p ok ∧ Ext w.heap w'.heap ∧ outw w' = outw w := by
  obtain ⟨s, H, rfl, rfl, rfl, hv⟩ := H
  refine begins (k12 {}) [.ptr (.at (.v 0) (.c 0)), .str (.v 0), .int .i64 (.v 5)] [(.v 0, .c 0, [.int .u64 (.v 0), .int .i64 (.v 1), .int .i64 (.v 2), .ptr (.at (.v 1) (.c 0)), .ptr (.at (.v 2) (.c 0)), .ptr (.at (.v 3) (.c 0)), .int .u64 (.v 3), .int .i64 (.v 4)])]
    { n := fun j => if j = 0 then s.sb else if j = 1 then s.D.d else if j = 2 then s.E.d else s.V.d, i := fun j => if j = 0 then s.seed else if j = 1 then s.l1 else if j = 2 then s.l2 else if j = 3 then s.clock else if j = 4 then s.nx else now, s := fun _ => key, h := fun _ => w.heap, o := outw w } 6 1000 rfl rfl rfl
    ⟨by simpa [NE.den, SV.den, IE.den, PE.den, Sp.v] using H.hd, trivial, trivial⟩ (by simp [SV.den, SE.den, NE.den, PE.den, IE.den]) ?_
  conv => arg 7; reduce
  simp only [VC.den, BE.prop, IE.den, NE.den, SE.den, SV.den, HE.den, PE.den, BE.den, WS.den, WI.den, noneIn, List.map_cons, List.map_nil, reduceIte, Nat.reduceEqDiff, Env.setE, Env.setH, Env.setB, Env.setI, Env.setP, Env.setW]
  intro w1 hw1 ho1
  refine (dGetI_any s.E.d s.E.db s.E.nb s.E.lb s.E.tb s.E.gb s.seed s.Me key w1 (by rw [hw1]; exact H.e) hs).mono ?_
  rintro e1 v1 ⟨at1, ok1, rfl, hH1, hx1, hp1⟩
  rw [hw1] at hx1
  refine ⟨hp1.trans ho1, hx1, at1, ok1, rfl, fun hd => ?_, fun _ w2 hw2 ho2 => ?_⟩
  · rcases hH1 with ⟨_, hm⟩ | ⟨hm, _⟩
    · have := hl _ hm
      simp only at this
      omega
    · rw [hm] at hd; cases hd.1
  · refine (dGetP_any s.D.d s.D.db s.D.nb s.D.lb s.D.tb s.D.gb s.seed s.Md key w2 (by rw [hw2]; exact H.d.ext hx1) hs).mono ?_
    rintro e2 v2 ⟨p, ok, rfl, hH2, hx2, hp2⟩
    rw [hw2] at hx2
    exact ⟨hp2.trans ho2, hx2, p, ok, rfl, fun _ hf w3 hw3 ho3 => ⟨p, ok, rfl, hH2, by rw [hw3]; exact hf.none, ho3⟩⟩
theorem Get_dead (Z : Nat → Prop) (K : List Key) (sb : Nat) (md : List (Key × Option Addr)) (me : List (Key × Int)) (key : Key) (now : Int) (w : World) (H : SpS Z K w.heap sb md me) (hs : key.length ≤ 9223372036854775807) (hk : key ∈ K) (hK : K.length ≤ 12) (hmd : md.length ≤ 12) (hme : me.length ≤ 12) (at_ : Int) (hin : (key, at_) ∈ me) (hl : at_ ≤ now) :
    Calls Tryz.prog 12 #[.pointer (some ⟨sb, 0, none⟩), .string (bs key), .int .i64 now] w (SpR Z K w.heap (outw w) sb (.pointer none) (rm md key) (rm me key)) := by
  have HS := H
  obtain ⟨s, H, rfl, rfl, rfl, hv⟩ := H
  refine begins (k12 {}) [.ptr (.at (.v 0) (.c 0)), .str (.v 0), .int .i64 (.v 5)] [(.v 0, .c 0, [.int .u64 (.v 0), .int .i64 (.v 1), .int .i64 (.v 2), .ptr (.at (.v 1) (.c 0)), .ptr (.at (.v 2) (.c 0)), .ptr (.at (.v 3) (.c 0)), .int .u64 (.v 3), .int .i64 (.v 4)])]
    { n := fun j => if j = 0 then s.sb else if j = 1 then s.D.d else if j = 2 then s.E.d else s.V.d, i := fun j => if j = 0 then s.seed else if j = 1 then s.l1 else if j = 2 then s.l2 else if j = 3 then s.clock else if j = 4 then s.nx else now, s := fun _ => key, h := fun _ => w.heap, o := outw w } 6 1000 rfl rfl rfl
    ⟨by simpa [NE.den, SV.den, IE.den, PE.den, Sp.v] using H.hd, trivial, trivial⟩ (by simp [SV.den, SE.den, NE.den, PE.den, IE.den]) ?_
  conv => arg 7; reduce
  simp only [VC.den, BE.prop, IE.den, NE.den, SE.den, SV.den, HE.den, PE.den, BE.den, WS.den, WI.den, noneIn, List.map_cons, List.map_nil, reduceIte, Nat.reduceEqDiff, Env.setE, Env.setH, Env.setB, Env.setI, Env.setP, Env.setW]
  intro w1 hw1 ho1
  refine (dGetI_any s.E.d s.E.db s.E.nb s.E.lb s.E.tb s.E.gb s.seed s.Me key w1 (by rw [hw1]; exact H.e) hs).mono ?_
  rintro e1 v1 ⟨at1, ok1, rfl, hH1, hx1, hp1⟩
  rw [hw1] at hx1
  refine ⟨hp1.trans ho1, hx1, at1, ok1, rfl, fun _ _ w2 hw2 ho2 => ?_, fun hd => ?_⟩
  · refine (drop_S Z K s.sb s.Md s.Me key w2 (by rw [hw2]; exact HS.ext hx1) hk hs hK hmd hme).mono ?_
    rintro e2 v2 ⟨rfl, hf2, hp2, s2, H2, h1, h2, h3, hv2⟩
    rw [hw2] at hf2
    have hd0 := H2.hd.at0 (j := 3) rfl
    rw [h1] at hd0
    refine ⟨hp2.trans ho2, _, hf2, trivial, rfl, _, hd0, fun w3 hw3 ho3 => ?_⟩
    refine (dGetP_any s2.D.d s2.D.db s2.D.nb s2.D.lb s2.D.tb s2.D.gb s2.seed s2.Md key w3 (by rw [hw3]; exact H2.d) hs).mono ?_
    rintro e3 v3 ⟨p, ok, rfl, hH3, hx3, hp3⟩
    rw [hw3] at hx3
    refine ⟨hp3.trans ho3, hx3, p, ok, rfl, fun hf w4 hw4 ho4 => ⟨?_, ?_, ho4, ?_⟩⟩
    · rcases hH3 with ⟨_, hm⟩ | ⟨_, rfl, _⟩
      · rw [h2] at hm; exact absurd rfl (mem_rm.1 hm).2
      · rfl
    · rw [hw4]; exact hf.mono fun b _ h => by simpa using h
    · rw [hw4]; exact ⟨s2, H2.ext hx3, h1, h2, h3, hv2⟩
  · refine absurd ?_ hd
    rcases hH1 with ⟨ho, hm⟩ | ⟨_, _, hm⟩
    · have := uniq_val H.e.nodup hm hin
      exact ⟨ho, by omega⟩
    · exact absurd rfl (hm _ hin)
theorem there_live (Z : Nat → Prop) (K : List Key) (sb : Nat) (md : List (Key × Option Addr)) (me : List (Key × Int)) (key : Key) (now : Int) (w : World) (H : SpS Z K w.heap sb md me) (hs : key.length ≤ 9223372036854775807) (hl : ∀ x ∈ me, now < x.2) :
    Calls Tryz.prog 26 #[.pointer (some ⟨sb, 0, none⟩), .string (bs key), .int .i64 now] w fun e w' => ∃ b p ok, e = .returned (.bool b) ∧ HasP md key p ok ∧ (b = true ↔ p ≠ none) ∧ Ext w.heap w'.heap ∧ outw w' = outw w := by
  refine begins (k26 {}) [.ptr (.at (.v 0) (.c 0)), .str (.v 0), .int .i64 (.v 0)] [] { n := fun _ => sb, i := fun _ => now, s := fun _ => key, h := fun _ => w.heap, o := outw w } 1 1000 rfl rfl rfl trivial (by simp [SV.den, SE.den, NE.den, PE.den, IE.den]) ?_
  conv => arg 7; reduce
  simp only [VC.den, IE.den, NE.den, SE.den, SV.den, HE.den, PE.den, BE.den, WS.den, WI.den, noneIn, List.map_cons, List.map_nil, reduceIte, Nat.reduceEqDiff, Env.setE, Env.setH, Env.setP, Env.setW]
  intro w1 hw1 ho1
  refine (Get_live Z K sb md me key now w1 (by rw [hw1]; exact H) hs hl).mono ?_
  rintro e1 v1 ⟨p, ok, rfl, hH, hx1, hp1⟩
  rw [hw1] at hx1
  refine ⟨hp1.trans ho1, _, hx1.frame (fun _ => False), trivial, p, rfl, fun hf w2 hw2 ho2 => ⟨_, p, ok, rfl, hH, ?_, by rw [hw2]; exact hx1, ho2⟩⟩
  cases p <;> simp
end Go.Proofs.YtkcjhabbgaaknaaGreat
/- A key has a value put. -/
namespace Go.Proofs.YtkcjhabbgaaknaaGreat
open E
set_option maxRecDepth 100000
theorem Put_S (Z : Nat → Prop) (K : List Key) (sb vb : Nat) (t : List UInt8) (md : List (Key × Option Addr)) (me : List (Key × Int)) (key : Key) (now : Int) (w : World) (H : SpS Z K w.heap sb md me) (hk : key ∈ K) (hs : key.length ≤ 4096) (hK : K.length ≤ 12) (hmd : md.length ≤ 12) (hme : me.length ≤ 12) (hl : ∀ x ∈ me, now < x.2)
    (hT : TextAt w.heap vb t) (_hz : Z vb) :
    Calls Tryz.prog 7 #[.pointer (some ⟨sb, 0, none⟩), .string (bs key), .pointer (some ⟨vb, 0, none⟩), .int .i64 now] w (SpR Z K w.heap (outw w) sb (.int .i64 0) (pt md key (some ⟨vb, 0, none⟩)) (rm me key)) := by
  refine begins (k7 {}) [.ptr (.at (.v 0) (.c 0)), .str (.v 0), .ptr (.at (.v 1) (.c 0)), .int .i64 (.v 0)] [] { n := fun j => if j = 0 then sb else vb, i := fun _ => now, s := fun _ => key, h := fun _ => w.heap, o := outw w } 2 1000 rfl rfl rfl trivial (by simp [SV.den, SE.den, NE.den, PE.den, IE.den]) ?_
  conv => arg 7; reduce
  simp only [VC.den, BE.prop, IE.den, NE.den, SE.den, SV.den, HE.den, PE.den, BE.den, WS.den, WI.den, noneIn, List.map_cons, List.map_nil, Int.cast_ofNat_Int, reduceIte, Nat.reduceEqDiff, Env.setE, Env.setH, Env.setB, Env.setI, Env.setP, Env.setW]
  intro w1 hw1 ho1
  refine (there_live Z K sb md me key now w1 (by rw [hw1]; exact H) (by omega) hl).mono ?_
  rintro e1 v1 ⟨b, p, ok, rfl, hH, hb, hx1, hp1⟩
  rw [hw1] at hx1
  refine ⟨hp1.trans ho1, _, hx1.frame (fun _ => False), trivial, b, rfl, fun h => absurd h (by omega), fun _ => ?_⟩
  intro w2 hw2 ho2
  refine (Empty_any vb t _ (by rw [hw2]; exact hx1.cellsAt hT)).mono ?_
  rintro e2 v2 ⟨rfl, hx2, hp2⟩
  rw [hw2] at hx2
  refine ⟨hp2.trans ho2, hx2, ?_⟩
  refine ⟨_, rfl, fun h => (by cases h.1), fun _ => ?_⟩
  intro w3 hw3 ho3
  refine (Empty_any vb t _ (by rw [hw3]; exact (hx1.trans hx2).cellsAt hT)).mono ?_
  rintro e3 v3 ⟨rfl, hx3, hp3⟩
  rw [hw3] at hx3
  refine ⟨hp3.trans ho3, hx3, ?_⟩
  have hX := hx1.trans (hx2.trans hx3)
  obtain ⟨s, Hs, rfl, rfl, rfl, hv⟩ := H.ext hX
  refine ⟨_, rfl, fun _ => ⟨_, Hs.hd.at0 (j := 3) rfl, fun w4 hw4 ho4 => ?_⟩, fun h => (h (by simp)).elim⟩
  refine (dPutP_x s.D.d s.D.db s.D.nb s.D.lb s.D.tb s.D.gb s.seed s.Md key (some ⟨vb, 0, none⟩) w4 (by rw [hw4]; exact Hs.d) (by omega) (by omega)).mono ?_
  rintro e4 v4 ⟨rfl, hf4, hp4, g, hg, HD⟩
  rw [hw4] at hf4 hg
  obtain ⟨H4, hz4⟩ := Hs.onD hf4 hg HD
  refine ⟨hp4.trans ho4, _, hz4, trivial, _, rfl, _, H4.hd.at0 (j := 4) rfl, fun w5 hw5 ho5 => ?_⟩
  refine (dDeleteI_x s.E.d s.E.db s.E.nb s.E.lb s.E.tb s.E.gb s.seed s.Me key w5 (by rw [hw5]; exact H4.e) (by omega) (by omega)).mono ?_
  rintro e5 v5 ⟨rfl, hf5, hp5, HE⟩
  rw [hw5] at hf5
  obtain ⟨H5, hz5⟩ := H4.onE (g := s.E.gb) hf5 (.inl rfl) HE
  have ex : SpS Z K v5.heap s.sb (pt s.Md key (some ⟨vb, 0, none⟩)) (rm s.Me key) := ⟨_, H5, rfl, rfl, rfl, hv⟩
  refine ⟨hp5.trans ho5, _, hz5, trivial, _, rfl, fun w6 hw6 ho6 => ?_⟩
  refine (changed_S Z K s.sb _ _ key w6 (by rw [hw6]; exact ex) hk (by omega) hK).mono ?_
  rintro e6 v6 ⟨rfl, hf6, hp6, H6⟩
  rw [hw6] at hf6
  refine ⟨hp6.trans ho6, _, hf6, trivial, rfl, fun hf w7 hw7 ho7 => ⟨rfl, ?_, ho7, by rw [hw7]; exact H6⟩⟩
  rw [hw7]
  exact hf.mono fun b _ h => by simpa using h
end Go.Proofs.YtkcjhabbgaaknaaGreat
/- When a key ends; a key is called otherwise. -/
namespace Go.Proofs.YtkcjhabbgaaknaaGreat
open E
set_option maxRecDepth 100000
theorem here {md : List (Key × Option Addr)} (hu : (md.map (·.1)).Nodup) {key : Key} {a : Addr} (hin : (key, some a) ∈ md) {p : Option Addr} {ok : Bool} (h : HasP md key p ok) : p = some a := by
  rcases h with ⟨_, hm⟩ | ⟨_, _, hm⟩
  · exact uniq_val hu hm hin
  · exact absurd rfl (hm _ hin)
theorem len_rm {α : Type} (l : List (Key × α)) (key : Key) : (rm l key).length ≤ l.length := List.length_filter_le _ _
theorem Expire_S (Z : Nat → Prop) (K : List Key) (sb : Nat) (md : List (Key × Option Addr)) (me : List (Key × Int)) (key : Key) (at_ now : Int) (a : Addr) (w : World) (H : SpS Z K w.heap sb md me) (hk : key ∈ K) (hs : key.length ≤ 4096) (hK : K.length ≤ 12) (hme : me.length ≤ 12) (hl : ∀ x ∈ me, now < x.2) (hin : (key, some a) ∈ md) (hat : now < at_) :
    Calls Tryz.prog 10 #[.pointer (some ⟨sb, 0, none⟩), .string (bs key), .int .i64 at_, .int .i64 now] w (SpR Z K w.heap (outw w) sb (.bool true) md (pt me key at_)) := by
  refine begins (k10 {}) [.ptr (.at (.v 0) (.c 0)), .str (.v 0), .int .i64 (.v 1), .int .i64 (.v 0)] [] { n := fun _ => sb, i := fun j => if j = 0 then now else at_, s := fun _ => key, h := fun _ => w.heap, o := outw w } 2 1000 rfl rfl rfl trivial (by simp [SV.den, SE.den, NE.den, PE.den, IE.den]) ?_
  conv => arg 7; reduce
  simp only [VC.den, BE.prop, IE.den, NE.den, SE.den, SV.den, HE.den, PE.den, BE.den, WS.den, WI.den, noneIn, List.map_cons, List.map_nil, reduceIte, Nat.reduceEqDiff, Env.setE, Env.setH, Env.setB, Env.setI, Env.setP, Env.setW]
  intro w1 hw1 ho1
  refine (there_live Z K sb md me key now w1 (by rw [hw1]; exact H) (by omega) hl).mono ?_
  rintro e1 v1 ⟨b, p, ok, rfl, hH, hb, hx1, hp1⟩
  rw [hw1] at hx1
  have hp := here H.nd.1 hin hH
  refine ⟨hp1.trans ho1, _, hx1.frame (fun b => ¬ Z b), trivial, b, rfl, fun h => absurd (hb.2 (by rw [hp]; simp)) h, fun _ => ⟨fun h => absurd h (by omega), fun _ => ?_⟩⟩
  obtain ⟨s, Hs, rfl, rfl, rfl, hv⟩ := H.ext hx1
  refine ⟨_, Hs.hd.at0 (j := 4) rfl, fun w4 hw4 ho4 => ?_⟩
  refine (dPutI_x s.E.d s.E.db s.E.nb s.E.lb s.E.tb s.E.gb s.seed s.Me key at_ w4 (by rw [hw4]; exact Hs.e) (by omega) (by omega)).mono ?_
  rintro e4 v4 ⟨rfl, hf4, hp4, g, hg, HE⟩
  rw [hw4] at hf4 hg
  obtain ⟨H4, hz4⟩ := Hs.onE hf4 hg HE
  have ex : SpS Z K v4.heap s.sb s.Md (pt s.Me key at_) := ⟨_, H4, rfl, rfl, rfl, hv⟩
  refine ⟨hp4.trans ho4, _, hz4, trivial, _, rfl, fun w6 hw6 ho6 => ?_⟩
  refine (changed_S Z K s.sb _ _ key w6 (by rw [hw6]; exact ex) hk (by omega) hK).mono ?_
  rintro e6 v6 ⟨rfl, hf6, hp6, H6⟩
  rw [hw6] at hf6
  refine ⟨hp6.trans ho6, _, hf6, trivial, rfl, fun hf w7 hw7 ho7 => ⟨rfl, ?_, ho7, by rw [hw7]; exact H6⟩⟩
  rw [hw7]
  exact hf.mono fun b _ h => by simpa using h
theorem Expiry_S (Z : Nat → Prop) (K : List Key) (sb : Nat) (md : List (Key × Option Addr)) (me : List (Key × Int)) (key : Key) (now : Int) (a : Addr) (w : World) (H : SpS Z K w.heap sb md me) (hs : key.length ≤ 4096) (hl : ∀ x ∈ me, now < x.2) (hin : (key, some a) ∈ md) :
    Calls Tryz.prog 13 #[.pointer (some ⟨sb, 0, none⟩), .string (bs key), .int .i64 now] w fun e w' => ∃ x ok, e = .returned (.tuple #[.int .i64 x, .bool ok]) ∧ HasI me key x ok ∧ Ext w.heap w'.heap ∧ outw w' = outw w := by
  refine begins (k13 {}) [.ptr (.at (.v 0) (.c 0)), .str (.v 0), .int .i64 (.v 0)] [] { n := fun _ => sb, i := fun j => now, s := fun _ => key, h := fun _ => w.heap, o := outw w } 2 1000 rfl rfl rfl trivial (by simp [SV.den, SE.den, NE.den, PE.den, IE.den]) ?_
  conv => arg 7; reduce
  simp only [VC.den, BE.prop, IE.den, NE.den, SE.den, SV.den, HE.den, PE.den, BE.den, WS.den, WI.den, noneIn, List.map_cons, List.map_nil, Int.cast_ofNat_Int, reduceIte, Nat.reduceEqDiff, Env.setE, Env.setH, Env.setB, Env.setI, Env.setP, Env.setW]
  intro w1 hw1 ho1
  refine (there_live Z K sb md me key now w1 (by rw [hw1]; exact H) (by omega) hl).mono ?_
  rintro e1 v1 ⟨b, p, ok, rfl, hH, hb, hx1, hp1⟩
  rw [hw1] at hx1
  have hp := here H.nd.1 hin hH
  obtain ⟨s, Hs, rfl, rfl, rfl, hv⟩ := H.ext hx1
  refine ⟨hp1.trans ho1, _, hx1.frame (fun _ => False), trivial, b, rfl, fun h => absurd (hb.2 (by rw [hp]; simp)) h, fun _ => ⟨_, Hs.hd.at0 (j := 4) rfl, fun w4 hw4 ho4 => ?_⟩⟩
  refine (dGetI_any s.E.d s.E.db s.E.nb s.E.lb s.E.tb s.E.gb s.seed s.Me key w4 (by rw [hw4]; exact Hs.e) (by omega)).mono ?_
  rintro e4 v4 ⟨x, ok4, rfl, hH4, hx4, hp4⟩
  rw [hw4] at hx4
  exact ⟨hp4.trans ho4, hx4, x, ok4, rfl, fun hf w5 hw5 ho5 => ⟨x, ok4, rfl, hH4, by rw [hw5]; exact hx1.trans hx4, ho5⟩⟩
theorem lay_S (Z : Nat → Prop) (K : List Key) (sb vb : Nat) (t : List UInt8) (md : List (Key × Option Addr)) (me : List (Key × Int)) (key : Key) (at_ now : Int) (timed : Bool) (w : World) (H : SpS Z K w.heap sb md me) (hk : key ∈ K) (hs : key.length ≤ 4096) (hK : K.length ≤ 12) (hmd : md.length ≤ 12) (hme : me.length ≤ 12) (hl : ∀ x ∈ me, now < x.2)
    (hT : TextAt w.heap vb t) (hz : Z vb) :
    Calls Tryz.prog 34 #[.pointer (some ⟨sb, 0, none⟩), .string (bs key), .pointer (some ⟨vb, 0, none⟩), .int .i64 at_, .bool timed, .int .i64 now] w (SpR Z K w.heap (outw w) sb (.tuple #[]) (pt md key (some ⟨vb, 0, none⟩)) (if timed = true then pt (rm me key) key at_ else rm me key)) := by
  refine begins (k34 {}) [.ptr (.at (.v 0) (.c 0)), .str (.v 0), .ptr (.at (.v 1) (.c 0)), .int .i64 (.v 1), .bool (.v 0), .int .i64 (.v 0)] [] { n := fun j => if j = 0 then sb else vb, b := fun _ => timed, i := fun j => if j = 0 then now else at_, s := fun _ => key, h := fun _ => w.heap, o := outw w } 2 1000 rfl rfl rfl trivial (by simp [SV.den, SE.den, NE.den, PE.den, IE.den, BE.den]) ?_
  conv => arg 7; reduce
  simp only [VC.den, BE.prop, IE.den, NE.den, SE.den, SV.den, HE.den, PE.den, WS.den, WI.den, noneIn, List.map_cons, List.map_nil, reduceIte, Nat.reduceEqDiff, Env.setE, Env.setH, Env.setI, Env.setP, Env.setW]
  intro w1 hw1 ho1
  refine (Put_S Z K sb vb t md me key now w1 (by rw [hw1]; exact H) hk hs hK hmd hme hl (by rw [hw1]; exact hT) hz).mono ?_
  rintro e1 v1 ⟨rfl, hf1, hp1, H1⟩
  rw [hw1] at hf1
  have hlen := len_rm me key
  refine ⟨hp1.trans ho1, _, hf1, trivial, _, rfl, fun ht => ?_, fun ht hf w2 hw2 ho2 => ?_⟩
  · obtain ⟨s, Hs, rfl, h2, h3, hv⟩ := H1
    refine ⟨_, Hs.hd.at0 (j := 4) rfl, fun w4 hw4 ho4 => ?_⟩
    refine (dPutI_x s.E.d s.E.db s.E.nb s.E.lb s.E.tb s.E.gb s.seed s.Me key at_ w4 (by rw [hw4]; exact Hs.e) (by omega) (by rw [h3]; omega)).mono ?_
    rintro e4 v4 ⟨rfl, hf4, hp4, g, hg, HE⟩
    rw [hw4] at hf4 hg
    obtain ⟨H4, hz4⟩ := Hs.onE hf4 hg HE
    have ex : SpS Z K v4.heap s.sb (pt md key (some ⟨vb, 0, none⟩)) (pt (rm me key) key at_) := ⟨_, H4, rfl, h2, by rw [← h3], hv⟩
    refine ⟨hp4.trans ho4, _, hz4, trivial, _, rfl, fun hf w7 hw7 ho7 => ⟨rfl, ?_, ho7, by rw [hw7, if_pos ht]; exact ex⟩⟩
    rw [hw7]
    exact hf.mono fun b _ h => by simpa using h
  · refine ⟨rfl, ?_, ho2, by rw [hw2, if_neg ht]; exact H1⟩
    rw [hw2]
    exact hf.mono fun b _ h => by simpa using h
end Go.Proofs.YtkcjhabbgaaknaaGreat
/- A key is called otherwise. -/
namespace Go.Proofs.YtkcjhabbgaaknaaGreat
open E
set_option maxRecDepth 100000
theorem rm_live {me : List (Key × Int)} {now : Int} (key : Key) (h : ∀ x ∈ me, now < x.2) : ∀ x ∈ rm me key, now < x.2 := fun x hx => h x (mem_rm.1 hx).1
theorem Rename_none (Z : Nat → Prop) (K : List Key) (sb : Nat) (md : List (Key × Option Addr)) (me : List (Key × Int)) (fr to : Key) (now : Int) (w : World) (H : SpS Z K w.heap sb md me) (hs : fr.length ≤ 4096) (hl : ∀ x ∈ me, now < x.2) (hno : ∀ x ∈ md, x.1 ≠ fr) :
    Calls Tryz.prog 11 #[.pointer (some ⟨sb, 0, none⟩), .string (bs fr), .string (bs to), .int .i64 now] w (SpR Z K w.heap (outw w) sb (.bool false) md me) := by
  refine begins (k11 {}) [.ptr (.at (.v 0) (.c 0)), .str (.v 0), .str (.v 1), .int .i64 (.v 0)] [] { n := fun _ => sb, i := fun j => now, s := fun j => if j = 0 then fr else to, h := fun _ => w.heap, o := outw w } 2 1000 rfl rfl rfl trivial (by simp [SV.den, SE.den, NE.den, PE.den, IE.den]) ?_
  conv => arg 7; reduce
  simp only [VC.den, BE.prop, IE.den, NE.den, SE.den, SV.den, HE.den, PE.den, BE.den, WS.den, WI.den, noneIn, List.map_cons, List.map_nil, Int.cast_ofNat_Int, reduceIte, Nat.reduceEqDiff, Env.setE, Env.setH, Env.setB, Env.setI, Env.setP, Env.setW]
  intro w1 hw1 ho1
  refine (Get_live Z K sb md me fr now w1 (by rw [hw1]; exact H) (by omega) hl).mono ?_
  rintro e1 v1 ⟨p, ok, rfl, hH, hx1, hp1⟩
  rw [hw1] at hx1
  have hp : p = none := by
    rcases hH with ⟨_, hm⟩ | ⟨_, h, _⟩
    · exact absurd rfl (hno _ hm)
    · exact h
  refine ⟨hp1.trans ho1, _, hx1.frame (fun _ => False), trivial, p, rfl, ?_⟩
  refine ⟨fun _ hf w2 hw2 ho2 => ⟨rfl, ?_, ho2, by rw [hw2]; exact H.ext hx1⟩, fun h => absurd (.inl hp) h⟩
  rw [hw2]
  exact hx1.frame _
theorem Rename_same (Z : Nat → Prop) (K : List Key) (sb : Nat) (md : List (Key × Option Addr)) (me : List (Key × Int)) (fr : Key) (a : Addr) (now : Int) (w : World) (H : SpS Z K w.heap sb md me) (hs : fr.length ≤ 4096) (hl : ∀ x ∈ me, now < x.2) (hk : fr ∈ K) (hK : K.length ≤ 12) (hin : (fr, some a) ∈ md) :
    Calls Tryz.prog 11 #[.pointer (some ⟨sb, 0, none⟩), .string (bs fr), .string (bs fr), .int .i64 now] w (SpR Z K w.heap (outw w) sb (.bool true) md me) := by
  refine begins (k11 {}) [.ptr (.at (.v 0) (.c 0)), .str (.v 0), .str (.v 1), .int .i64 (.v 0)] [] { n := fun _ => sb, i := fun j => now, s := fun j => fr, h := fun _ => w.heap, o := outw w } 2 1000 rfl rfl rfl trivial (by simp [SV.den, SE.den, NE.den, PE.den, IE.den]) ?_
  conv => arg 7; reduce
  simp only [VC.den, BE.prop, IE.den, NE.den, SE.den, SV.den, HE.den, PE.den, BE.den, WS.den, WI.den, noneIn, List.map_cons, List.map_nil, Int.cast_ofNat_Int, reduceIte, Nat.reduceEqDiff, Env.setE, Env.setH, Env.setB, Env.setI, Env.setP, Env.setW]
  intro w1 hw1 ho1
  refine (Get_live Z K sb md me fr now w1 (by rw [hw1]; exact H) (by omega) hl).mono ?_
  rintro e1 v1 ⟨p, ok, rfl, hH, hx1, hp1⟩
  rw [hw1] at hx1
  have hp := here H.nd.1 hin hH
  refine ⟨hp1.trans ho1, _, hx1.frame (fun _ => False), trivial, p, rfl, fun h => ?_, fun _ => ⟨fun _ w2 hw2 ho2 => ?_, fun h => absurd trivial h⟩⟩
  · rcases h with h | h
    · rw [hp] at h; cases h
    · omega
  · refine (changed_S Z K sb md me fr w2 (by rw [hw2]; exact H.ext hx1) hk (by omega) hK).mono ?_
    rintro e6 v6 ⟨rfl, hf6, hp6, H6⟩
    rw [hw2] at hf6
    refine ⟨hp6.trans ho2, _, hf6, trivial, rfl, fun hf w7 hw7 ho7 => ⟨rfl, ?_, ho7, by rw [hw7]; exact H6⟩⟩
    rw [hw7]
    exact hf.mono fun b _ h => by simpa using h
theorem Rename_move (Z : Nat → Prop) (K : List Key) (sb : Nat) (md : List (Key × Option Addr)) (me : List (Key × Int)) (fr to : Key) (now : Int) (w : World) (H : SpS Z K w.heap sb md me) (hs : fr.length ≤ 4096) (hl : ∀ x ∈ me, now < x.2) (hk : fr ∈ K) (hk2 : to ∈ K) (hs2 : to.length ≤ 4096) (hK : K.length ≤ 12) (hmd : md.length ≤ 12) (hme : me.length ≤ 12) (vb : Nat) (t : List UInt8) (hT : TextAt w.heap vb t) (hz : Z vb) (hin : (fr, some ⟨vb, 0, none⟩) ∈ md) (hne : fr ≠ to) :
    Calls Tryz.prog 11 #[.pointer (some ⟨sb, 0, none⟩), .string (bs fr), .string (bs to), .int .i64 now] w fun e w' => ∃ x ok, HasI me fr x ok ∧ SpR Z K w.heap (outw w) sb (.bool true) (pt (rm md fr) to (some ⟨vb, 0, none⟩)) (if ok = true then pt (rm (rm me fr) to) to x else rm (rm me fr) to) e w' := by
  refine begins (k11 {}) [.ptr (.at (.v 0) (.c 0)), .str (.v 0), .str (.v 1), .int .i64 (.v 0)] [] { n := fun _ => sb, i := fun j => now, s := fun j => if j = 0 then fr else to, h := fun _ => w.heap, o := outw w } 2 1000 rfl rfl rfl trivial (by simp [SV.den, SE.den, NE.den, PE.den, IE.den]) ?_
  conv => arg 7; reduce
  simp only [VC.den, BE.prop, IE.den, NE.den, SE.den, SV.den, HE.den, PE.den, BE.den, WS.den, WI.den, noneIn, List.map_cons, List.map_nil, Int.cast_ofNat_Int, reduceIte, Nat.reduceEqDiff, Env.setE, Env.setH, Env.setB, Env.setI, Env.setP, Env.setW]
  intro w1 hw1 ho1
  refine (Get_live Z K sb md me fr now w1 (by rw [hw1]; exact H) (by omega) hl).mono ?_
  rintro e1 v1 ⟨p, ok, rfl, hH, hx1, hp1⟩
  rw [hw1] at hx1
  have hp := here H.nd.1 hin hH
  obtain ⟨s, Hs, h1, h2, h3, hv⟩ := H.ext hx1
  refine ⟨hp1.trans ho1, _, hx1.frame (fun b => ¬ Z b), trivial, p, rfl, fun h => ?_, fun _ => ⟨fun h => absurd h hne, fun _ => ⟨_, by rw [← h1]; exact Hs.hd.at0 (j := 4) rfl, fun w2 hw2 ho2 => ?_⟩⟩⟩
  · rcases h with h | h
    · rw [hp] at h; cases h
    · omega
  · refine (dGetI_any s.E.d s.E.db s.E.nb s.E.lb s.E.tb s.E.gb s.seed s.Me fr w2 (by rw [hw2]; exact Hs.e) (by omega)).mono ?_
    rintro e2 v2 ⟨x, ok2, rfl, hH2, hx2, hp2⟩
    rw [hw2] at hx2
    rw [h3] at hH2
    refine ⟨hp2.trans ho2, hx2, x, ok2, rfl, fun w3 hw3 ho3 => ?_⟩
    have hX := hx1.trans hx2
    refine (drop_S Z K sb md me fr w3 (by rw [hw3]; exact H.ext hX) hk (by omega) hK hmd hme).mono ?_
    rintro e3 v3 ⟨rfl, hf3, hp3, H3⟩
    rw [hw3] at hf3
    refine ⟨hp3.trans ho3, _, hf3, trivial, rfl, fun w4 hw4 ho4 => ?_⟩
    rw [hp]
    have l1 := len_rm md fr
    have l2 := len_rm me fr
    refine (lay_S Z K sb vb t (rm md fr) (rm me fr) to x now ok2 w4 (by rw [hw4]; exact H3) hk2 hs2 hK (by omega) (by omega) (rm_live fr hl) (by rw [hw4]; exact TextAt.keep (hX.cellsAt hT) hf3 hz) hz).mono ?_
    rintro e4 v4 ⟨rfl, hf4, hp4, H4⟩
    rw [hw4] at hf4
    refine ⟨hp4.trans ho4, _, hf4, trivial, rfl, fun hf w7 hw7 ho7 => ⟨x, ok2, hH2, rfl, ?_, ho7, by rw [hw7]; exact H4⟩⟩
    rw [hw7]
    exact hf.mono fun b _ h => by simpa using h
theorem strs_at {h : Heap} {p : Option Addr} {l : List Key} (H : row h p (strs l)) {i : Nat} (hi : i < l.length) : ∃ b o, p = some ⟨b, o, none⟩ ∧ get h b (o + i) = some (.string (bs l[i])) := by
  rcases H with H | ⟨b, o, rfl, H⟩
  · have : l.length = 0 := by rw [← strs_length, H]; rfl
    omega
  · exact ⟨b, o, rfl, H i _ (by simp [strs, hi])⟩
theorem sweep_live (Z : Nat → Prop) (K : List Key) (sb : Nat) (md : List (Key × Option Addr)) (me : List (Key × Int)) (l : List Key) (p : Option Addr) (cap : Nat) (now : Int) (w : World) (H : SpS Z K w.heap sb md me) (hl : ∀ x ∈ me, now < x.2) (hr : row w.heap p (strs l)) (hll : l.length ≤ 1000) (hs : ∀ k ∈ l, k.length ≤ 9223372036854775807) :
    Calls Tryz.prog 36 #[.pointer (some ⟨sb, 0, none⟩), .slice p l.length cap, .int .i64 now] w fun e w' => ∃ n, e = .returned (.int .i64 n) ∧ Ext w.heap w'.heap ∧ outw w' = outw w := by
  refine begins (k36 {}) [.ptr (.at (.v 0) (.c 0)), .slice (.v 0) (.v 1) (.v 2), .int .i64 (.v 0)] [] { n := fun j => if j = 0 then sb else if j = 1 then l.length else cap, p := fun _ => p, i := fun j => now, h := fun _ => w.heap, o := outw w } 3 1000 rfl rfl rfl trivial (by simp [SV.den, NE.den, PE.den, IE.den]) ?_
  conv => arg 7; reduce
  simp only [VC.den, IE.den, NE.den, SV.den, HE.den, PE.den, WS.den, List.map_cons, List.map_nil, Int.cast_ofNat_Int, reduceIte, Nat.reduceEqDiff]
  intro _
  refine looping (k36 {}) [.ptr (.at (.v 0) (.c 0)), .int .i64 (.v 0), .int .i64 (.v 1), .slice (.v 0) (.v 1) (.v 2), .int .i64 (.ofN (.v 1)), .int .i64 (.ofN (.v 3))] []
    (fun y : Nat × Nat × Heap => { n := fun j => if j = 0 then sb else if j = 1 then l.length else if j = 2 then cap else y.1, p := fun _ => p, i := fun j => if j = 0 then now else (y.2.1 : Nat), h := fun _ => y.2.2, o := outw w }) 4 1000
    (fun y => y.1 ≤ l.length ∧ y.2.1 ≤ y.1 ∧ Ext w.heap y.2.2) (fun y => l.length - y.1) (0, 0, w.heap) ⟨Nat.zero_le _, Nat.le_refl _, Ext.refl _⟩ rfl (by simp [SV.den, NE.den, PE.den, IE.den]) rfl (fun _ => rfl) (fun _ _ => trivial) ?_
  rintro ⟨i, n, h⟩ ⟨hi, hn, hx⟩ N hN
  simp only at hi hn hx
  simp only [SV.den, PE.den, NE.den, IE.den, List.map_cons, List.map_nil, reduceIte, Nat.reduceEqDiff] at hN
  conv => arg 7; reduce
  simp only [VC.den, BE.prop, IE.den, NE.den, SE.den, SV.den, HE.den, PE.den, BE.den, WS.den, WI.den, noneIn, List.map_cons, List.map_nil, Int.cast_ofNat_Int, reduceIte, Nat.reduceEqDiff, Env.setE, Env.setH, Env.setB, Env.setS, Env.setN, Env.setW, inK_i64]
  refine ⟨fun h1 => ?_, fun h1 _ w1 hw1 ho1 => ⟨_, rfl, by rw [hw1]; exact hx, ho1⟩⟩
  have hlt : i < l.length := by omega
  obtain ⟨b, o, rfl, g0⟩ := strs_at (hx.row hr) hlt
  refine ⟨b, o, rfl, h1, _, g0, fun w1 hw1 ho1 => ?_⟩
  refine (there_live Z K sb md me l[i] now w1 (by rw [hw1]; exact H.ext hx) (hs _ (List.getElem_mem hlt)) hl).mono ?_
  rintro e1 v1 ⟨b', p', ok, rfl, _, _, hx1, hp1⟩
  rw [hw1] at hx1
  refine ⟨hp1.trans ho1, _, hx1.frame (fun _ => False), trivial, b', rfl, fun _ => ⟨by omega, by omega, fun _ => ?_⟩, fun _ => ⟨by omega, fun _ => ?_⟩⟩
  · exact hN (i + 1, n + 1, v1.heap) ⟨hlt, by simp only; omega, hx.trans hx1⟩ (by simp only; omega)
  · exact hN (i + 1, n, v1.heap) ⟨hlt, by simp only; omega, hx.trans hx1⟩ (by simp only; omega)
theorem Len_live (Z : Nat → Prop) (K : List Key) (sb : Nat) (md : List (Key × Option Addr)) (me : List (Key × Int)) (now : Int) (w : World) (H : SpS Z K w.heap sb md me) (hl : ∀ x ∈ me, now < x.2) (hme : me.length ≤ 12) :
    Calls Tryz.prog 14 #[.pointer (some ⟨sb, 0, none⟩), .int .i64 now] w (RetX (.int .i64 (md.length : Nat)) w.heap (outw w)) := by
  have HS := H
  obtain ⟨s, H, rfl, rfl, rfl, hv⟩ := H
  refine begins (k14 {}) [.ptr (.at (.v 0) (.c 0)), .int .i64 (.v 5)] [(.v 0, .c 0, [.int .u64 (.v 0), .int .i64 (.v 1), .int .i64 (.v 2), .ptr (.at (.v 1) (.c 0)), .ptr (.at (.v 2) (.c 0)), .ptr (.at (.v 3) (.c 0)), .int .u64 (.v 3), .int .i64 (.v 4)])]
    { n := fun j => if j = 0 then s.sb else if j = 1 then s.D.d else if j = 2 then s.E.d else s.V.d, i := fun j => if j = 0 then s.seed else if j = 1 then s.l1 else if j = 2 then s.l2 else if j = 3 then s.clock else if j = 4 then s.nx else now, h := fun _ => w.heap, o := outw w } 6 1000 rfl rfl rfl
    ⟨by simpa [NE.den, SV.den, IE.den, PE.den, Sp.v] using H.hd, trivial, trivial⟩ (by simp [SV.den, NE.den, PE.den, IE.den]) ?_
  conv => arg 7; reduce
  simp only [VC.den, IE.den, NE.den, SV.den, HE.den, PE.den, WS.den, WI.den, noneIn, List.map_cons, List.map_nil, reduceIte, Nat.reduceEqDiff, Env.setE, Env.setH, Env.setI, Env.setN, Env.setP, Env.setW]
  intro w1 hw1 ho1
  refine (dKeys_any s.E.d s.E.db s.E.nb s.E.lb s.E.tb s.E.gb s.seed s.Me w1 (by rw [hw1]; exact H.e)).mono ?_
  rintro e1 v1 ⟨l, hlp, p, cap, rfl, hr, hx1, hp1⟩
  rw [hw1] at hx1
  have hll : l.length ≤ 12 := by rw [hlp.length_eq, List.length_map]; exact hme
  have hkl : ∀ k ∈ l, k.length ≤ 9223372036854775807 := fun k hk => by
    obtain ⟨T, HT, hpm⟩ := H.e.tab
    obtain ⟨x, hx, rfl⟩ := List.mem_map.1 (hlp.subset hk)
    exact HT.kl x (hpm.symm.subset hx)
  refine ⟨hp1.trans ho1, hx1, p, _, cap, rfl, fun _ w2 hw2 ho2 => ?_⟩
  refine (sweep_live Z K s.sb s.Md s.Me l p cap now w2 (by rw [hw2]; exact HS.ext hx1) hl (by rw [hw2]; exact hr) (by omega) hkl).mono ?_
  rintro e2 v2 ⟨n, rfl, hx2, hp2⟩
  rw [hw2] at hx2
  have hX := hx1.trans hx2
  refine ⟨hp2.trans ho2, _, hx2.frame (fun _ => False), trivial, _, rfl, _, (hX.cellsAt H.hd).at0 (j := 3) rfl, fun w3 hw3 ho3 => ?_⟩
  refine (dLen_any s.D.d s.D.db s.D.nb s.D.lb s.D.tb s.D.gb s.seed s.Md w3 (by rw [hw3]; exact H.d.ext hX)).mono ?_
  rintro e3 v3 ⟨rfl, hx3, hp3⟩
  rw [hw3] at hx3
  exact ⟨hp3.trans ho3, hx3, _, rfl, fun _ w4 hw4 ho4 => ⟨rfl, by rw [hw4]; exact hX.trans hx3, ho4⟩⟩
end Go.Proofs.YtkcjhabbgaaknaaGreat
/- A new space. -/
namespace Go.Proofs.YtkcjhabbgaaknaaGreat
open E
set_option maxRecDepth 100000
theorem SNew_any (Z : Nat → Prop) (K : List Key) (seed l1 l2 : Int) (w : World) (hZ : ∀ b, Z b → b < w.heap.size) :
    Calls Tryz.prog 6 #[.agg #[.int .u64 seed, .int .i64 l1, .int .i64 l2]] w fun e w' => ∃ sb, e = .returned (.pointer (some ⟨sb, 0, none⟩)) ∧ Ext w.heap w'.heap ∧ SpS Z K w'.heap sb [] [] ∧ outw w' = outw w := by
  refine begins (k6 { tell := true }) [.agg [.int .u64 (.v 0), .int .i64 (.v 1), .int .i64 (.v 2)]] [] { i := fun j => if j = 0 then seed else if j = 1 then l1 else l2, h := fun _ => w.heap, o := outw w } 3 1000 rfl rfl rfl trivial (by simp [SV.den, IE.den]) ?_
  conv => arg 7; reduce
  simp only [VC.den, IE.den, NE.den, SV.den, HE.den, PE.den, WS.den, List.map_cons, List.map_nil, Int.cast_ofNat_Int, reduceIte, Nat.reduceEqDiff, Env.setE, Env.setH, Env.setN, Env.setP]
  intro w1 hw1 ho1
  refine (dNewP_any seed w1).mono ?_
  rintro e1 v1 ⟨a1, a2, a3, a4, a5, a6, rfl, hb1, hx1, HD, hp1⟩
  rw [hw1] at hb1 hx1
  refine ⟨hp1.trans ho1, hx1, _, rfl, fun w2 hw2 ho2 => ?_⟩
  refine (dNewI_any seed w2).mono ?_
  rintro e2 v2 ⟨b1, b2, b3, b4, b5, b6, rfl, hb2, hx2, HE, hp2⟩
  rw [hw2] at hb2 hx2
  refine ⟨hp2.trans ho2, hx2, _, rfl, fun w3 hw3 ho3 => ?_⟩
  refine (dNewU_any seed w3).mono ?_
  rintro e3 v3 ⟨c1, c2, c3, c4, c5, c6, rfl, hb3, hx3, HV, hp3⟩
  rw [hw3] at hb3 hx3
  refine ⟨hp3.trans ho3, hx3, _, rfl, fun hc _ hf w4 hw4 ho4 => ⟨v3.heap.size, rfl, by rw [hw4]; exact hf.none, ?_, ho4⟩⟩
  rw [hw4]
  have hd := HD.lt
  have he := HE.lt
  have hv := HV.lt
  have z0 : w.heap.size ≤ (w.heap.push (.cells #[.int .u64 seed, .int .i64 l1, .int .i64 l2] 26)).size := by simp
  have z1 := hx1.le
  have z2 := hx2.le
  have z3 := hx3.le
  have hE := ext_push v3.heap (.cells #[.int .u64 seed, .int .i64 l1, .int .i64 l2, .pointer (some ⟨a1, 0, none⟩), .pointer (some ⟨b1, 0, none⟩), .pointer (some ⟨c1, 0, none⟩), .int .u64 0, .int .i64 0] 69)
  refine ⟨⟨v3.heap.size, seed, l1, l2, 0, 0, ⟨a1, a2, a3, a4, a5, a6⟩, ⟨b1, b2, b3, b4, b5, b6⟩, ⟨c1, c2, c3, c4, c5, c6⟩, [], [], []⟩, ⟨hc, HD.ext (hx2.trans (hx3.trans hE)), HE.ext (hx3.trans hE), HV.ext hE, fun h => ?_, fun h => ?_, fun h => ?_, fun b h h' => ?_, fun b h h' => ?_, fun b h h' => ?_, fun h => ?_, fun b h h' => ?_, fun b h h' => ?_, fun b h h' => ?_, fun b h => ?_⟩, rfl, rfl, rfl, fun x hx => by cases hx⟩
  · have := hd _ h; simp only at this; omega
  · have := he _ h; simp only at this; omega
  · exact absurd (hv _ h) (Nat.lt_irrefl _)
  · have q1 := hd _ h; have q2 := hb2 _ h'; omega
  · have q1 := hd _ h; have q2 := hb3 _ h'; omega
  · have q1 := he _ h; have q2 := hb3 _ h'; omega
  · have q1 := hZ _ h; simp only at q1; omega
  · have q1 := hZ _ h'; have q2 := hb1 _ h; omega
  · have q1 := hZ _ h'; have q2 := hb2 _ h; omega
  · have q1 := hZ _ h'; have q2 := hb3 _ h; omega
  · have q1 := hZ _ h; simp only [Array.size_push]; omega
theorem SpS.more {Z : Nat → Prop} {K : List Key} {h h' : Heap} {sb : Nat} {md : List (Key × Option Addr)} {me : List (Key × Int)} (H : SpS Z K h sb md me) (hx : Ext h h') {vb : Nat} (h1 : h.size ≤ vb) (h2 : vb < h'.size) : SpS (fun b => Z b ∨ b = vb) K h' sb md me := by
  obtain ⟨s, H, r⟩ := H
  have H' := H.ext hx
  have hd := H.dl
  have he := H.el
  have hv := H.vl
  refine ⟨s, ⟨H'.hd, H'.d, H'.e, H'.v, H'.sd, H'.se, H'.sv, H'.de, H'.dv, H'.ev, fun h => ?_, fun b hb h => ?_, fun b hb h => ?_, fun b hb h => ?_, fun b h => ?_⟩, r⟩
  · rcases h with h | h
    · exact H.zs h
    · have := H.hd.1; omega
  · rcases h with h | h
    · exact H.zd b hb h
    · have := hd b hb; omega
  · rcases h with h | h
    · exact H.ze b hb h
    · have := he b hb; omega
  · rcases h with h | h
    · exact H.zv b hb h
    · have := hv b hb; omega
  · rcases h with h | rfl
    · exact H'.zl b h
    · exact h2
theorem frame_old {Z : Nat → Prop} {h h' : Heap} (hf : E.Frame (fun b => ¬ Z b) h h') {h0 : Heap} (hx : Ext h0 h) (hz : ∀ b, b < h0.size → Z b) : Ext h0 h' :=
  ⟨Nat.le_trans hx.le hf.le, fun b hb => by rw [hf.old b (Nat.lt_of_lt_of_le hb hx.le) (fun h => h (hz b hb)), hx.old b hb]⟩
end Go.Proofs.YtkcjhabbgaaknaaGreat
/- What chapter 16 knows; a number within two others. -/
namespace Go.Proofs.YtkcjhabbgaaknaaGreat
open E
set_option maxRecDepth 100000
def ka : Key := bytesOf [97]
def kx : Key := bytesOf [120]
def ky : Key := bytesOf [121]
def kK : List Key := [ka, kx, ky]
theorem known_any (w : World) : Calls Tryz.prog 15 #[] w (RetX (.bool true) w.heap (outw w)) := by
  refine begins (k15 {}) [] [] { h := fun _ => w.heap, o := outw w } 1 1000 rfl rfl rfl trivial (by simp) ?_
  conv => arg 7; reduce
  simp only [VC.den, BE.prop, IE.den, SE.den, SV.den, HE.den, PE.den, BE.den, WS.den, WI.den, noneIn, List.map_cons, List.map_nil, Int.cast_ofNat_Int, reduceIte, Nat.reduceEqDiff, Env.setE, Env.setH, Env.setB, Env.setI, Env.setP, Env.setW]
  have hZ0 : ∀ b, b < w.heap.size → b < w.heap.size := fun _ h => h
  intro w1 hw1 ho1
  refine (SNew_any (fun b => b < w.heap.size) kK 1 0 0 w1 (by rw [hw1]; exact hZ0)).mono ?_
  rintro e1 v1 ⟨sb, rfl, hx1, H1, hp1⟩
  rw [hw1] at hx1
  refine ⟨hp1.trans ho1, hx1, _, rfl, fun h => (by cases h), fun _ w2 hw2 ho2 => ?_⟩
  refine (OfText_any (bytesOf [49]) w2).mono ?_
  rintro e2 v2 ⟨vb, rfl, hvb, hT, hx2, hp2⟩
  rw [hw2] at hx2 hvb
  have H2 := H1.more hx2 hvb hT.1
  refine ⟨hp2.trans ho2, hx2, _, rfl, fun w3 hw3 ho3 => ?_⟩
  have hka : ka ∈ kK := by simp [kK]
  refine (Put_S (fun b => b < w.heap.size ∨ b = vb) kK sb vb (bytesOf [49]) [] [] ka 0 w3 (by rw [hw3]; exact H2) hka (by decide) (by decide) (by decide) (by decide) (fun x hx => by cases hx) (by rw [hw3]; exact hT) (Or.inr rfl)).mono ?_
  rintro e3 v3 ⟨rfl, hf3, hp3, H3⟩
  rw [hw3] at hf3
  refine ⟨hp3.trans ho3, _, hf3, trivial, _, rfl, fun h => absurd rfl h, fun _ w4 hw4 ho4 => ?_⟩
  have e3 : pt ([] : List (Key × Option Addr)) ka (some ⟨vb, 0, none⟩) = [(ka, some ⟨vb, 0, none⟩)] := rfl
  have e3' : rm ([] : List (Key × Int)) ka = [] := rfl
  rw [e3, e3'] at H3
  refine (Expire_S (fun b => b < w.heap.size ∨ b = vb) kK sb _ _ ka 5 0 ⟨vb, 0, none⟩ w4 (by rw [hw4]; exact H3) hka (by decide) (by decide) (by decide) (fun x hx => by cases hx) (by simp) (by decide)).mono ?_
  rintro e4 v4 ⟨rfl, hf4, hp4, H4⟩
  rw [hw4] at hf4
  have e4 : pt ([] : List (Key × Int)) ka 5 = [(ka, 5)] := rfl
  rw [e4] at H4
  refine ⟨hp4.trans ho4, _, hf4, trivial, _, rfl, ?_⟩
  have hZ : ∀ b, b < w.heap.size → b < w.heap.size ∨ b = vb := fun b h => .inl h
  have x4 := frame_old hf4 (frame_old hf3 (hx1.trans hx2) hZ) hZ
  have hl4 : ∀ x ∈ [(ka, (5 : Int))], (4 : Int) < x.2 := by simp
  refine ⟨fun _ w5 hw5 ho5 => ?_, fun h => absurd rfl h⟩
  refine (Get_live (fun b => b < w.heap.size ∨ b = vb) kK sb _ _ ka 4 w5 (by rw [hw5]; exact H4) (by decide) hl4).mono ?_
  rintro e5 v5 ⟨p5, ok5, rfl, hH5, hx5, hp5⟩
  rw [hw5] at hx5
  have hpp := here H4.nd.1 (List.mem_singleton.2 rfl) hH5
  refine ⟨hp5.trans ho5, _, hx5.frame (fun _ => False), trivial, p5, rfl, fun _ w6 hw6 ho6 => ?_, fun h => absurd (by rw [hpp]; simp) h⟩
  refine (Get_dead (fun b => b < w.heap.size ∨ b = vb) kK sb _ _ ka 5 w6 (by rw [hw6]; exact H4.ext hx5) (by decide) hka (by decide) (by simp) (by simp) 5 (List.mem_singleton.2 rfl) (by decide)).mono ?_
  rintro e6 v6 ⟨rfl, hf6, hp6, H6⟩
  rw [hw6] at hf6
  have e6 : rm [(ka, some (⟨vb, 0, none⟩ : Addr))] ka = [] := by simp [rm]
  have e6' : rm [(ka, (5 : Int))] ka = [] := by simp [rm]
  rw [e6, e6'] at H6
  have x6 := frame_old hf6 (x4.trans hx5) hZ
  refine ⟨hp6.trans ho6, _, hf6, trivial, _, rfl, fun _ w7 hw7 ho7 => ?_, fun h => absurd rfl h⟩
  refine (Len_live (fun b => b < w.heap.size ∨ b = vb) kK sb _ _ 5 w7 (by rw [hw7]; exact H6) (fun x hx => by cases hx) (by simp)).mono ?_
  rintro e7 v7 ⟨rfl, hx7, hp7⟩
  rw [hw7] at hx7
  refine ⟨hp7.trans ho7, _, hx7.frame (fun _ => False), trivial, _, rfl, fun _ w8 hw8 ho8 => ?_, fun h => absurd rfl h⟩
  refine (Rename_none (fun b => b < w.heap.size ∨ b = vb) kK sb _ _ kx ky 6 w8 (by rw [hw8]; exact H6.ext hx7) (by decide) (fun x hx => by cases hx) (fun x hx => by cases hx)).mono ?_
  rintro e8 v8 ⟨rfl, hf8, hp8, H8⟩
  rw [hw8] at hf8
  have x8 := frame_old hf8 (x6.trans hx7) hZ
  exact ⟨hp8.trans ho8, _, hf8, trivial, _, rfl, fun _ w9 hw9 ho9 => ⟨rfl, by rw [hw9]; exact x8, ho9⟩⟩
theorem Within_any (n lo hi : Int) (w : World) (h1 : lo ≤ hi) (h2 : -1000000000 ≤ lo) (h3 : hi ≤ 1000000000) : Calls Tryz.prog 9 #[.int .i64 n, .int .i64 lo, .int .i64 hi] w fun e w' => ∃ x, e = .returned (.int .i64 x) ∧ lo ≤ x ∧ x ≤ hi ∧ Ext w.heap w'.heap ∧ outw w' = outw w := by
  refine begins (k9 {}) [.int .i64 (.v 0), .int .i64 (.v 1), .int .i64 (.v 2)] [] { i := fun j => if j = 0 then n else if j = 1 then lo else hi, h := fun _ => w.heap, o := outw w } 3 1000 rfl rfl rfl trivial (by simp [SV.den, IE.den]) ?_
  conv => arg 7; reduce
  simp only [VC.den, BE.prop, IE.den, SV.den, HE.den, WS.den, Int.cast_ofNat_Int, reduceIte, Nat.reduceEqDiff, inK_i64]
  have a1 := Int.tmod_lt_of_pos n (show 0 < hi - lo + 1 by omega)
  have a2 := Int.lt_tmod_of_pos n (show 0 < hi - lo + 1 by omega)
  refine ⟨by omega, by omega, by omega, fun h => ⟨by omega, by omega, by omega, by omega, fun hf w1 hw1 ho1 => ⟨_, rfl, by omega, by omega, by rw [hw1]; exact hf.none, ho1⟩⟩, fun h => ⟨by omega, fun hf w1 hw1 ho1 => ⟨_, rfl, by omega, by omega, by rw [hw1]; exact hf.none, ho1⟩⟩⟩
end Go.Proofs.YtkcjhabbgaaknaaGreat
