import Derived.Test.YtkcjhabbgaaknaaGreatEng2
/- The engine: the executor's soundness. -/
namespace Go.Proofs.YtkcjhabbgaaknaaGreat.E
section
variable {P : Program} {body : Code} {nt : Nat} {keep : List Nat → List Nat} {Qb : Exit → Act → World → Prop} {R : Ending → World → Prop} {ρ : Env}

def HeldsDen (ρ : Env) (L : List (List Nat × List (NE × NE × SV))) : List HeldC :=
  L.map fun x => (x.1, fun w => ∀ e ∈ x.2, get w.heap (e.1.den ρ) (e.2.1.den ρ) = some (e.2.2.den ρ))
def HeldFix (m : Nat) (ρ : Env) (L : List (List Nat × List (NE × NE × SV))) : Prop :=
  ∀ x ∈ L, ∀ e ∈ x.2, Fix NE.den m ρ e.1 ∧ Fix NE.den m ρ e.2.1 ∧ Fix SV.den m ρ e.2.2
theorem HeldFix.later {m m' : Nat} {ρ ρ1 : Env} {L : List (List Nat × List (NE × NE × SV))} (h : HeldFix m ρ L) (ha : Agree m ρ ρ1) (hm : m ≤ m') : HeldFix m' ρ1 L :=
  fun x hx e he => ⟨(h x hx e he).1.later ha hm, (h x hx e he).2.1.later ha hm, (h x hx e he).2.2.later ha hm⟩
theorem HeldsDen_eq {m : Nat} {ρ ρ1 : Env} {L : List (List Nat × List (NE × NE × SV))} (h : HeldFix m ρ L) (ha : Agree m ρ ρ1) : HeldsDen ρ1 L = HeldsDen ρ L := by
  unfold HeldsDen
  refine List.map_congr_left fun x hx => ?_
  congr 1
  funext w
  apply propext
  refine ⟨fun h1 e he => ?_, fun h1 e he => ?_⟩
  · have := h1 e he
    obtain ⟨f1, f2, f3⟩ := h x hx e he
    rwa [f1 ρ1 ha, f2 ρ1 ha, f3 ρ1 ha] at this
  · have := h1 e he
    obtain ⟨f1, f2, f3⟩ := h x hx e he
    rwa [f1 ρ1 ha, f2 ρ1 ha, f3 ρ1 ha]

def Task.ok (c : Cfg) (m : Nat) (ρ : Env) : Task → Prop
  | .code cd p _ => cd = codeAt c.body p
  | .any all _ listed pl L _ => Region.noSelect all = true ∧ planOk all pl listed none = true ∧ HeldFix m ρ L
  | .alts all _ listed pl L _ => Region.noSelect all = true ∧ (∃ rs, planOk all pl listed (some rs) = true) ∧ HeldFix m ρ L
  | _ => True
def altIdx : Plan → List Nat
  | .alt i _ rest => i :: altIdx rest
  | _ => []
def Task.holds (P : Program) (c : Cfg) (Qb : Exit → Act → World → Prop) (ρ : Env) : Task → Act → World → Prop
  | .code cd _ k, a, w => cd.wp P (denQ P c.body Qb k) a w
  | .ops all l k, a, w => wpList P all (denQ P c.body Qb k) l a w
  | .any all n listed _ L k, a, w => wpAnyH P .any all (denQ P c.body Qb k) (HeldsDen ρ L) n listed a w
  | .alts all n listed pl L k, a, w => ∀ i ∈ altIdx pl, wpOp P all (denQ P c.body Qb k) i (fun a' w' => (∀ x ∈ HeldsDen ρ L, i ∉ x.1 → x.2 w → x.2 w') ∧ wpAnyH P .any all (denQ P c.body Qb k) (HeldsDen ρ L) n (listed.setIfInBounds i true) a' w') a w
  | .fin k, a, w => denQ P c.body Qb k .normal a w
  | .exit id k, a, w => denQ P c.body Qb k (.exit id) a w
  | .ret, a, w => Qb .ret a w

theorem denQ_ret : ∀ (k : List KI) (a : Act) (w : World), Qb .ret a w → denQ P body Qb k .ret a w
  | [], _, _, h => h
  | .seq _ :: k, a, w, h => denQ_ret k a w h
  | .blk _ :: k, a, w, h => denQ_ret k a w h
  | .nxt _ _ _ :: k, a, w, h => denQ_ret k a w h
theorem denQ_panic {o : Option Nat} {v : Value} (hq : ∀ c a w, Qb (.panic c) (a.put o v) w → Qb (.panic c) a w) : ∀ (k : List KI) (c : List PanicEntry) (a : Act) (w : World), denQ P body Qb k (.panic c) (a.put o v) w → denQ P body Qb k (.panic c) a w
  | [], c, a, w, h => hq c a w h
  | .seq _ :: k, c, a, w, h => denQ_panic hq k c a w h
  | .blk _ :: k, c, a, w, h => denQ_panic hq k c a w h
  | .nxt _ _ _ :: k, c, a, w, h => denQ_panic hq k c a w h
theorem bodyPost_panic {fn : Func} {o : Option Nat} {v : Value} (c : List PanicEntry) (a : Act) (w : World) (h : bodyPost P fn R (.panic c) (a.put o v) w) : bodyPost P fn R (.panic c) a w := by
  cases o <;> exact h

theorem yielded_of {all : Array Oper} {j s : Nat} {a : Act} {b : Bool} (hs : (all[j]?).bind (·.dst) = some s) (h : a.tmps.getD s undef = .bool b) : yielded all a.tmps j = some b := by
  unfold yielded
  rw [hs]
  simp only [Option.bind_some]
  cases hg : a.tmps[s]? with
  | none => simp [hg, undef] at h
  | some v => simp [hg] at h; subst h; rfl
theorem yielded_undef {all : Array Oper} {j s : Nat} {a : Act} (hs : (all[j]?).bind (·.dst) = some s) (h : a.tmps.getD s undef = .tuple #[]) : yielded all a.tmps j = none := by
  unfold yielded
  rw [hs]
  simp only [Option.bind_some]
  cases hg : a.tmps[s]? with
  | none => rfl
  | some v => simp [hg] at h; subst h; rfl
theorem guardSt_met {σ : Sig} {all : Array Oper} {o : Oper} {gs : List (Nat × Bool)} {a : Act} (h : guardSt σ all o = .met gs) (hag : Ag ρ nt σ a) :
    Region.wanted o (yielded all a.tmps) = true ∧ ∀ g ∈ gs, Holds a (some g) := by
  unfold guardSt guardOf at h
  cases hgd : o.guard with
  | none =>
    simp only [hgd] at h
    injection h with h; subst h
    exact ⟨by unfold Region.wanted; rw [hgd], by simp⟩
  | some jw =>
    obtain ⟨j, want⟩ := jw
    simp only [hgd] at h
    cases hs : (all[j]?).bind (·.dst) with
    | none => simp only [hs] at h; cases h
    | some s =>
      simp only [hs] at h
      split at h
      · rename_i t v hf
        split at h
        · rename_i hv
          injection h with h; subst h
          obtain ⟨hm, ht⟩ := find_mem hf
          have h1 := hag.2.2 _ hm trivial
          simp only [SV.den, BE.den] at h1 ht
          subst ht
          refine ⟨?_, ?_⟩
          · unfold Region.wanted; rw [hgd]; simp only [yielded_of hs h1, hv]; simp
          · intro g hg
            simp at hg; subst hg
            show a.tmps.getD _ undef = _
            rw [h1, hv]
        · cases h
      · cases h
      · cases h
      · cases h
theorem guardSt_unmet {σ : Sig} {all : Array Oper} {o : Oper} {a : Act} (h : guardSt σ all o = .unmet) (hag : Ag ρ nt σ a) : Region.wanted o (yielded all a.tmps) = false := by
  unfold guardSt guardOf at h
  cases hgd : o.guard with
  | none => simp only [hgd] at h; cases h
  | some jw =>
    obtain ⟨j, want⟩ := jw
    simp only [hgd] at h
    cases hs : (all[j]?).bind (·.dst) with
    | none => simp only [hs] at h; cases h
    | some s =>
      simp only [hs] at h
      split at h
      · rename_i t v hf
        split at h
        · cases h
        · rename_i hv
          obtain ⟨hm, ht⟩ := find_mem hf
          have h1 := hag.2.2 _ hm trivial
          simp only [SV.den, BE.den] at h1 ht
          subst ht
          unfold Region.wanted; rw [hgd]; simp only [yielded_of hs h1]; simpa using hv
      · cases h
      · rename_i t hf
        obtain ⟨hm, ht⟩ := find_mem hf
        have h1 := hag.2.2 _ hm trivial
        simp only [SV.den, List.map_nil] at h1 ht
        subst ht
        unfold Region.wanted; rw [hgd]; simp only [yielded_undef hs h1]; rfl
      · cases h
theorem guardSt_open {σ : Sig} {all : Array Oper} {o : Oper} {s : Nat} {want : Bool} {q : BE} {a : Act} (h : guardSt σ all o = .open_ s want q) (hag : Ag ρ nt σ a) :
    a.tmps.getD s undef = .bool (q.den ρ) ∧ Region.wanted o (yielded all a.tmps) = (q.den ρ == want) := by
  unfold guardSt guardOf at h
  cases hgd : o.guard with
  | none => simp only [hgd] at h; cases h
  | some jw =>
    obtain ⟨j, want'⟩ := jw
    simp only [hgd] at h
    cases hs : (all[j]?).bind (·.dst) with
    | none => simp only [hs] at h; cases h
    | some s' =>
      simp only [hs] at h
      split at h
      · split at h <;> cases h
      · rename_i t q' _ hf
        injection h with h1 h2 h3
        subst h1 h2 h3
        obtain ⟨hm, ht⟩ := find_mem hf
        have h1 := hag.2.2 _ hm trivial
        simp only [SV.den] at h1 ht
        subst ht
        refine ⟨h1, ?_⟩
        unfold Region.wanted; rw [hgd]; simp only [yielded_of hs h1]
        rfl
      · cases h
      · cases h
theorem Ag_const {σ : Sig} {a : Act} {s : Nat} {b : Bool} (h : Ag ρ nt σ a) (hs : a.tmps.getD s undef = .bool b) : Ag ρ nt (setConst σ s b) a :=
  ⟨h.1, h.2.1, fun e he hg => by
    rcases List.mem_cons.1 he with rfl | he
    · simp only [SV.den, BE.den]; exact hs
    · exact h.2.2 e he hg⟩
theorem Inv_const {st : St} {a : Act} {w : World} {s : Nat} {b : Bool} (h : Inv nt ρ st a w) (hs : a.tmps.getD s undef = .bool b) : Inv nt ρ { st with σ := setConst st.σ s b } a w :=
  ⟨Ag_const h.ag hs, fun e he => by
    rcases List.mem_cons.1 he with rfl | he
    · exact Fix.sv (by simp only [SV.lt, BE.lt'])
    · exact h.fix e he, h.hfix, h.heap, h.rest, h.m0, h.kn, h.knfix, h.fr, h.wrfix⟩
theorem Inv_skip {st : St} {a : Act} {w : World} (h : Inv nt ρ st a w) (dst : Option Nat) : Inv nt ρ { st with σ := skipS nt st.σ dst } (a.put dst undef) w := by
  cases dst with
  | none => exact h
  | some d =>
    unfold skipS
    simp only
    split
    · rename_i hd
      exact ⟨Ag_put h.ag (blt_lt hd) (fun _ => by simp only [SV.den]; rfl), putσ_fix h.fix (Fix.sv (by simp only [SV.lt, SV.lts])), h.hfix, h.heap, h.rest, h.m0, h.kn, h.knfix, h.fr, h.wrfix⟩
    · exact ⟨Ag_drop h.ag d undef, dropσ_fix h.fix, h.hfix, h.heap, h.rest, h.m0, h.kn, h.knfix, h.fr, h.wrfix⟩
theorem looks_sound {σ : Sig} {a : Act} (hag : Ag ρ nt σ a) : ∀ {l : List Nat} {r : List SV}, looks σ l = some r → l.map (a.tmps.getD · undef) = r.map (SV.den ρ)
  | [], r, h => by simp only [looks] at h; injection h with h; subst h; rfl
  | t :: l, r, h => by
    simp only [looks] at h
    split at h
    · rename_i x r' h1 h2
      injection h with h; subst h
      have := look_sound hag (gs := []) (by simp) h1
      simp only [List.map_cons, looks_sound hag h2]
      rw [← this]; rfl
    · cases h
/-- A result, read. -/
def rd (tmps : Array Value) : ResultVar → Sem Value
  | .tmp t => pure (tmps.getD t undef)
  | .cell a t => do loadVar t (← asAddr (tmps.getD a undef))
theorem results_rd (fn : Func) (tmps : Array Value) : results fn tmps = (do let vs ← fn.results.mapM (rd tmps); pure (if h : vs.size = 1 then vs[0] else .tuple vs)) := by
  unfold results
  have : (fun x : ResultVar => (match x with | .tmp t => pure (tmps.getD t undef) | .cell a t => do loadVar t (← asAddr (tmps.getD a undef)) : Sem Value)) = rd tmps := by
    funext x; cases x <;> rfl
  rw [← this]; rfl
theorem resVC_sound {c : Cfg} (hc : c.P0 = bare P) {a : Act} {w : World} : ∀ {l : List ResultVar} {st : St} {f : List SV → St → VC} {ρ : Env}, (resVC c l st f).den P body nt keep Qb R ρ → Inv nt ρ st a w →
    ∃ ρ' xs st', (f xs st').den P body nt keep Qb R ρ' ∧ Agree st.m ρ ρ' ∧ st.m ≤ st'.m ∧ Inv nt ρ' st' a w ∧ (∀ x ∈ xs, Fix SV.den st'.m ρ' x) ∧
      (l.mapM (rd a.tmps)).run P w = .ok (xs.map (SV.den ρ')) w
  | [], st, f, ρ, hd, hi => ⟨ρ, [], st, hd, Agree.refl _ _, Nat.le_refl _, hi, by simp, rfl⟩
  | .tmp t :: l, st, f, ρ, hd, hi => by
    simp only [resVC] at hd
    split at hd
    · rename_i x hl
      obtain ⟨ρ', xs, st', h1, ha, hm, h2, h3, h4⟩ := resVC_sound hc hd hi
      have hx := look_sound hi.ag (gs := []) (by simp) hl
      have hfx := look_fix hl hi.fix
      refine ⟨ρ', x :: xs, st', h1, ha, hm, h2, ?_, ?_⟩
      · intro y hy
        rcases List.mem_cons.1 hy with rfl | hy
        · exact hfx.later ha hm
        · exact h3 y hy
      · simp only [List.mapM_cons]
        rw [Sem.run_bind]
        simp only [rd, Sem.run_pure, Result.andThen]
        rw [Sem.run_bind, h4]
        simp only [Result.andThen, Sem.run_pure, List.map_cons, hfx ρ' ha, ← hx]
        rfl
    · exact hd.elim
  | .cell t ty :: l, st, f, ρ, hd, hi => by
    simp only [resVC] at hd
    split at hd
    · rename_i b q ks hl hk
      obtain ⟨i, d, hi1, hu, hlen⟩ := loadKindsC_spec hc hk
      obtain ⟨ρ1, ys, m', g2, ha, hm, hfx, hxl, g1⟩ := withCells_sound hd hi.kn hi.knfix
      have hi' := hi.later (m' := m') ha hm
      have hl' := look_sound hi'.ag (gs := []) (by simp) hl
      simp only [SV.den, PE.den] at hl'
      have hcell : ∀ j x, ys[j]? = some x → get w.heap (b.den ρ1) (q.den ρ1 + (0 + j)) = some (x.den ρ1) := by
        intro j x hx; rw [hi'.heap]; exact g1 j x hx
      have hrun := fun y hy => loadVar_run (P := P) (ρ := ρ1) hi1 (by rw [hxl]; exact hlen) hu hcell (y := y) hy
      rw [hc, isAggB_bare] at g2
      split at g2
      · rename_i y hy
        have hfy : Fix SV.den m' ρ1 y := by
          unfold theOne at hy
          split at hy
          · injection hy with hy; subst hy
            intro ρ2 h2
            simp only [SV.den]
            rw [List.map_congr_left fun x hx => hfx x hx ρ2 h2]
          · split at hy
            · injection hy with hy; subst hy; exact hfx _ (by simp)
            · cases hy
        obtain ⟨ρ', xs, st', k1, ka, km, k2, k3, k4⟩ := resVC_sound hc g2 hi'
        refine ⟨ρ', y :: xs, st', k1, ha.trans ka hm, Nat.le_trans hm km, k2, ?_, ?_⟩
        · intro z hz
          rcases List.mem_cons.1 hz with rfl | hz
          · exact hfy.later ka km
          · exact k3 z hz
        · simp only [List.mapM_cons]
          have e1 : (rd a.tmps (.cell t ty)).run P w = .ok (y.den ρ1) w := by
            simp only [rd]
            have : a.tmps.getD t undef = .pointer (some ⟨b.den ρ1, q.den ρ1, none⟩) := hl'
            rw [this]
            simp only [asAddr, pure_bind]
            exact hrun y hy
          rw [Sem.run_bind, e1]
          simp only [Result.andThen]
          rw [Sem.run_bind, k4]
          simp only [Result.andThen, Sem.run_pure, List.map_cons, hfy ρ' ka]
      · exact g2.elim
    · exact hd.elim
theorem retVC_sound {c : Cfg} (hc : c.P0 = bare P) {fn : Func} (hr : c.res = fn.results.toList) {st : St} {a : Act} {w : World} (h : (retVC c st).den P body nt keep Qb R ρ) (hi : Inv nt ρ st a w) :
    bodyPost P fn R .ret a w := by
  unfold retVC at h
  rw [hr] at h
  obtain ⟨ρ', xs, st', h1, ha, hm, hi', h3, h4⟩ := resVC_sound hc h hi
  have h1 := knowAll_sound h1 (fun B hB => hi'.kn.all B (List.mem_filter.1 hB).1)
  simp only [VC.den] at h1
  have h1 := h1 hi'.fr
  have hres : (results fn a.tmps).run P w = .ok (match xs.map (SV.den ρ') with | [v] => v | vs => .tuple vs.toArray) w := by
    rw [results_rd, ← Array.toArray_toList (xs := fn.results), List.mapM_toArray]
    simp only [map_eq_pure_bind, Sem.run_bind]
    rw [h4]
    simp only [Result.andThen, Sem.run_pure]
    match xs with
    | [] => rfl
    | [x] => rfl
    | x :: y :: l => simp
  refine ⟨hi.ag.1, _, hres, ?_⟩
  split at h1
  · rename_i x
    simp only [VC.den] at h1
    exact h1 w hi'.heap hi'.rest
  · rename_i xs' hne
    simp only [VC.den, SV.den] at h1
    have := h1 w hi'.heap hi'.rest
    cases xs with
    | nil => exact this
    | cons x l =>
      cases l with
      | nil => exact absurd rfl (hne x)
      | cons y l => exact this
end
end Go.Proofs.YtkcjhabbgaaknaaGreat.E

/- The engine: the executor's soundness, joined. -/
namespace Go.Proofs.YtkcjhabbgaaknaaGreat.E
section
variable {P : Program} {R : Ending → World → Prop}

theorem SV.eqv_den {ρ : Env} {x y : SV} (h : x.eqv y = true) : x.den ρ = y.den ρ := by
  unfold SV.eqv at h
  split at h <;> (try cases h; done)
  all_goals (split at h <;> (try cases h; done))
  all_goals (try simp only [Bool.and_eq_true, decide_eq_true_eq, beq_iff_eq] at h)
  · rw [h.1, IE.eqb_eq _ _ h.2]
  · rw [Nat.eq_of_beq_eq_true h]
  · rw [h]
  · rw [Nat.eq_of_beq_eq_true h]
  · rw [Nat.eq_of_beq_eq_true h]
  · rw [NE.eqb_eq _ _ h.1, NE.eqb_eq _ _ h.2]
  · rfl
  · rw [Nat.eq_of_beq_eq_true h.1.1, NE.eqb_eq _ _ h.1.2, NE.eqb_eq _ _ h.2]
  · rw [NE.eqb_eq _ _ h.1.1.1, NE.eqb_eq _ _ h.1.1.2, NE.eqb_eq _ _ h.1.2, NE.eqb_eq _ _ h.2]
  · rw [NE.eqb_eq _ _ h.1, NE.eqb_eq _ _ h.2]
  · rw [Nat.eq_of_beq_eq_true h]
  · rw [Nat.eq_of_beq_eq_true h]
  · rw [Nat.eq_of_beq_eq_true h]
  · rw [Nat.eq_of_beq_eq_true h]
theorem isKn_sound {ρ : Env} {kn : List KB} {h : Heap} (H : KnOk ρ kn h) {b o : NE} {x : SV} (hk : isKn kn b o x = true) : get h (b.den ρ) (o.den ρ) = some (x.den ρ) := by
  unfold isKn at hk
  split at hk
  · rename_i y hl
    obtain ⟨_, h2⟩ := loadKn_sound H hl
    have := (h2 0 y (by simp)).1
    rw [Nat.add_zero, SV.eqv_den hk] at this
    exact this
  · cases hk
theorem heldVC_sound {body : Code} {nt : Nat} {keep : List Nat → List Nat} {Qb : Exit → Act → World → Prop} {ρ : Env} {st : St} {k : VC} (H : KnOk ρ st.kn (st.h.den ρ)) : ∀ {l : List (NE × NE × SV)}, (heldVC st k l).den P body nt keep Qb R ρ →
    (∀ e ∈ l, get (st.h.den ρ) (e.1.den ρ) (e.2.1.den ρ) = some (e.2.2.den ρ)) ∧ k.den P body nt keep Qb R ρ
  | [], hd => ⟨by simp, hd⟩
  | (b, o, x) :: l, hd => by
    simp only [heldVC] at hd
    split at hd
    · rename_i hk
      obtain ⟨h1, h2⟩ := heldVC_sound H hd
      exact ⟨by intro e he; rcases List.mem_cons.1 he with rfl | he; · exact isKn_sound H hk
                · exact h1 e he, h2⟩
    · simp only [VC.den] at hd
      obtain ⟨h1, h2⟩ := heldVC_sound H hd.2
      exact ⟨by intro e he; rcases List.mem_cons.1 he with rfl | he; · exact hd.1
                · exact h1 e he, h2⟩
theorem heldsVC_sound {body : Code} {nt : Nat} {keep : List Nat → List Nat} {Qb : Exit → Act → World → Prop} {ρ : Env} {i : Nat} {st : St} {k : VC} (H : KnOk ρ st.kn (st.h.den ρ)) : ∀ {L : List (List Nat × List (NE × NE × SV))}, (heldsVC i st k L).den P body nt keep Qb R ρ →
    (∀ x ∈ L, i ∉ x.1 → ∀ e ∈ x.2, get (st.h.den ρ) (e.1.den ρ) (e.2.1.den ρ) = some (e.2.2.den ρ)) ∧ k.den P body nt keep Qb R ρ
  | [], hd => ⟨by simp, hd⟩
  | (D, l) :: L, hd => by
    simp only [heldsVC] at hd
    split at hd
    · rename_i hD
      obtain ⟨h1, h2⟩ := heldsVC_sound H hd
      exact ⟨by intro x hx hn; rcases List.mem_cons.1 hx with rfl | hx; · exact absurd (by simpa using hD) hn
                · exact h1 x hx hn, h2⟩
    · obtain ⟨h0, hd⟩ := heldVC_sound H hd
      obtain ⟨h1, h2⟩ := heldsVC_sound H hd
      exact ⟨by intro x hx hn; rcases List.mem_cons.1 hx with rfl | hx; · exact h0
                · exact h1 x hx hn, h2⟩
theorem heldOf_mem {b q : NE} : ∀ {xs : List SV} {i : Nat} {e : NE × NE × SV}, e ∈ heldOf b q i xs → ∃ j, xs[j]? = some e.2.2 ∧ e.1 = b ∧ e.2.1 = q.plus (i + j)
  | [], _, _, h => by cases h
  | x :: xs, i, e, h => by
    rcases List.mem_cons.1 h with rfl | h
    · exact ⟨0, by simp, rfl, rfl⟩
    · obtain ⟨j, h1, h2, h3⟩ := heldOf_mem h
      exact ⟨j + 1, by simpa using h1, h2, by rw [h3]; congr 1; omega⟩
theorem heldOf_of {b q : NE} : ∀ {xs : List SV} {i j : Nat} {x : SV}, xs[j]? = some x → (b, q.plus (i + j), x) ∈ heldOf b q i xs
  | [], _, _, _, h => by simp at h
  | y :: xs, i, j, x, h => by
    cases j with
    | zero => simp at h; subst h; exact List.mem_cons_self
    | succ j =>
      have := heldOf_of (b := b) (q := q) (i := i + 1) (j := j) (x := x) (xs := xs) (by simpa using h)
      rw [show i + (j + 1) = i + 1 + j by omega]
      exact List.mem_cons_of_mem _ this
theorem bothAll_sound {body : Code} {nt : Nat} {keep : List Nat → List Nat} {Qb : Exit → Act → World → Prop} {ρ : Env} : ∀ {l : List VC}, (bothAll l).den P body nt keep Qb R ρ → ∀ v ∈ l, v.den P body nt keep Qb R ρ
  | [], _ => by simp
  | v :: l, h => by
    cases l with
    | nil => intro u hu; simp at hu; subst hu; exact h
    | cons x l =>
      simp only [bothAll, VC.den] at h
      intro u hu
      rcases List.mem_cons.1 hu with rfl | hu
      · exact h.1
      · exact bothAll_sound (l := x :: l) (by simpa only [bothAll] using h.2) u hu

theorem openOf_sound {σ : Sig} {all : Array Oper} : ∀ {pl : Plan} {s : Nat} {q : BE}, openOf σ all pl = some (s, q) → ∃ o want, guardSt σ all o = .open_ s want q
  | .done, _, _, h => by simp [openOf] at h
  | .nil, _, _, h => by simp [openOf] at h
  | .hoist _ _ _, _, _, h => by simp [openOf] at h
  | .alt i next rest, s, q, h => by
    unfold openOf at h
    split at h
    · exact openOf_sound h
    · rename_i o ho
      split at h
      · rename_i hg
        injection h with h; injection h with h1 h2; subst h1 h2
        exact ⟨o, _, hg⟩
      · exact openOf_sound h
theorem plansOk_at {pl : List (Nat × Plan)} {body : Code} (h : plansOk pl body = true) : ∀ p, plansOk pl (codeAt body p) = true
  | [] => h
  | i :: p => by
    have h1 := plansOk_at h p
    simp only [codeAt]
    generalize codeAt body p = cd at h1
    unfold child
    split <;> (first | rfl | skip)
    all_goals (simp only [plansOk, Bool.and_eq_true] at h1; first | exact h1.1 | exact h1.2 | exact h1)
theorem planOk_alts {all : Array Oper} {listed : Array Bool} : ∀ {pl : Plan} {rs : List Nat}, planOk all pl listed (some rs) = true → altIdx pl = rs
  | .done, _, h => by simp [planOk] at h
  | .hoist _ _ _, _, h => by simp [planOk] at h
  | .nil, [], _ => rfl
  | .nil, _ :: _, h => by simp [planOk] at h
  | .alt i next rest, [], h => by simp [planOk] at h
  | .alt i next rest, j :: rs, h => by
    simp only [planOk, Bool.and_eq_true] at h
    simp only [altIdx, Nat.eq_of_beq_eq_true h.1.1, planOk_alts h.2]
theorem planOk_alt {all : Array Oper} {listed : Array Bool} {i : Nat} {next rest : Plan} (h : planOk all (.alt i next rest) listed none = true) : planOk all (.alt i next rest) listed (some (Region.ready .any all listed)) = true := by
  simp only [planOk] at h
  split at h
  · cases h
  · rename_i j rs hr
    rw [hr]
    simp only [planOk]
    exact h

variable {c : Cfg} {fn : Func}
theorem exec_sound (hc : c.P0 = bare P) (heq : eqsOkB P c.eqs = true) (hfn : Fns P c.fns) (hr : c.res = fn.results.toList) (hfo : P.follows .mixedOrders = true) (hpl : plansOk c.plans c.body = true) :
    ∀ (n : Nat) (t : Task) (st : St) (ρ : Env) (a : Act) (w : World), Inv c.nt ρ st a w → t.ok c st.m ρ →
      (exec c n t st).den P c.body c.nt c.keepAt (bodyPost P fn R) R ρ → t.holds P c (bodyPost P fn R) ρ a w := by
  intro n
  induction n with
  | zero => intro t st ρ a w _ _ h; exact h.elim
  | succ n ih =>
    intro t st ρ a w hi hok h
    cases t with
    | code cd p k =>
      simp only [Task.ok] at hok
      simp only [Task.holds]
      cases cd <;> simp only [exec] at h
      case skip => exact wp_skip (ih (.fin k) st ρ a w hi trivial h)
      case label l => exact wp_label (ih (.fin k) st ρ a w hi trivial h)
      case seq x y =>
        refine wp_seq ?_
        have hy : y = codeAt c.body (1 :: p) := by simp only [codeAt, ← hok, child]
        have := ih (.code x (0 :: p) (.seq (1 :: p) :: k)) st ρ a w hi (by simp only [Task.ok, codeAt, ← hok, child]) h
        simp only [Task.holds, denQ] at this
        rw [← hy] at this
        exact this
      case cond x t e =>
        split at h
        · rename_i hx
          have := look_sound hi.ag (gs := []) (by simp) hx
          simp only [SV.den, BE.den] at this
          exact wp_cond_true this (ih (.code t (0 :: p) k) st ρ a w hi (by simp only [Task.ok, codeAt, ← hok, child]) h)
        · rename_i hx
          have := look_sound hi.ag (gs := []) (by simp) hx
          simp only [SV.den, BE.den] at this
          exact wp_cond_false this (ih (.code e (1 :: p) k) st ρ a w hi (by simp only [Task.ok, codeAt, ← hok, child]) h)
        · rename_i q _ _ hx
          have := look_sound hi.ag (gs := []) (by simp) hx
          simp only [SV.den] at this
          simp only [VC.den] at h
          refine wp_cond_split this (fun hq => ?_) (fun hq => ?_)
          · exact ih (.code t (0 :: p) k) st ρ a w hi (by simp only [Task.ok, codeAt, ← hok, child]) (h.1 ((BE.prop_iff ρ q).2 hq))
          · exact ih (.code e (1 :: p) k) st ρ a w hi (by simp only [Task.ok, codeAt, ← hok, child]) (h.2 (fun hp => by rw [(BE.prop_iff ρ q).1 hp] at hq; cases hq))
        · exact h.elim
      case block id b =>
        refine wp_block ?_
        have := ih (.code b (0 :: p) (.blk id :: k)) st ρ a w hi (by simp only [Task.ok, codeAt, ← hok, child]) h
        simpa only [Task.holds, denQ] using this
      case loop b =>
        split at h
        · rename_i vs hvs
          have h := knowAll_sound h (fun B hB => hi.kn.all B (List.mem_filter.1 hB).1)
          simp only [VC.den] at h
          have h := h hi.fr
          have hb : codeAt c.body (0 :: p) = b := by simp only [codeAt, ← hok, child]
          rw [hb] at h
          exact h a w ⟨hi.ag.1, hi.ag.2.1, looks_sound hi.ag hvs⟩ hi.heap hi.rest
        · exact h.elim
      case exit id => exact wp_exit (ih (.exit id k) st ρ a w hi trivial h)
      case ret => exact wp_ret (denQ_ret k a w (ih .ret st ρ a w hi trivial h))
      case region id ops draw =>
        cases draw with
        | false =>
          simp only at h
          exact wp_region_list (ih (.ops ops ops.toList k) st ρ a w hi trivial h)
        | true =>
          simp only at h
          split at h
          · rename_i pl hfp
            have hcd := plansOk_at hpl p
            rw [← hok] at hcd
            simp only [plansOk, hfp, Bool.and_eq_true] at hcd
            refine wp_region_any hfo (wpAny_of_H _ _ _ _ ?_)
            have := ih (.any ops ops.size (Array.replicate ops.size false) pl [] k) st ρ a { w with drawn := w.drawn + 1 } ⟨hi.ag, hi.fix, hi.hfix, hi.heap, hi.rest, hi.m0, hi.kn, hi.knfix, hi.fr, hi.wrfix⟩ ⟨hcd.1, hcd.2, by intro x hx; simp at hx⟩ h
            simpa only [Task.holds, HeldsDen, List.map_nil] using this
          · exact h.elim
      all_goals exact h.elim
    | fin k =>
      simp only [Task.holds]
      cases k with
      | nil => exact retVC_sound hc hr (by simpa only [exec] using h) hi
      | cons x k =>
        cases x with
        | seq p =>
          simp only [exec] at h
          split at h
          · split at h
            · rename_i vs hvs
              have h := knowAll_sound h (fun B hB => hi.kn.all B (List.mem_filter.1 hB).1)
              simp only [VC.den] at h
              exact h hi.fr a w ⟨hi.ag.1, hi.ag.2.1, looks_sound hi.ag hvs⟩ hi.heap hi.rest
            · exact h.elim
          · exact ih (.code (codeAt c.body p) p k) st ρ a w hi rfl h
        | blk id => simp only [exec] at h; exact ih (.fin k) st ρ a w hi trivial h
        | nxt nt' kp N =>
          simp only [exec] at h
          split at h
          · rename_i vs hvs
            split at h
            · rename_i hnt
              have h := knowAll_sound h (fun B hB => hi.kn.all B (List.mem_filter.1 hB).1)
              simp only [VC.den] at h
              have h := h hi.fr
              simp only [denQ, Exit.then]
              rw [looks_sound hi.ag hvs, hi.heap, hi.rest]
              exact ⟨⟨hi.ag.1, by rw [Nat.eq_of_beq_eq_true hnt]; exact hi.ag.2.1⟩, h⟩
            · exact h.elim
          · exact h.elim
    | exit id k =>
      simp only [Task.holds]
      cases k with
      | nil => simp only [exec] at h; exact h.elim
      | cons x k =>
        cases x with
        | seq p => simp only [exec] at h; exact ih (.exit id k) st ρ a w hi trivial h
        | nxt nt' kp N => simp only [exec] at h; exact ih (.exit id k) st ρ a w hi trivial h
        | blk j =>
          simp only [exec] at h
          simp only [denQ, Exit.inBlock]
          split at h
          · rename_i hj
            rw [if_pos (Nat.eq_of_beq_eq_true hj)]
            exact ih (.fin k) st ρ a w hi trivial h
          · rename_i hj
            rw [if_neg (fun e => hj (by rw [e]; exact Nat.beq_refl _))]
            exact ih (.exit id k) st ρ a w hi trivial h
    | ret => exact retVC_sound hc hr (by simpa only [exec] using h) hi
    | ops all l k =>
      simp only [Task.holds]
      cases l with
      | nil => simp only [exec] at h; exact ih (.fin k) st ρ a w hi trivial h
      | cons o l =>
        simp only [exec] at h
        unfold wpList
        split at h
        · rename_i gs hg
          obtain ⟨hw, hgs⟩ := guardSt_met hg hi.ag
          rw [if_pos hw]
          refine .inl (stepOp_sound hc heq rfl hfn h hi hgs ?_)
          intro st' ρ' a' w' hd hi' _ _ _
          exact ih (.ops all l k) st' ρ' a' w' hi' trivial hd
        · rename_i hg
          have hw := guardSt_unmet hg hi.ag
          rw [if_neg (by rw [hw]; simp)]
          exact ih (.ops all l k) _ ρ _ w (Inv_skip hi o.dst) trivial h
        · rename_i s want q hg
          obtain ⟨hs, hw⟩ := guardSt_open hg hi.ag
          split at h
          · rename_i ns x d hq0 hdst
            have hq : quietOp c st.σ [(s, want)] o = some (ns, x) := by
              revert hq0; split
              · intro h0; cases h0
              · exact id
            split at h
            · rename_i hcond
              simp only [Bool.and_eq_true, Bool.not_eq_true'] at hcond
              obtain ⟨⟨hd1, hd2⟩, hx⟩ := hcond
              obtain ⟨h1, h2⟩ := needIfAll_sound h
              have hds : d ≠ s := by intro e; rw [e, Nat.beq_refl] at hd2; cases hd2
              by_cases hqw : q.den ρ = want
              · have hH : Holds a (some (s, want)) := by show a.tmps.getD s undef = _; rw [hs, hqw]
                have hn : ∀ p ∈ ns, p.prop ρ := h1 (by
                  cases want with
                  | true => exact (BE.prop_iff ρ q).2 hqw
                  | false => simp only [Bool.false_eq_true, if_false, BE.prop]; intro hp; rw [(BE.prop_iff ρ q).1 hp] at hqw; cases hqw)
                rw [if_pos (by rw [hw]; simpa using hqw)]
                refine .inl (upon_of_run (quietOp_sound hc heq hq hi.ag (by intro g hg; simp at hg; subst hg; exact hH) hn w) ?_)
                rw [hdst]
                exact ih (.ops all l k) { st with σ := putσ st.σ d x (some (s, want)) } ρ _ w ⟨Ag_put hi.ag (blt_lt hd1) (fun _ => rfl), putσ_fix hi.fix (Fix.sv hx), hi.hfix, hi.heap, hi.rest, hi.m0, hi.kn, hi.knfix, hi.fr, hi.wrfix⟩ trivial h2
              · rw [if_neg (by rw [hw]; simpa using hqw)]
                rw [hdst]
                refine ih (.ops all l k) { st with σ := putσ st.σ d x (some (s, want)) } ρ _ w ⟨Ag_put hi.ag (blt_lt hd1) (fun hh => ?_), putσ_fix hi.fix (Fix.sv hx), hi.hfix, hi.heap, hi.rest, hi.m0, hi.kn, hi.knfix, hi.fr, hi.wrfix⟩ trivial h2
                exfalso
                have hh' : (a.put (some d) undef).tmps.getD s undef = .bool want := hh
                rw [getD_put_ne (Ne.symm hds), hs] at hh'
                injection hh' with hh'
                exact hqw hh'
            · exact h.elim
          · simp only [VC.den] at h
            have key : wpList P all (denQ P c.body (bodyPost P fn R) k) (o :: l) a w := by
              cases hq : q.den ρ with
              | true => exact ih (.ops all (o :: l) k) _ ρ a w (Inv_const hi (by rw [hs, hq])) trivial (h.1 ((BE.prop_iff ρ q).2 hq))
              | false => exact ih (.ops all (o :: l) k) _ ρ a w (Inv_const hi (by rw [hs, hq])) trivial (h.2 (fun hp => by rw [(BE.prop_iff ρ q).1 hp] at hq; cases hq))
            unfold wpList at key
            exact key
        · exact h.elim
    | any all m listed pl L k =>
      simp only [Task.ok] at hok
      obtain ⟨hsel, hplan, hheld⟩ := hok
      simp only [Task.holds]
      simp only [exec] at h
      cases pl with
      | nil => exact h.elim
      | done =>
        simp only [planOk] at hplan
        have hr1 : Region.ready .any all listed = [] := by simpa using hplan
        have hq := ih (.fin k) st ρ a w hi trivial h
        cases m with
        | zero => exact ⟨hr1, hq⟩
        | succ m => exact ⟨fun _ => hq, fun i hi' => by rw [hr1] at hi'; cases hi'⟩
      | alt i next rest =>
        simp only at h
        split at h
        · rename_i s q hopen
          obtain ⟨o, want, hg⟩ := openOf_sound hopen
          obtain ⟨hs, _⟩ := guardSt_open hg hi.ag
          simp only [VC.den] at h
          cases hq : q.den ρ with
          | true => exact ih (.any all m listed (.alt i next rest) L k) _ ρ a w (Inv_const hi (by rw [hs, hq])) ⟨hsel, hplan, hheld⟩ (h.1 ((BE.prop_iff ρ q).2 hq))
          | false => exact ih (.any all m listed (.alt i next rest) L k) _ ρ a w (Inv_const hi (by rw [hs, hq])) ⟨hsel, hplan, hheld⟩ (h.2 (fun hp => by rw [(BE.prop_iff ρ q).1 hp] at hq; cases hq))
        · cases m with
          | zero => exact h.elim
          | succ m =>
            have hp2 := planOk_alt hplan
            have := ih (.alts all m listed (.alt i next rest) L k) st ρ a w hi ⟨hsel, ⟨_, hp2⟩, hheld⟩ h
            simp only [Task.holds] at this
            rw [planOk_alts hp2] at this
            refine ⟨fun h0 => ?_, this⟩
            exfalso
            rw [h0] at hp2
            simp [planOk] at hp2
      | hoist i D next =>
        simp only [planOk, Bool.and_eq_true] at hplan
        obtain ⟨⟨⟨⟨hir0, hfree⟩, hdep⟩, hnl⟩, hnext⟩ := hplan
        have hir : i ∈ Region.ready .any all listed := by simpa using hir0
        simp only at h
        split at h
        · rename_i m o ho
          have hfs := Region.free_spec ho hfree
          have hqp := fun (v : Value) => denQ_panic (body := c.body) (P := P) (o := o.dst) (v := v) (Qb := bodyPost P fn R) bodyPost_panic k
          -- the rest, behind a value that hangs on no world
          have quiet : ∀ (v : Value) (ρ' : Env), Agree st.m ρ ρ' → YieldsC P all (fun _ => True) o v a →
              wpAnyH P .any all (denQ P c.body (bodyPost P fn R) k) (HeldsDen ρ' L) m (listed.setIfInBounds i true) (a.put o.dst v) w →
              wpAnyH P .any all (denQ P c.body (bodyPost P fn R) k) (HeldsDen ρ L) (m + 1) listed a w := by
            intro v ρ' ha hy hrest
            rw [HeldsDen_eq hheld ha] at hrest
            refine wpAnyH_first (D := []) (C := fun _ => True) ho (Region.noSelect_spec hsel) (hqp v) (by simp [depD]) m listed a w trivial (by simp [noneListed]) hfs hir hy ?_
            have more : ∀ n l a w, wpAnyH P .any all (denQ P c.body (bodyPost P fn R) k) (HeldsDen ρ L) n l a w → wpAnyH P .any all (denQ P c.body (bodyPost P fn R) k) (([], fun _ => True) :: HeldsDen ρ L) n l a w := by
              intro n
              induction n with
              | zero => exact fun _ _ _ h => h
              | succ n ihn =>
                exact fun l a w h => ⟨h.1, fun j hj => wpOp_mono (fun a' w' h' => ⟨fun x hx hn hxw => by
                  rcases List.mem_cons.1 hx with rfl | hx
                  · trivial
                  · exact h'.1 x hx hn hxw, ihn _ _ _ h'.2⟩) (h.2 j hj)⟩
            exact more _ _ _ _ hrest
          split at h
          · exact h.elim
          · -- a guard that is not decided
            rename_i s want q hg
            obtain ⟨hs, _⟩ := guardSt_open hg hi.ag
            have hpl' : planOk all (.hoist i D next) listed none = true := by simp only [planOk, Bool.and_eq_true]; exact ⟨⟨⟨⟨hir0, hfree⟩, hdep⟩, hnl⟩, hnext⟩
            simp only [VC.den] at h
            cases hq : q.den ρ with
            | true => exact ih (.any all (m + 1) listed (.hoist i D next) L k) _ ρ a w (Inv_const hi (by rw [hs, hq])) ⟨hsel, hpl', hheld⟩ (h.1 ((BE.prop_iff ρ q).2 hq))
            | false => exact ih (.any all (m + 1) listed (.hoist i D next) L k) _ ρ a w (Inv_const hi (by rw [hs, hq])) ⟨hsel, hpl', hheld⟩ (h.2 (fun hp => by rw [(BE.prop_iff ρ q).1 hp] at hq; cases hq))
          · -- it is not wanted
            rename_i hg
            have hw := guardSt_unmet hg hi.ag
            refine quiet undef ρ (Agree.refl _ _) (.inr ⟨hw, rfl⟩) ?_
            exact ih (.any all m (listed.setIfInBounds i true) next L k) _ ρ _ w (Inv_skip hi o.dst) ⟨hsel, hnext, hheld⟩ h
          · rename_i gs hg
            obtain ⟨hw, hgs⟩ := guardSt_met hg hi.ag
            split at h
            · exact h.elim
            · -- its value hangs on no world
              rename_i ns x hf
              have hq : quietOp c st.σ gs o = some (ns, x) := by
                unfold firstOp at hf
                split at hf
                · rename_i ns' x' hq'
                  injection hf with hf; injection hf with h1 h2; subst h1 h2; exact hq'
                · split at hf <;> (try split at hf) <;> cases hf
              obtain ⟨h1, h2⟩ := needAll_sound h
              obtain ⟨st', h3, hi', hm', _⟩ := putS_sound h2 rfl hi
              refine quiet (x.den ρ) ρ (Agree.refl _ _) (.inl ⟨hw, fun w' _ => quietOp_sound hc heq hq hi.ag hgs h1 w'⟩) ?_
              exact ih (.any all m (listed.setIfInBounds i true) next L k) st' ρ _ w hi' ⟨hsel, hnext, by rw [hm']; exact hheld⟩ h3
            · exact h.elim
            · -- a load
              rename_i t b q ks agg hf
              have hff : ∃ x, o.op = .load t x ∧ look st.σ gs x = some (.ptr (.at b q)) ∧ loadKindsC c t = some ks ∧ agg = isAggB c.P0 t := by
                unfold firstOp at hf
                split at hf
                · cases hf
                · split at hf
                  · rename_i t' x' hop
                    split at hf
                    · rename_i b' q' ks' hl hk
                      injection hf with hf; injection hf with e1 e2 e3 e4 e5; subst e1 e2 e3 e4 e5
                      exact ⟨x', hop, hl, hk, rfl⟩
                    · cases hf
                  · split at hf <;> cases hf
                  · split at hf <;> cases hf
                  · cases hf
              obtain ⟨x, hopx, hl, hk, rfl⟩ := hff
              split at h
              · rename_i hcond
                simp only [Bool.and_eq_true] at hcond
                obtain ⟨hbl, hql⟩ := hcond
                obtain ⟨inf, d, hi1, hu, hlen⟩ := loadKindsC_spec hc hk
                obtain ⟨ρ', xs, m', h3, ha, hm, hfx, hxl, h2⟩ := withCells_sound h hi.kn hi.knfix
                have hi' := hi.later (m' := m') ha hm
                have hl' := look_sound hi'.ag hgs hl
                simp only [SV.den, PE.den] at hl'
                have hb' := (Fix.ne (ρ := ρ) hbl).later ha hm
                have hq' := (Fix.ne (ρ := ρ) hql).later ha hm
                have hplus : ∀ j, Fix NE.den m' ρ' (q.plus j) := by
                  intro j ρ2 h'; rw [NE.plus_den, NE.plus_den, hq' ρ2 h']
                rw [hc, isAggB_bare] at h3
                split at h3
                · rename_i y hy
                  obtain ⟨st', h4, hi'', hm'', _⟩ := putS_sound h3 rfl hi'
                  have hyield : YieldsC P all (fun w' => ∀ e ∈ heldOf b q 0 xs, get w'.heap (e.1.den ρ') (e.2.1.den ρ') = some (e.2.2.den ρ')) o (y.den ρ') a := by
                    refine .inl ⟨hw, fun w' hw' => ?_⟩
                    obtain ⟨dst, op, ty, pos, after, guard⟩ := o
                    simp only at hopx
                    subst hopx
                    unfold execOp; simp only [hl']
                    refine valM ?_
                    unfold Instr.loadAt Instr.sureAddr
                    simp only [pure_bind]
                    refine loadVar_run (P := P) (ρ := ρ') hi1 (by rw [hxl]; exact hlen) hu (fun j x hj => ?_) hy
                    have := hw' _ (heldOf_of (b := b) (q := q) (i := 0) hj)
                    simpa only [NE.plus_den] using this
                  have hheld' : HeldFix m' ρ' ((D, heldOf b q 0 xs) :: L) := by
                    intro x hx e he
                    rcases List.mem_cons.1 hx with rfl | hx
                    · obtain ⟨j, h5, h6, h7⟩ := heldOf_mem he
                      rw [h6, h7]
                      exact ⟨hb', hplus _, hfx _ (List.mem_of_getElem? h5)⟩
                    · exact hheld.later ha hm x hx e he
                  have hnow : ∀ e ∈ heldOf b q 0 xs, get w.heap (e.1.den ρ') (e.2.1.den ρ') = some (e.2.2.den ρ') := by
                    intro e he
                    obtain ⟨j, h5, h6, h7⟩ := heldOf_mem he
                    have := h2 j _ h5
                    rw [h6, h7, NE.plus_den, hi'.heap]
                    exact this
                  have := ih (.any all m (listed.setIfInBounds i true) next ((D, heldOf b q 0 xs) :: L) k) st' ρ' _ w hi'' ⟨hsel, hnext, by rw [hm'']; exact hheld'⟩ h4
                  simp only [Task.holds, HeldsDen, List.map_cons] at this
                  have e1 : (L.map fun x => (x.1, fun w : World => ∀ e ∈ x.2, get w.heap (e.1.den ρ') (e.2.1.den ρ') = some (e.2.2.den ρ'))) = HeldsDen ρ L := HeldsDen_eq hheld ha
                  rw [e1] at this
                  exact wpAnyH_first (D := D) ho (Region.noSelect_spec hsel) (hqp _) hdep m listed a w hnow hnl hfs hir hyield this
                · exact h3.elim
              · exact h.elim
            · -- a nil check
              rename_i p hf
              have hff : ∃ x, o.op = .nilCheck x ∧ look st.σ gs x = some (.ptr p) := by
                unfold firstOp at hf
                split at hf
                · cases hf
                · split at hf
                  · split at hf <;> cases hf
                  · rename_i x' hop
                    split at hf
                    · rename_i p' hl
                      injection hf with hf; injection hf with e1; subst e1
                      exact ⟨x', hop, hl⟩
                    · cases hf
                  · split at hf <;> cases hf
                  · cases hf
              obtain ⟨x, hopx, hl⟩ := hff
              simp only [VC.den] at h
              obtain ⟨b, q, h1, h2⟩ := h
              have hb1 : ((ρ.setN st.m b).setN (st.m + 1) q).n st.m = b := by simp [Env.setN]
              have hb2 : ((ρ.setN st.m b).setN (st.m + 1) q).n (st.m + 1) = q := by simp [Env.setN]
              have ha : Agree st.m ρ ((ρ.setN st.m b).setN (st.m + 1) q) := (Agree.setN (Nat.le_refl _) b).trans (Agree.setN (Nat.le_succ _) q) (Nat.le_refl _)
              have hi' := hi.later (m' := st.m + 2) ha (by omega)
              have hl' := look_sound hi'.ag hgs hl
              simp only [SV.den, h1, NE.den, hb1, hb2] at hl'
              obtain ⟨st', h3, hi'', hm', _⟩ := putS_sound h2 rfl (hi'.subP rfl (by simp only [h1, NE.den]))
              refine quiet _ _ ha (.inl ⟨hw, fun w' _ => ?_⟩) (ih (.any all m (listed.setIfInBounds i true) next L k) st' _ _ w hi'' ⟨hsel, hnext, by rw [hm', subSt_m]; exact hheld.later ha (by omega)⟩ h3)
              obtain ⟨dst, op, ty, pos, after, guard⟩ := o
              simp only at hopx
              subst hopx
              unfold execOp; simp only [hl', SV.den, PE.den, NE.den, hb1, hb2]; rfl
            · -- an element's address
              rename_i p t ln cp y hf
              have hff : ∃ x j, o.op = .indexAddr t x j ∧ look st.σ gs x = some (.slice p ln cp) ∧ look st.σ gs j = some y := by
                unfold firstOp at hf
                split at hf
                · cases hf
                · split at hf
                  · split at hf <;> cases hf
                  · split at hf <;> cases hf
                  · rename_i t' x' j' hop
                    split at hf
                    · rename_i p' n' q' j'' hl hj
                      injection hf with hf; injection hf with e1 e2 e3 e4 e5; subst e1 e2 e3 e4 e5
                      exact ⟨x', j', hop, hl, hj⟩
                    · cases hf
                  · cases hf
              obtain ⟨x, j, hopx, hl, hj⟩ := hff
              simp only [VC.den] at h
              obtain ⟨b, q, h1, h2⟩ := h
              have hb1 : ((ρ.setN st.m b).setN (st.m + 1) q).n st.m = b := by simp [Env.setN]
              have hb2 : ((ρ.setN st.m b).setN (st.m + 1) q).n (st.m + 1) = q := by simp [Env.setN]
              have ha : Agree st.m ρ ((ρ.setN st.m b).setN (st.m + 1) q) := (Agree.setN (Nat.le_refl _) b).trans (Agree.setN (Nat.le_succ _) q) (Nat.le_refl _)
              have hi' := hi.later (m' := st.m + 2) ha (by omega)
              split at h2
              · rename_i ns z hix
                rw [hc, indexAddrSV_bare] at hix
                obtain ⟨h3, h4⟩ := needAll_sound h2
                have hl' := look_sound hi'.ag hgs hl
                have hj' := look_sound hi'.ag hgs hj
                simp only [SV.den, h1] at hl'
                have h3 := hard_sound h3
                obtain ⟨st', h5, hi'', hm', _⟩ := putS_sound h4 rfl (hi'.subP rfl (by simp only [h1, NE.den]))
                refine quiet _ _ ha (.inl ⟨hw, fun w' _ => ?_⟩) (ih (.any all m (listed.setIfInBounds i true) next L k) st' _ _ w hi'' ⟨hsel, hnext, by rw [hm', subSt_m]; exact hheld.later ha (by omega)⟩ h5)
                have hrun := indexAddrSV_sound (ρ := (ρ.setN st.m b).setN (st.m + 1) q) hix h3 w'
                simp only [SV.den, PE.den] at hrun
                obtain ⟨dst, op, ty, pos, after, guard⟩ := o
                simp only at hopx
                subst hopx
                unfold execOp; simp only [hl', hj']; exact valM hrun
              · exact h2.elim
        · exact h.elim
    | alts all m listed pl L k =>
      simp only [Task.ok] at hok
      obtain ⟨hsel, ⟨rs, hplan⟩, hheld⟩ := hok
      simp only [Task.holds]
      simp only [exec] at h
      cases pl with
      | done => exact h.elim
      | hoist i D next => exact h.elim
      | nil => intro i hi'; simp [altIdx] at hi'
      | alt i next rest =>
        have hp : ∃ rs', planOk all next (listed.setIfInBounds i true) none = true ∧ planOk all rest listed (some rs') = true := by
          cases rs with
          | nil => simp [planOk] at hplan
          | cons j rs' => simp only [planOk, Bool.and_eq_true] at hplan; exact ⟨rs', hplan.1.2, hplan.2⟩
        obtain ⟨rs', hnext, hrest⟩ := hp
        simp only at h
        split at h
        · rename_i o ho
          -- the first of them, run
          have one : ∀ gs, guardSt st.σ all o = .met gs → (stepOp c st gs o fun st' => heldsIf (isExtOp c st.σ gs o) i st' (exec c n (.any all m (listed.setIfInBounds i true) next L k) st') L).den P c.body c.nt c.keepAt (bodyPost P fn R) R ρ →
              wpOp P all (denQ P c.body (bodyPost P fn R) k) i (fun a' w' => (∀ x ∈ HeldsDen ρ L, i ∉ x.1 → x.2 w → x.2 w') ∧ wpAnyH P .any all (denQ P c.body (bodyPost P fn R) k) (HeldsDen ρ L) m (listed.setIfInBounds i true) a' w') a w := by
            intro gs hg hv
            obtain ⟨hw, hgs⟩ := guardSt_met hg hi.ag
            unfold wpOp
            rw [ho]
            simp only
            rw [if_pos hw]
            refine .inl (stepOp_sound hc heq rfl hfn hv hi hgs ?_)
            intro st' ρ' a' w' hd hi' ha hm hext
            have hboth : (∀ x ∈ HeldsDen ρ L, i ∉ x.1 → x.2 w → x.2 w') ∧ (exec c n (.any all m (listed.setIfInBounds i true) next L k) st').den P c.body c.nt c.keepAt (bodyPost P fn R) R ρ' := by
              unfold heldsIf at hd
              split at hd
              · rename_i he
                refine ⟨fun x hx hn hxw => ?_, hd⟩
                obtain ⟨y, hy, rfl⟩ := List.mem_map.1 hx
                intro e hm
                have := hxw e hm
                have hlt : e.1.den ρ < w.heap.size := by
                  rcases Nat.lt_or_ge (e.1.den ρ) w.heap.size with hl | hl
                  · exact hl
                  · unfold get at this; rw [Array.getElem?_eq_none hl] at this; cases this
                rw [get_block ((hext he).old _ hlt)]; exact this
              · obtain ⟨h1, h2⟩ := heldsVC_sound hi'.kn hd
                refine ⟨fun x hx hn _ => ?_, h2⟩
                rw [← HeldsDen_eq hheld ha] at hx
                obtain ⟨y, hy, rfl⟩ := List.mem_map.1 hx
                intro e he
                rw [hi'.heap]
                exact h1 y hy hn e he
            obtain ⟨h1, h2⟩ := hboth
            refine ⟨?_, ?_⟩
            · exact h1
            · have := ih (.any all m (listed.setIfInBounds i true) next L k) st' ρ' a' w' hi' ⟨hsel, hnext, hheld.later ha hm⟩ h2
              simp only [Task.holds] at this
              rw [HeldsDen_eq hheld ha] at this
              exact this
          cases hg : guardSt st.σ all o with
          | bad => rw [hg] at h; exact h.elim
          | open_ s want q => rw [hg] at h; exact h.elim
          | met gs =>
            rw [hg] at h
            cases rest with
            | nil =>
              intro j hj
              simp [altIdx] at hj
              subst hj
              exact one gs hg h
            | done => simp [planOk] at hrest
            | hoist i2 D2 n2 => simp [planOk] at hrest
            | alt i2 n2 r2 =>
              simp only [VC.den] at h
              intro j hj
              simp only [altIdx] at hj
              rcases List.mem_cons.1 hj with rfl | hj
              · exact one gs hg h.1
              · exact ih (.alts all m listed (.alt i2 n2 r2) L k) st ρ a w hi ⟨hsel, ⟨rs', hrest⟩, hheld⟩ h.2 j (by simpa only [altIdx] using hj)
          | unmet =>
            rw [hg] at h
            simp only [VC.den] at h
            intro j hj
            simp only [altIdx] at hj
            rcases List.mem_cons.1 hj with rfl | hj
            · have hw := guardSt_unmet hg hi.ag
              unfold wpOp
              rw [ho]
              simp only
              rw [if_neg (by rw [hw]; simp)]
              refine ⟨fun _ _ _ h => h, ?_⟩
              exact ih (.any all m (listed.setIfInBounds j true) next L k) _ ρ _ w (Inv_skip hi o.dst) ⟨hsel, hnext, hheld⟩ h.1
            · exact ih (.alts all m listed rest L k) st ρ a w hi ⟨hsel, ⟨rs', hrest⟩, hheld⟩ h.2 j hj
        · exact h.elim
end
end Go.Proofs.YtkcjhabbgaaknaaGreat.E

/- The engine: how it is begun, and a loop. -/
namespace Go.Proofs.YtkcjhabbgaaknaaGreat.E
section
variable {P : Program} {R : Ending → World → Prop} {c : Cfg} {fn : Func}

def sigFrom : Nat → List SV → Sig
  | _, [] => []
  | i, x :: l => ⟨i, x, none⟩ :: sigFrom (i + 1) l
theorem sigFrom_mem : ∀ {l : List SV} {i : Nat} {e : Ent}, e ∈ sigFrom i l → ∃ j, l[j]? = some e.x ∧ e.t = i + j ∧ e.g = none
  | [], _, _, h => by simp [sigFrom] at h
  | x :: l, i, e, h => by
    rcases List.mem_cons.1 h with rfl | h
    · exact ⟨0, by simp, by simp, rfl⟩
    · obtain ⟨j, h1, h2, h3⟩ := sigFrom_mem h
      exact ⟨j + 1, by simpa using h1, by omega, h3⟩
theorem lts_mem {m : Nat} : ∀ {l : List SV} {x : SV}, SV.lts m l = true → x ∈ l → x.lt m = true
  | [], _, _, h => by cases h
  | y :: l, x, h, hx => by
    simp only [SV.lts, Bool.and_eq_true] at h
    rcases List.mem_cons.1 hx with rfl | hx
    · exact h.1
    · exact lts_mem h.2 hx

def NeAll (ρ : Env) (b : NE) : List (NE × NE × List SV) → Prop
  | [] => True
  | (c, _, _) :: l => b.den ρ ≠ c.den ρ ∧ NeAll ρ b l
/-- What is known of the heap when a piece of code is entered: cells of blocks that differ from each other. -/
def KnIn (ρ : Env) (h : Heap) : List (NE × NE × List SV) → Prop
  | [] => True
  | (b, o, xs) :: l => CellsAt h (b.den ρ) (o.den ρ) (xs.map (SV.den ρ)) ∧ NeAll ρ b l ∧ KnIn ρ h l
def cellsFrom (o : NE) : Nat → List SV → List (NE × SV)
  | _, [] => []
  | i, x :: l => (o.plus i, x) :: cellsFrom o (i + 1) l
def knOf : List (NE × NE × List SV) → List KB
  | [] => []
  | (b, o, xs) :: l => { b := b, new := false, cs := cellsFrom o 0 xs, o := o, n := xs.length } :: knOf l
def knLts (m : Nat) : List (NE × NE × List SV) → Bool
  | [] => true
  | (b, o, xs) :: l => b.lt m && o.lt m && SV.lts m xs && knLts m l
theorem cellsFrom_mem {o : NE} : ∀ {xs : List SV} {i : Nat} {c : NE × SV}, c ∈ cellsFrom o i xs → ∃ j, xs[j]? = some c.2 ∧ c.1 = o.plus (i + j)
  | [], _, _, h => by cases h
  | x :: xs, i, c, h => by
    rcases List.mem_cons.1 h with rfl | h
    · exact ⟨0, by simp, rfl⟩
    · obtain ⟨j, h1, h2⟩ := cellsFrom_mem h
      exact ⟨j + 1, by simpa using h1, by rw [h2]; congr 1; omega⟩
theorem knOf_bs : ∀ (l : List (NE × NE × List SV)), (knOf l).map (·.b) = l.map (·.1)
  | [] => rfl
  | (b, o, xs) :: l => by simp only [knOf, List.map_cons, knOf_bs l]
theorem neAll_mem {ρ : Env} {b : NE} : ∀ {l : List (NE × NE × List SV)}, NeAll ρ b l → ∀ x ∈ l, b.den ρ ≠ x.1.den ρ
  | [], _, _, hx => by cases hx
  | (c, o, xs) :: l, h, x, hx => by
    rcases List.mem_cons.1 hx with rfl | hx
    · exact h.1
    · exact neAll_mem h.2 x hx
theorem knOf_ok {ρ : Env} {h : Heap} : ∀ {l : List (NE × NE × List SV)}, KnIn ρ h l → KnOk ρ (knOf l) h
  | [], _ => ⟨fun _ hB => (by cases hB), List.Pairwise.nil⟩
  | (b, o, xs) :: l, hk => by
    obtain ⟨⟨h1, h2⟩, h3, h4⟩ := hk
    refine (knOf_ok h4).cons ⟨h1, fun hn => (by cases hn), fun c hc => ?_⟩ fun C hC => ?_
    · obtain ⟨j, h5, h6⟩ := cellsFrom_mem hc
      have := h2 j (c.2.den ρ) (by simp [h5])
      rw [h6, NE.plus_den, Nat.zero_add]
      exact this
    · have : C.b ∈ (knOf l).map (·.b) := List.mem_map.2 ⟨C, hC, rfl⟩
      rw [knOf_bs] at this
      obtain ⟨x, hx, e⟩ := List.mem_map.1 this
      rw [← e]; exact neAll_mem h3 x hx
theorem knOf_fix {m : Nat} {ρ : Env} : ∀ {l : List (NE × NE × List SV)}, knLts m l = true → KnFix m ρ (knOf l)
  | [], _ => fun B hB => by cases hB
  | (b, o, xs) :: l, h => by
    simp only [knLts, Bool.and_eq_true] at h
    obtain ⟨⟨⟨h1, h2⟩, h3⟩, h4⟩ := h
    refine (knOf_fix h4).cons (Fix.ne h1) fun c hc => ?_
    obtain ⟨j, h5, h6⟩ := cellsFrom_mem hc
    refine ⟨?_, lts_fix h3 _ (List.mem_of_getElem? h5)⟩
    rw [h6]
    intro ρ' ha
    rw [NE.plus_den, NE.plus_den, Fix.ne h2 ρ' ha]
/-- **A function is called**: it is enough to show what the executor leaves. -/
theorem begin_ (hc : c.P0 = bare P) (heq : eqsOkB P c.eqs = true) (hfn : Fns P c.fns) (hr : c.res = fn.results.toList) (hfo : P.follows .mixedOrders = true) (hpl : plansOk c.plans c.body = true) {f : Nat} (hf : P.funcs[f]? = some fn) (hb : fn.body = some c.body) (hnt : fn.ntmps = c.nt)
    (xs : List SV) (kn : List (NE × NE × List SV)) (ρ : Env) (m : Nat) (n : Nat) (hx : SV.lts m xs = true) (hkl : knLts m kn = true) (hm : Nat.blt 0 m = true) (hsz : Nat.ble xs.length c.nt = true) {w : World} (hw : ρ.h 0 = w.heap) (ho : ρ.o = outw w) (hkn : KnIn ρ (ρ.h 0) kn) {args : Array Value} (hargs : args = (xs.map (SV.den ρ)).toArray)
    (h : (exec c n (.code c.body [] []) { σ := sigFrom 0 xs, h := .v 0, m := m, kn := knOf kn, wr := [] }).den P c.body c.nt c.keepAt (bodyPost P fn R) R ρ) : Calls P f args w R := by
  subst hargs
  refine calls_of_wp hf hb ?_
  have hle : xs.length ≤ c.nt := Nat.le_of_ble_eq_true hsz
  refine exec_sound hc heq hfn hr hfo hpl n (.code c.body [] []) _ ρ _ w ⟨⟨rfl, ?_, ?_⟩, ?_, ?_, ?_, ?_, blt_lt hm, knOf_ok hkn, knOf_fix hkl, Frame.refl _ _, fun _ _ => rfl⟩ rfl h
  · simp [hnt]; omega
  · intro e he _
    obtain ⟨j, h1, h2, _⟩ := sigFrom_mem he
    have hj : j < xs.length := (List.getElem?_eq_some_iff.1 h1).1
    have h1' := (List.getElem?_eq_some_iff.1 h1).2
    rw [h2]
    simp [Array.getElem?_append, hj, h1']
  · intro e he
    obtain ⟨j, h1, _, _⟩ := sigFrom_mem he
    exact Fix.sv (lts_mem hx (List.mem_of_getElem? h1))
  · exact fun ρ' ha => HE.stable ha _ (by simp only [HE.lt, hm])
  · exact hw.symm
  · exact ho.symm

def sigAt : List Nat → List SV → Sig
  | t :: ts, x :: l => ⟨t, x, none⟩ :: sigAt ts l
  | _, _ => []
theorem sigAt_ag {ρ : Env} {a : Act} : ∀ {ts : List Nat} {l : List SV}, ts.map (a.tmps.getD · undef) = l.map (SV.den ρ) → ∀ e ∈ sigAt ts l, a.tmps.getD e.t undef = e.x.den ρ
  | [], _, _, e, he => by simp [sigAt] at he
  | t :: ts, [], _, e, he => by simp [sigAt] at he
  | t :: ts, x :: l, h, e, he => by
    simp only [List.map_cons, List.cons.injEq] at h
    rcases List.mem_cons.1 he with rfl | he
    · exact h.1
    · exact sigAt_ag h.2 e he
theorem sigAt_mem : ∀ {ts : List Nat} {l : List SV} {e : Ent}, e ∈ sigAt ts l → e.x ∈ l
  | [], _, e, he => by simp [sigAt] at he
  | t :: ts, [], e, he => by simp [sigAt] at he
  | t :: ts, x :: l, e, he => by
    rcases List.mem_cons.1 he with rfl | he
    · exact List.mem_cons_self
    · exact List.mem_cons_of_mem _ (sigAt_mem he)

/-- A piece of code is entered, some slots known. -/
theorem enter (hc : c.P0 = bare P) (heq : eqsOkB P c.eqs = true) (hfn : Fns P c.fns) (hr : c.res = fn.results.toList) (hfo : P.follows .mixedOrders = true) (hpl : plansOk c.plans c.body = true) {p : List Nat} {k : List KI}
    (xs : List SV) (kn : List (NE × NE × List SV)) (ρ : Env) (m : Nat) (n : Nat) (hx : SV.lts m xs = true) (hkl : knLts m kn = true) (hm : Nat.blt 0 m = true) (hkn : KnIn ρ (ρ.h 0) kn) {a : Act} {w : World} {vs : List Value} {keep : List Nat} (ha : AgV c.nt keep vs a) (hv : vs = xs.map (SV.den ρ)) (hw : ρ.h 0 = w.heap) (ho : ρ.o = outw w)
    (h : (exec c n (.code (codeAt c.body p) p k) { σ := sigAt keep xs, h := .v 0, m := m, kn := knOf kn, wr := [] }).den P c.body c.nt c.keepAt (bodyPost P fn R) R ρ) : (codeAt c.body p).wp P (denQ P c.body (bodyPost P fn R) k) a w := by
  refine exec_sound hc heq hfn hr hfo hpl n (.code (codeAt c.body p) p k) _ ρ a w ⟨⟨ha.1, ha.2.1, fun e he _ => ?_⟩, ?_, ?_, ?_, ?_, blt_lt hm, knOf_ok hkn, knOf_fix hkl, Frame.refl _ _, fun _ _ => rfl⟩ rfl h
  · exact sigAt_ag (by rw [ha.2.2, hv]) e he
  · exact fun e he => Fix.sv (lts_mem hx (sigAt_mem he))
  · exact fun ρ' ha => HE.stable ha _ (by simp only [HE.lt, hm])
  · exact hw.symm
  · exact ho.symm

/-- What the tables say of a function. -/
structure FnOk (P : Program) (c : Cfg) (f : Nat) (fn : Func) : Prop where
  hc : c.P0 = bare P
  heq : eqsOkB P c.eqs = true
  hfn : Fns P c.fns
  hr : c.res = fn.results.toList
  hfo : P.follows .mixedOrders = true
  hpl : plansOk c.plans c.body = true
  hf : P.funcs[f]? = some fn
  hb : fn.body = some c.body
  hnt : fn.ntmps = c.nt
/-- What a loop's head asks. -/
def AtLoop (P : Program) (c : Cfg) (fn : Func) (R : Ending → World → Prop) (p : List Nat) (k : List KI) (vs : List Value) (h : Heap) (o : Os × Array (Nat × ByteArray)) : Prop :=
  ∀ (a : Act) (w' : World), AgV c.nt (c.keepAt p) vs a → w'.heap = h → outw w' = o → (Code.loop (codeAt c.body p)).wp P (denQ P c.body (bodyPost P fn R) k) a w'
/-- What is handed back; the heap is this one; nothing else is turned. -/
abbrev Ret (v : Value) (h : Heap) (o : Os × Array (Nat × ByteArray)) : Ending → World → Prop := fun e w' => e = .returned v ∧ w'.heap = h ∧ outw w' = o
theorem begins {f : Nat} (K : FnOk P c f fn) (xs : List SV) (kn : List (NE × NE × List SV)) (ρ : Env) (m : Nat) (n : Nat) (hx : (SV.lts m xs && knLts m kn && Nat.blt 0 m && Nat.ble xs.length c.nt) = true) {w : World} (hw : ρ.h 0 = w.heap) (ho : ρ.o = outw w) (hkn : KnIn ρ (ρ.h 0) kn) {args : Array Value} (hargs : args = (xs.map (SV.den ρ)).toArray)
    (h : (exec c n (.code c.body [] []) { σ := sigFrom 0 xs, h := .v 0, m := m, kn := knOf kn, wr := [] }).den P c.body c.nt c.keepAt (bodyPost P fn R) R ρ) : Calls P f args w R := by
  simp only [Bool.and_eq_true] at hx
  exact begin_ K.hc K.heq K.hfn K.hr K.hfo K.hpl K.hf K.hb K.hnt xs kn ρ m n hx.1.1.1 hx.1.1.2 hx.1.2 hx.2 hw ho hkn hargs h
/-- What a place asks where the walk was stopped. -/
def AtCut (P : Program) (c : Cfg) (fn : Func) (R : Ending → World → Prop) (p : List Nat) (k : List KI) (vs : List Value) (h : Heap) (o : Os × Array (Nat × ByteArray)) : Prop :=
  ∀ (a : Act) (w' : World), AgV c.nt (c.keepAt p) vs a → w'.heap = h → outw w' = o → (codeAt c.body p).wp P (denQ P c.body (bodyPost P fn R) k) a w'
theorem cutting {f : Nat} (K : FnOk P c f fn) (xs : List SV) (kn : List (NE × NE × List SV)) (ρ : Env) (m n : Nat) (hx : (SV.lts m xs && knLts m kn && Nat.blt 0 m) = true)
    {p : List Nat} {k : List KI} {vs : List Value} {h : Heap} (hvs : vs = xs.map (SV.den ρ)) (hh : h = ρ.h 0) {o : Os × Array (Nat × ByteArray)} (ho : ρ.o = o) (hkn : KnIn ρ (ρ.h 0) kn)
    (hd : (exec c n (.code (codeAt c.body p) p k) { σ := sigAt (c.keepAt p) xs, h := .v 0, m := m, kn := knOf kn, wr := [] }).den P c.body c.nt c.keepAt (bodyPost P fn R) R ρ) :
    AtCut P c fn R p k vs h o := by
  simp only [Bool.and_eq_true] at hx
  intro a w ha hw hw2
  exact enter K.hc K.heq K.hfn K.hr K.hfo K.hpl xs kn ρ m n hx.1.1 hx.1.2 hx.2 hkn ha hvs (by rw [← hh, hw]) (ho.trans hw2.symm) hd
/-- **A loop whose rounds the executor goes through**: the slots, the heap and what is known of it are told by a state. -/
theorem looping {f : Nat} (K : FnOk P c f fn) {α : Type} (xs : List SV) (kn : List (NE × NE × List SV)) (ρ : α → Env) (m n : Nat) (I : α → Prop) (μ : α → Nat) (x0 : α) (h0 : I x0) (hx : (SV.lts m xs && knLts m kn && Nat.blt 0 m) = true)
    {p : List Nat} {k : List KI} {vs : List Value} {h : Heap} (hvs : vs = xs.map (SV.den (ρ x0))) (hh : h = (ρ x0).h 0) {o : Os × Array (Nat × ByteArray)} (ho : ∀ x, (ρ x).o = o) (hkn : ∀ x, I x → KnIn (ρ x) ((ρ x).h 0) kn)
    (round : ∀ x, I x → ∀ N : List Value → Heap → Os × Array (Nat × ByteArray) → Prop, (∀ y, I y → μ y < μ x → N (xs.map (SV.den (ρ y))) ((ρ y).h 0) o) →
      (exec c n (.code (codeAt c.body p) p (.nxt c.nt (c.keepAt p) N :: k)) { σ := sigAt (c.keepAt p) xs, h := .v 0, m := m, kn := knOf kn, wr := [] }).den P c.body c.nt c.keepAt (bodyPost P fn R) R (ρ x)) :
    AtLoop P c fn R p k vs h o := by
  simp only [Bool.and_eq_true] at hx
  subst hvs hh
  have key : ∀ (n' : Nat) (x : α), I x → μ x < n' → ∀ (a : Act) (w : World), AgV c.nt (c.keepAt p) (xs.map (SV.den (ρ x))) a → w.heap = (ρ x).h 0 → outw w = o → Code.rounds P (codeAt c.body p) (denQ P c.body (bodyPost P fn R) k) n' a w := by
    intro n'
    induction n' with
    | zero => intro x _ h; omega
    | succ n' ih =>
      intro x hI hlt a w ha hw hw2
      have hr := round x hI (fun vs h o' => ∃ y, I y ∧ μ y < μ x ∧ vs = xs.map (SV.den (ρ y)) ∧ h = (ρ y).h 0 ∧ o' = o) (fun y h1 h2 => ⟨y, h1, h2, rfl, rfl, rfl⟩)
      refine wp_mono (hq := ?_) (enter K.hc K.heq K.hfn K.hr K.hfo K.hpl xs kn (ρ x) m n hx.1.1 hx.1.2 hx.2 (hkn x hI) ha rfl hw.symm ((ho x).trans hw2.symm) hr)
      intro e a' w' q
      cases e with
      | normal =>
        obtain ⟨⟨h1, h2⟩, y, hy, hlt2, hvs, hh, ho2⟩ := q
        exact ih y hy (by omega) a' w' ⟨h1, h2, hvs⟩ hh ho2
      | exit id => exact q
      | goto l => exact q
      | ret => exact q
      | panic ch => exact q
      | outgrown => exact q
  intro a w ha hw hw2
  exact wp_loop_rounds (μ x0 + 1) (key _ x0 h0 (by omega) a w ha hw hw2)
end
/-- What is chosen for a walk. -/
structure Opts where
  wraps : List Nat := []
  kinds : List (TypeId × List CK) := []
  impure : List Nat := []
  pclo : Bool := true
  tell : Bool := false
  cuts : List (List Nat) := []

theorem inK_i64 (x : Int) : inK .i64 x = (-9223372036854775808 ≤ x ∧ x ≤ 9223372036854775807) := rfl
theorem inK_i32 (x : Int) : inK .i32 x = (-2147483648 ≤ x ∧ x ≤ 2147483647) := rfl
theorem inK_u8 (x : Int) : inK .u8 x = (0 ≤ x ∧ x ≤ 255) := rfl
theorem inK_u32 (x : Int) : inK .u32 x = (0 ≤ x ∧ x ≤ 4294967295) := rfl
theorem inK_u64 (x : Int) : inK .u64 x = (0 ≤ x ∧ x ≤ 18446744073709551615) := rfl
end Go.Proofs.YtkcjhabbgaaknaaGreat.E

/- The engine: blocks of the heap, for contracts. -/
namespace Go.Proofs.YtkcjhabbgaaknaaGreat.E

/-- A block, its cells all told. -/
def Blk (h : Heap) (b : Nat) (e : TypeId) (vs : List Value) : Prop := h[b]? = some (.cells vs.toArray e)
section
variable {h h' : Heap} {b b' o : Nat} {e e' : TypeId} {vs vs' : List Value} {v : Value}
theorem Blk.get (H : Blk h b e vs) (o : Nat) : get h b o = vs[o]? := by unfold E.get; rw [H]; simp
theorem Blk.frz (H : Blk h b e vs) (o : Nat) : frz h b o = false := by unfold E.frz; rw [H]; simp
theorem Blk.lt (H : Blk h b e vs) : b < h.size := by
  unfold Blk at H
  exact (Array.getElem?_eq_some_iff.1 H).1
theorem Blk.eq (H : Blk h b e vs) (H' : Blk h b e' vs') : vs = vs' ∧ e = e' := by
  unfold Blk at H H'
  rw [H] at H'
  injection H' with H'
  injection H' with h1 h2 h3
  exact ⟨by simpa using h1, h2⟩
theorem setc_at (h : Heap) (b o : Nat) (v : Value) (b' : Nat) : (setc h b o v)[b']? = if b = b' then (h[b']?).map (fun x => match x with | .cells c elem fr => .cells (c.setIfInBounds o v) elem fr | x => x) else h[b']? := by
  unfold setc; rw [Array.getElem?_modify]
  split <;> rfl
theorem Blk.set (H : Blk h b e vs) (o : Nat) (v : Value) : Blk (setc h b o v) b e (vs.set o v) := by
  unfold Blk at *
  rw [setc_at, if_pos rfl, H]
  simp
theorem Blk.ne (H : Blk h b e vs) (hb : b' ≠ b) (o : Nat) (v : Value) : Blk (setc h b' o v) b e vs := by
  unfold Blk at *
  rw [setc_at, if_neg hb, H]
theorem Blk.push (H : Blk h b e vs) (x : Obj) : Blk (h.push x) b e vs := by
  have hl := H.lt
  unfold Blk at *
  rw [Array.getElem?_push_lt hl, ← Array.getElem?_eq_getElem hl, H]
theorem Blk.new (h : Heap) (e : TypeId) (vs : List Value) : Blk (h.push (.cells vs.toArray e)) h.size e vs := by
  unfold Blk; simp
theorem Blk.ext (H : Blk h b e vs) (hx : Ext h h') : Blk h' b e vs := by
  unfold Blk at *
  rw [hx.old b (Blk.lt H), H]
theorem Blk.row (H : Blk h b e vs) : row h (some ⟨b, 0, none⟩) vs := .inr ⟨b, 0, rfl, fun j v hv => by rw [H.get]; simpa using hv⟩
theorem Blk.rowAt (H : Blk h b e vs) (o n : Nat) : E.rowAt h b o ((vs.drop o).take n) := fun j v hv => by
  rw [H.get]
  rw [List.getElem?_take] at hv
  split at hv
  · simpa using hv
  · cases hv
theorem Blk.wr (H : Blk h b e vs) {o n : Nat} (hn : o + n ≤ vs.length) : wrAt h b o n := fun j hj => by
  rw [H.get, H.frz]
  refine ⟨?_, rfl⟩
  rw [List.getElem?_eq_getElem (by omega)]; rfl
theorem Ext.refl (h : Heap) : Ext h h := ⟨Nat.le_refl _, fun _ _ => rfl⟩
theorem Ext.trans {h h' h'' : Heap} (a : Ext h h') (b : Ext h' h'') : Ext h h'' := ⟨Nat.le_trans a.le b.le, fun k hk => by rw [b.old k (Nat.lt_of_lt_of_le hk a.le), a.old k hk]⟩
theorem Ext.push (a : Ext h h') (x : Obj) : Ext h (h'.push x) := ⟨by rw [Array.size_push]; exact Nat.le_succ_of_le a.le, fun k hk => by
  have := Nat.lt_of_lt_of_le hk a.le
  rw [Array.getElem?_push_lt this, ← Array.getElem?_eq_getElem this, a.old k hk]⟩
theorem Ext.set (a : Ext h h') (hb : h.size ≤ b) (o : Nat) (v : Value) : Ext h (setc h' b o v) := ⟨by rw [size_setc]; exact a.le, fun k hk => by
  rw [setc_at, if_neg (by omega), a.old k hk]⟩
theorem Ext.get (a : Ext h h') {b o : Nat} (hb : b < h.size) : E.get h' b o = E.get h b o := by unfold E.get; rw [a.old b hb]
theorem Ext.row {vs : List Value} {p : Option Addr} (a : Ext h h') (H : row h p vs) : row h' p vs := by
  rcases H with H | ⟨b, o, hp, H⟩
  · exact .inl H
  · by_cases hv : vs = []
    · exact .inl hv
    · refine .inr ⟨b, o, hp, fun j v hj => ?_⟩
      have h1 := H j v hj
      have hb : b < h.size := by
        unfold E.get at h1
        by_cases hb : b < h.size
        · exact hb
        · rw [Array.getElem?_eq_none (by omega)] at h1; cases h1
      rw [a.get hb]; exact h1
theorem setcs_blk (H : Blk h b e vs) : ∀ (l : List Value) (o : Nat), o + l.length ≤ vs.length → Blk (setcs h b o l) b e (vs.take o ++ l ++ vs.drop (o + l.length)) := by
  intro l
  induction l generalizing h vs with
  | nil => intro o ho; simp only [setcs, List.append_nil, List.length_nil, Nat.add_zero, List.take_append_drop]; exact H
  | cons v l ih =>
    intro o ho
    simp only [List.length_cons] at ho
    have := ih (H.set o v) (o + 1) (by simp; omega)
    simp only [setcs]
    have e1 : (vs.set o v).take (o + 1) ++ l ++ (vs.set o v).drop (o + 1 + l.length) = vs.take o ++ (v :: l) ++ vs.drop (o + (v :: l).length) := by
      rw [List.drop_set_of_lt (by omega), List.take_succ_eq_append_getElem (by simp; omega), List.take_set_of_le (Nat.le_refl _)]
      simp [Nat.add_assoc, Nat.add_comm 1]
    rw [← e1]; exact this
theorem setcs_ne (H : Blk h b e vs) (hb : b' ≠ b) : ∀ (l : List Value) (o : Nat), Blk (setcs h b' o l) b e vs := by
  intro l
  induction l generalizing h with
  | nil => intro o; exact H
  | cons v l ih => intro o; exact ih (H.ne hb o v) (o + 1)
theorem Ext.setcs (hb : h.size ≤ b) : ∀ (l : List Value) (o : Nat) {h' : Heap}, Ext h h' → Ext h (setcs h' b o l)
  | [], _, _, a => a
  | v :: l, o, _, a => Ext.setcs hb l (o + 1) (a.set hb o v)
theorem size_setcs (b : Nat) : ∀ (l : List Value) (o : Nat) (h : Heap), (setcs h b o l).size = h.size
  | [], _, _ => rfl
  | v :: l, o, h => by rw [E.setcs, size_setcs b l, size_setc]
theorem Blk.cellsAt (H : Blk h b e vs) : CellsAt h b 0 vs := ⟨H.lt, fun j v hj => ⟨by rw [H.get, Nat.zero_add]; exact hj, H.frz _⟩⟩
theorem Ext.cellsAt {b o : Nat} (a : Ext h h') (H : CellsAt h b o vs) : CellsAt h' b o vs :=
  ⟨Nat.lt_of_lt_of_le H.1 a.le, fun j v hj => by rw [get_block (a.old b H.1), frz_block (a.old b H.1)]; exact H.2 j v hj⟩
theorem Frame.none (a : Frame (fun _ => False) h h') : Ext h h' := a.ext fun _ _ => id
theorem CellsAt.get {o : Nat} (H : CellsAt h b o vs) {j : Nat} (hj : vs[j]? = some v) : E.get h b (o + j) = some v := (H.2 j v hj).1
theorem CellsAt.frz {o : Nat} (H : CellsAt h b o vs) {j : Nat} (hj : j < vs.length) : E.frz h b (o + j) = false := (H.2 j _ (List.getElem?_eq_getElem hj)).2
theorem CellsAt.wr {o : Nat} (H : CellsAt h b o vs) {j : Nat} (hj : j < vs.length) : (E.get h b (o + j)).isSome = true ∧ E.frz h b (o + j) = false := by
  have := H.2 j _ (List.getElem?_eq_getElem hj)
  exact ⟨by rw [this.1]; rfl, this.2⟩
theorem CellsAt.rowAt {o : Nat} (H : CellsAt h b o vs) : E.rowAt h b o vs := fun j v hj => (H.2 j v hj).1
theorem CellsAt.row {o : Nat} (H : CellsAt h b o vs) : E.row h (some ⟨b, o, none⟩) vs := .inr ⟨b, o, rfl, H.rowAt⟩
theorem CellsAt.set {o : Nat} (H : CellsAt h b o vs) (j : Nat) (v : Value) : CellsAt (setc h b (o + j) v) b o (vs.set j v) := by
  refine ⟨by rw [size_setc]; exact H.1, fun k u hk => ?_⟩
  rw [get_setc, frz_setc]
  rw [List.getElem?_set] at hk
  by_cases e : j = k
  · subst e
    rw [if_pos rfl] at hk
    split at hk
    · rename_i hl
      injection hk with hk; subst hk
      have := H.2 j _ (List.getElem?_eq_getElem hl)
      exact ⟨by rw [if_pos ⟨rfl, rfl, by rw [this.1]; rfl⟩], this.2⟩
    · cases hk
  · rw [if_neg e] at hk
    have := H.2 k u hk
    exact ⟨by rw [if_neg (fun x => e (by omega))]; exact this.1, this.2⟩
theorem CellsAt.ne {o : Nat} (H : CellsAt h b o vs) (hb : b' ≠ b) (o' : Nat) (v : Value) : CellsAt (setc h b' o' v) b o vs := by
  refine ⟨by rw [size_setc]; exact H.1, fun k u hk => ?_⟩
  rw [get_setc, frz_setc, if_neg (fun x => hb x.1)]
  exact H.2 k u hk
theorem CellsAt.push {o : Nat} (H : CellsAt h b o vs) (x : Obj) : CellsAt (h.push x) b o vs := (ext_push h x).cellsAt H
end
/-- What is handed back; what was there is as it was. -/
abbrev RetX (v : Value) (h : Heap) (o : Os × Array (Nat × ByteArray)) : Ending → World → Prop := fun e w' => e = .returned v ∧ Ext h w'.heap ∧ outw w' = o
/-- What is handed back of this kind; what was there is as it was. -/
abbrev RetP (Q : Value → Heap → Prop) (h : Heap) (o : Os × Array (Nat × ByteArray)) : Ending → World → Prop := fun e w' => ∃ v, e = .returned v ∧ Q v w'.heap ∧ Ext h w'.heap ∧ outw w' = o
theorem u8s_length (l : List UInt8) : (u8s l).length = l.length := by simp [u8s]
theorem u8s_get {l : List UInt8} {j : Nat} (hj : j < l.length) : (u8s l)[j]? = some (.int .u8 ((l.getD j 0).toNat : Int)) := by simp [u8s, List.getD, hj]
theorem u8s_set (l : List UInt8) (j : Nat) (c : UInt8) : (u8s l).set j (.int .u8 (c.toNat : Int)) = u8s (l.set j c) := by simp [u8s, List.map_set]
theorem u8s_app (a b : List UInt8) : u8s (a ++ b) = u8s a ++ u8s b := by simp [u8s]
/-- A new row whose head is told, and that may be written. -/
theorem CellsAt.fresh (h : Heap) (vs rest : List Value) (e : TypeId) (f : Nat × Nat) (hf : vs.length ≤ f.1) : CellsAt (h.push (.cells (vs ++ rest).toArray e f)) h.size 0 vs := by
  refine ⟨by simp, fun j v hj => ?_⟩
  have hl := (List.getElem?_eq_some_iff.1 hj).1
  obtain ⟨f1, f2⟩ := f
  unfold E.get E.frz
  simp only [Array.getElem?_push_size, Nat.zero_add, List.getElem?_toArray, List.getElem?_append_left hl, hj, true_and, Bool.and_eq_false_iff, decide_eq_false_iff_not]
  simp only at hf
  left; omega
theorem CellsAt.made (h : Heap) (vs : List Value) (e : TypeId) : CellsAt (h.push (.cells vs.toArray e)) h.size 0 vs := (Blk.new h e vs).cellsAt
end Go.Proofs.YtkcjhabbgaaknaaGreat.E

/- The engine: slices that a call makes and lengthens. -/
namespace Go.Proofs.YtkcjhabbgaaknaaGreat.E
/-- A slice of the call's own: nil, or at the head of a block that was not there at base; vs: its cells; behind them room. -/
def Own (h : Heap) (base : Nat) (p : Option Addr) (cap size : Nat) (vs : List Value) : Prop :=
  (p = none ∧ vs = [] ∧ cap = 0) ∨ ∃ b rest, p = some ⟨b, 0, none⟩ ∧ base ≤ b ∧ CellsAt h b 0 (vs ++ rest) ∧ (vs ++ rest).length = cap * size
section
variable {h h' : Heap} {base cap size n m e bytes : Nat} {p p' : Option Addr} {vs news : List Value} {c' : Nat}
theorem Own.nil (h : Heap) (base size : Nat) : Own h base none 0 size [] := .inl ⟨rfl, rfl, rfl⟩
theorem Own.row (H : Own h base p cap size vs) : row h p vs := by
  rcases H with ⟨_, rfl, _⟩ | ⟨b, rest, rfl, _, hc, _⟩
  · exact .inl rfl
  · refine .inr ⟨b, 0, rfl, fun j v hj => (hc.2 j v ?_).1⟩
    rw [List.getElem?_append_left (List.getElem?_eq_some_iff.1 hj).1]; exact hj
theorem Own.ne (H : Own h base p cap size vs) {b : Nat} (hb : h.size ≤ b) : ∀ a, p = some a → a.block ≠ b := by
  intro a ha
  rcases H with ⟨rfl, _, _⟩ | ⟨b', rest, rfl, _, hc, _⟩
  · cases ha
  · injection ha with ha; subst ha
    have := hc.1
    simp only; omega
theorem Own.ne_lt (H : Own h base p cap size vs) {b : Nat} (hb : b < base) : ∀ a, p = some a → a.block ≠ b := by
  intro a ha
  rcases H with ⟨rfl, _, _⟩ | ⟨b', rest, rfl, h1, hc, _⟩
  · cases ha
  · injection ha with ha; subst ha
    simp only; omega
theorem Own.ext (H : Own h base p cap size vs) (hx : Ext h h') : Own h' base p cap size vs := by
  rcases H with H | ⟨b, rest, h1, h2, hc, h3⟩
  · exact .inl H
  · exact .inr ⟨b, rest, h1, h2, hx.cellsAt hc, h3⟩
theorem Own.app (H : Own h base p cap size vs) (hn : vs.length = n * size) (hfit : (n + m) * bytes ≤ 140737488355328) (hlen : n + m ≤ 9223372036854775807) : AppK h size bytes p n cap m vs where
  oldL := hn
  old := H.row
  room := fun hr => by
    rcases H with ⟨rfl, rfl, rfl⟩ | ⟨b, rest, rfl, _, hc, h3⟩
    · left; have : m = 0 := by omega
      simp [this]
    · right
      refine ⟨b, 0, rfl, fun j hj => ?_⟩
      have hsz : (n + m) * size ≤ cap * size := Nat.mul_le_mul_right _ hr
      rw [Nat.add_mul] at hsz
      have := hc.wr (j := n * size + j) (by omega)
      simpa [Nat.add_assoc] using this
  fit := hfit
  len := hlen
theorem setcs_cells {b : Nat} : ∀ (l : List Value) (a c : List Value) {h : Heap} (rest : List Value), CellsAt h b 0 (a ++ rest) → l.length ≤ rest.length → rest.drop l.length = c → CellsAt (setcs h b a.length l) b 0 (a ++ l ++ c)
  | [], a, c, h, rest, H, _, hc => by simp at hc; subst hc; simpa [setcs] using H
  | v :: l, a, c, h, rest, H, hl, hc => by
    cases rest with
    | nil => simp at hl
    | cons u rest =>
      simp only [setcs]
      have H1 := H.set a.length v
      rw [Nat.zero_add] at H1
      have e : (a ++ u :: rest).set a.length v = (a ++ [v]) ++ rest := by simp
      rw [e] at H1
      have := setcs_cells l (a ++ [v]) c rest H1 (by simpa using hl) (by simpa using hc)
      simpa using this
theorem Own.next (H : Own h base p cap size vs) (hn : vs.length = n * size) (hm : news.length = m * size) (hb : base ≤ h.size) (ha : Appended e size h p n cap m vs news h' p' c') : Own h' base p' c' size (vs ++ news) := by
  rcases ha with ⟨hr, rfl, rfl, rfl⟩ | ⟨_, hle, rest, hrl, rfl, rfl⟩
  · rcases H with ⟨rfl, rfl, rfl⟩ | ⟨b, rest, rfl, h1, hc, h3⟩
    · have : m = 0 := by omega
      subst this
      have : news = [] := List.eq_nil_of_length_eq_zero (by rw [hm]; simp)
      subst this
      exact .inl ⟨rfl, rfl, rfl⟩
    · have hsz : (n + m) * size ≤ c' * size := Nat.mul_le_mul_right _ hr
      rw [Nat.add_mul] at hsz
      rw [List.length_append] at h3
      refine .inr ⟨b, rest.drop news.length, rfl, h1, ?_, ?_⟩
      · have := setcs_cells news vs (rest.drop news.length) rest hc (by omega) rfl
        unfold setRow
        simp only [Nat.zero_add]
        rw [← hn]; exact this
      · simp only [List.length_append, List.length_drop]; omega
  · refine .inr ⟨h.size, rest, rfl, hb, CellsAt.made h _ e, ?_⟩
    simp only [List.length_append, hn, hm, hrl]
    rw [← Nat.add_mul, ← Nat.add_mul]
    congr 1; omega
theorem Own.keep {h0 : Heap} (H : Own h base p cap size vs) (hb : h0.size ≤ base) (hx : Ext h0 h) (ha : Appended e size h p n cap m vs news h' p' c') : Ext h0 h' := by
  rcases ha with ⟨hr, rfl, rfl, rfl⟩ | ⟨_, hle, rest, hrl, rfl, rfl⟩
  · rcases H with ⟨rfl, rfl, rfl⟩ | ⟨b, rest, rfl, h1, hc, h3⟩
    · exact hx
    · exact Ext.setcs (Nat.le_trans hb h1) _ _ hx
  · exact hx.push _
/-- What stands in another block stays. -/
theorem Own.other (H : Own h base p cap size vs) {b o : Nat} {us : List Value} (hu : CellsAt h b o us) (hb : ∀ a, p = some a → a.block ≠ b) (ha : Appended e size h p n cap m vs news h' p' c') : CellsAt h' b o us := by
  rcases ha with ⟨hr, rfl, rfl, rfl⟩ | ⟨_, hle, rest, hrl, rfl, rfl⟩
  · unfold setRow
    split
    · rename_i a
      have hne := hb a rfl
      refine ⟨by rw [setcs_sz]; exact hu.1, fun j v hj => ?_⟩
      rw [get_block (setcs_old hne _ _ _), frz_block (setcs_old hne _ _ _)]
      exact hu.2 j v hj
    · exact hu
  · exact hu.push _
end
end Go.Proofs.YtkcjhabbgaaknaaGreat.E
