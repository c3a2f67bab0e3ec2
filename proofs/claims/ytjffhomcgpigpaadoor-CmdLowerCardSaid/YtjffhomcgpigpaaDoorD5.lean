import Derived.Test.YtjffhomcgpigpaaDoorD3
import Derived.Test.YtjffhomcgpigpaaDoorC6
/- CmdLower: for every drawn command, every row of bools the law returns true; the input reads as it did. Conditions: errors.errorType as the program's text lays it (tied). -/
namespace Go.Proofs.YtjffhomcgpigpaaDoor
open Go Go.ChangeShapes Go.WideShapes Go.RowKit
open Go.ChangeMaps (open_string shut_string)
set_option maxRecDepth 100000 in
theorem bools_open {H : Type} {enc : TypeId × Value → H} {W : World} {base : Nat} {v : Value} {d : DataW H} {ps : List MemPlace} (hv : Value.okWide Tryd.prog W .any base 40 v) (h : DataW.Trod enc Tryd.prog W 0 (fun _ => true) true 40 v d ps) :
    ∃ (l : List Bool) (q : Option Addr) (qc : Nat), v = .slice q l.length qc ∧ E.row W.heap q (bools l) ∧ l.length ≤ 9223372036854775807 := by
  obtain ⟨a0, len0, cap0, rfl⟩ := okWide_slice Tryd.underlying40 hv
  obtain ⟨fuel, hf⟩ := h
  have e4 : Tryd.prog.cellsOf 4 = 1 := by kernel_rfl
  rcases DataW.trod_slice Tryd.underlying40 hf with ⟨hcs, _⟩ | ⟨a, len, cap, elems, rest, n, _, hcs, _, _, hl, hm, hlen, hel, _, _⟩
  · simp [Value.cells] at hcs
    obtain ⟨rfl, rfl, rfl⟩ := hcs
    exact ⟨[], none, 0, rfl, .inl rfl, by simp⟩
  · simp [Value.cells] at hcs
    obtain ⟨rfl, rfl, rfl⟩ := hcs
    rw [e4] at hel
    have each : ∀ i, i < len0 → ∃ b : Bool, W.cell? (a.add (i * 1)) = some (.bool b) := by
      intro i hi
      have h1 := hel i hi
      rw [List.getElem?_eq_getElem (by omega)] at h1
      obtain ⟨c, hc, ht⟩ := Option.bind_eq_some_iff.1 h1
      obtain ⟨b, rfl⟩ := atom_bool Tryd.underlying4 ht
      refine ⟨b, ?_⟩
      unfold World.cells? at hc
      rw [if_pos (Nat.zero_le _)] at hc
      have e : List.range 1 = [0] := rfl
      rw [e] at hc
      simp only [List.mapM_cons, List.mapM_nil, Option.bind_eq_bind, Option.bind_eq_some_iff, Option.pure_def, Option.some.injEq] at hc
      obtain ⟨c0, h0, _, rfl, hcs⟩ := hc
      injection hcs with e0 _
      subst e0
      exact h0
    have hlm : len0 ≤ 9223372036854775807 := by simp only [maxLen] at hm; omega
    by_cases h0 : len0 = 0
    · exact ⟨[], some a, cap0, by rw [h0]; rfl, .inl rfl, by simp⟩
    obtain ⟨b, o, spot⟩ := a
    have hs : spot = none := by
      obtain ⟨_, hc⟩ := each 0 (by omega)
      cases spot with
      | none => rfl
      | some s =>
        unfold World.cell? at hc
        simp [Addr.add] at hc
        split at hc <;> simp at hc
    subst hs
    have build : ∀ m, m ≤ len0 → ∃ l : List Bool, l.length = m ∧ ∀ j v, (bools l)[j]? = some v → E.get W.heap b (o + j) = some v := by
      intro m
      induction m with
      | zero => exact fun _ => ⟨[], rfl, by simp [bools]⟩
      | succ m ih =>
        intro hm'
        obtain ⟨l, hl, hrow⟩ := ih (by omega)
        obtain ⟨k, c0⟩ := each m (by omega)
        rw [E.addr_add, E.cell_get, Nat.mul_one] at c0
        refine ⟨l ++ [k], by simp [hl], fun j v hj => ?_⟩
        have e : bools (l ++ [k]) = bools l ++ [.bool k] := by simp [bools]
        rw [e] at hj
        by_cases hjl : j < (bools l).length
        · rw [List.getElem?_append_left hjl] at hj; exact hrow j v hj
        · rw [List.getElem?_append_right (by omega)] at hj
          rw [bools_length, hl] at hj hjl
          obtain hj1 | hj1 : j - m = 0 ∨ 1 ≤ j - m := by omega
          · rw [hj1] at hj; injection hj with hj; subst hj
            rw [show o + j = o + m by omega]; exact c0
          · rw [List.getElem?_eq_none (by simpa using hj1)] at hj; cases hj
    obtain ⟨l, hl, hrow⟩ := build len0 (Nat.le_refl _)
    exact ⟨l, some ⟨b, o, none⟩, cap0, by rw [hl], .inr ⟨b, o, rfl, hrow⟩, by rw [hl]; exact hlm⟩
set_option maxRecDepth 100000 in
theorem cmdLower_lifted (os : Os) (started : os.Started) (H : Type) (enc : TypeId × Value → H) :
    ReturnsInHanded {} Tryd.checked os 4 .any (fun w args => (Rows.cmdLowerSpec.pre enc Tryd.prog Tryd.f4 [] false w args ∧ laidMetH Tryd.prog Rows.cmdLowerRow.laid w) ∧ sizedMet enc Tryd.prog Tryd.f4 (OpenSpec.ofChange Rows.cmdLowerSpec) false w args)
      (Rows.cmdLowerSpec.post enc Tryd.prog Tryd.f4 false true false false) := by
  refine returnsInHanded_of_change_and (C := Tryd.checked) (X := fun w _ => laidMetH Tryd.prog Rows.cmdLowerRow.laid w) (fun _ _ _ hh h => h.of_heap hh) Tryd.own started (by kernel_rfl) Tryd.func4
    (ChangeSpec.witness_at (enc := enc) (C := Tryd.checked) (os := os) (X := fun w _ => laidMetH Tryd.prog Rows.cmdLowerRow.laid w) false (laidWorld os) #[.agg #[.int .i64 0, .slice none 0 0, .bool false, .bool false], .slice none 0 0] 8 rfl (by kernel_rfl) (by kernel_rfl) (by kernel_rfl) (by kernel_rfl) (by kernel_rfl) (laidWorld_met os _)) ?_
  intro W base args ds gs before hval0 hW _ _ hL _
  have hval : ∀ (j : Nat) t v, Tryd.f4.params[j]? = some t → args[j]? = some v → Value.okWide Tryd.prog W .any base t v := hval0
  have hW' := hW
  obtain ⟨p, q, hA0, hV0, rfl, hfz, hnd⟩ := hW
  have hA : DataW.TrodAll enc Tryd.prog W 0 (fun _ => true) true Tryd.f4.params.toList args.toList ds p := hA0
  have hV : DataW.TrodVars enc Tryd.prog W (fun _ => true) [] gs q := hV0
  rw [Tryd.params4] at hA hval
  obtain ⟨v0, v1, d0, d1, p0, p1, rfl, rfl, rfl, h0, h1⟩ := trodAll_two hA
  obtain ⟨n, la, fits, upper, qa, qc, rfl, hrw, hln⟩ := ask_open (hval 0 24 v0 rfl rfl) h0
  obtain ⟨fl, pf, cap, rfl, hfr, hfl⟩ := bools_open (hval 1 40 v1 rfl rfl) h1
  have hg := handle_of_laid rfl hL
  obtain ⟨rfl, rfl⟩ : gs = [] ∧ q = [] := by
    cases gs with
    | nil => exact ⟨rfl, hV⟩
    | cons g r => exact absurd hV (by intro h; cases h)
  clear hA0 hval0
  simp only [List.append_nil] at hW'
  have hlt : ∀ x ∈ p0 ++ p1, x.block < W.heap.size := fun x hx => by simpa using hW'.lt x hx
  have hc := CmdLower_any n la fits upper qa qc fl pf cap W hg hrw hln hfr hfl
  refine hc.mono fun e W' ⟨he, hx, ho⟩ => ?_
  subst he
  exact ⟨_, rfl, _, _, _, [], _, [], hW', trodAll_mk1 (shut_bool Tryd.underlying4 _), trodAll_mk2 (trod_ext Tryd.laidOut (by kernel_rfl) (of_decide_eq_true (by kernel_rfl)) h0 hx (fun x hx => hlt x (List.mem_append_left _ hx))) (trod_ext Tryd.laidOut (by kernel_rfl) (of_decide_eq_true (by kernel_rfl)) h1 hx (fun x hx => hlt x (List.mem_append_right _ hx))), rfl, kept_of_ext hx ho _, fun h => by cases h⟩
theorem cmdLower_row : Rows.CmdLowerSaid :=
  OpenClaim.holds_of_wide 4 Tryd.f4 rfl rfl rfl rfl rfl rfl rfl ⟨rfl, rfl, rfl, rfl, rfl⟩ rfl rfl rfl rfl rfl (by kernel_rfl) Tryd.func4 (by kernel_rfl)
    (of_decide_eq_true (by kernel_rfl)) (by unfold Func.isWrapper; first | (rw [if_pos (by decide +kernel)]; kernel_rfl) | (rw [if_neg (by decide +kernel)]; exact ⟨rfl, rfl⟩))
    (fun os started H enc _ => cmdLower_lifted os started H enc)
theorem cmdLower_holds : Rows.CmdLowerCardSaid :=
  Claim7.holds_tied_plain_at .later [] [.handle] true (true, "25e7a7ce053d11ffa69fece5188e0ed8ab5ddadf03dc70477841453f76bd4c5b") true
    cmdLower_row (fun _ h => by cases h) (by kernel_rfl) (fun _ h => by cases h) cmdLower_row_tie rfl ⟨rfl, rfl⟩ (by kernel_rfl) rfl
    (fun f fn hf hfn => by
      obtain rfl : f = 4 := Option.some.inj ((show Tryd.prog.funcNamed "tallboy/tallboylaw20.CmdLower" = some 4 by kernel_rfl).symm.trans hf) |>.symm
      obtain rfl : fn = Tryd.f4 := (Option.some.inj (Tryd.func4.symm.trans hfn)).symm
      exact ⟨by kernel_rfl, fun j t ht => by
        rw [Tryd.params4] at ht
        have hm : t ∈ [24, 40] := by simpa using Array.mem_of_getElem? ht
        have hall : ([24, 40].all fun u => !Tryd.prog.wantsStandIn u) = true := by kernel_rfl
        exact (show Tryd.prog.wantsStandIn t = false by simpa using List.all_eq_true.1 hall t hm)⟩)
    (by kernel_rfl)
#print axioms cmdLower_holds
end Go.Proofs.YtjffhomcgpigpaaDoor
