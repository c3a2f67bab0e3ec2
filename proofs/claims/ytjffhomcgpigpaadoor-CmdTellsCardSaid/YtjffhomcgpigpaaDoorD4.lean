import Derived.Test.YtjffhomcgpigpaaDoorD3
import Derived.Test.YtjffhomcgpigpaaDoorC2
/- CmdTells: for every drawn command, every row of texts, every text the law returns true; the input reads as it did. Conditions: errors.errorType as the program's text lays it (tied). -/
namespace Go.Proofs.YtjffhomcgpigpaaDoor
open Go Go.ChangeShapes Go.WideShapes Go.RowKit
open Go.ChangeMaps (open_string shut_string)
set_option maxRecDepth 100000 in
theorem cmdTells_lifted (os : Os) (started : os.Started) (H : Type) (enc : TypeId × Value → H) :
    ReturnsInHanded {} Tryd.checked os 3 .any (fun w args => (Rows.cmdTellsSpec.pre enc Tryd.prog Tryd.f3 [] false w args ∧ laidMetH Tryd.prog Rows.cmdTellsRow.laid w) ∧ sizedMet enc Tryd.prog Tryd.f3 (OpenSpec.ofChange Rows.cmdTellsSpec) false w args)
      (Rows.cmdTellsSpec.post enc Tryd.prog Tryd.f3 false true false false) := by
  refine returnsInHanded_of_change_and (C := Tryd.checked) (X := fun w _ => laidMetH Tryd.prog Rows.cmdTellsRow.laid w) (fun _ _ _ hh h => h.of_heap hh) Tryd.own started (by kernel_rfl) Tryd.func3
    (ChangeSpec.witness_at (enc := enc) (C := Tryd.checked) (os := os) (X := fun w _ => laidMetH Tryd.prog Rows.cmdTellsRow.laid w) false (laidWorld os) #[.agg #[.int .i64 0, .slice none 0 0, .bool false, .bool false], .slice none 0 0, .string ⟨#[]⟩] 8 rfl (by kernel_rfl) (by kernel_rfl) (by kernel_rfl) (by kernel_rfl) (by kernel_rfl) (laidWorld_met os _)) ?_
  intro W base args ds gs before hval0 hW _ _ hL _
  have hval : ∀ (j : Nat) t v, Tryd.f3.params[j]? = some t → args[j]? = some v → Value.okWide Tryd.prog W .any base t v := hval0
  have hW' := hW
  obtain ⟨p, q, hA0, hV0, rfl, hfz, hnd⟩ := hW
  have hA : DataW.TrodAll enc Tryd.prog W 0 (fun _ => true) true Tryd.f3.params.toList args.toList ds p := hA0
  have hV : DataW.TrodVars enc Tryd.prog W (fun _ => true) [] gs q := hV0
  rw [Tryd.params3] at hA hval
  obtain ⟨v0, v1, v2, d0, d1, d2, p0, p1, p2, rfl, rfl, rfl, h0, h1, h2⟩ := trodAll_three hA
  obtain ⟨n, la, fits, upper, qa, qc, rfl, hrw, hln⟩ := ask_open (hval 0 24 v0 rfl rfl) h0
  obtain ⟨l, pl, cap, rfl, hlr, hll⟩ := texts_open (hval 1 25 v1 rfl rfl) h1
  obtain ⟨s, rfl, rfl, rfl, ws⟩ := open_string Tryd.underlying9 (hval 2 9 v2 rfl rfl) h2
  have hg := handle_of_laid rfl hL
  obtain ⟨rfl, rfl⟩ : gs = [] ∧ q = [] := by
    cases gs with
    | nil => exact ⟨rfl, hV⟩
    | cons g r => exact absurd hV (by intro h; cases h)
  clear hA0 hval0
  simp only [List.append_nil] at hW'
  have hlt : ∀ x ∈ p0 ++ p1, x.block < W.heap.size := fun x hx => by simpa using hW'.lt x hx
  have hs : s.data.toList.length ≤ 9223372036854775807 := by
    have e : s.data.toList.length = s.size := rfl
    rw [e]; simp only [maxLen] at ws; omega
  have hc := CmdTells_any n la fits upper qa qc l pl cap s.data.toList W hg hrw hln hlr hll hs
  rw [bs_self] at hc
  refine hc.mono fun e W' ⟨he, hx, ho⟩ => ?_
  subst he
  exact ⟨_, rfl, _, _, _, [], _, [], hW', trodAll_mk1 (shut_bool Tryd.underlying4 _), trodAll_mk3 (trod_ext Tryd.laidOut (by kernel_rfl) (of_decide_eq_true (by kernel_rfl)) h0 hx (fun x hx => hlt x (List.mem_append_left _ hx))) (trod_ext Tryd.laidOut (by kernel_rfl) (of_decide_eq_true (by kernel_rfl)) h1 hx (fun x hx => hlt x (List.mem_append_right _ hx))) (shut_string Tryd.underlying9 ws), rfl, kept_of_ext hx ho _, fun h => by cases h⟩
theorem cmdTells_row : Rows.CmdTellsSaid :=
  OpenClaim.holds_of_wide 3 Tryd.f3 rfl rfl rfl rfl rfl rfl rfl ⟨rfl, rfl, rfl, rfl, rfl⟩ rfl rfl rfl rfl rfl (by kernel_rfl) Tryd.func3 (by kernel_rfl)
    (of_decide_eq_true (by kernel_rfl)) (by unfold Func.isWrapper; first | (rw [if_pos (by decide +kernel)]; kernel_rfl) | (rw [if_neg (by decide +kernel)]; exact ⟨rfl, rfl⟩))
    (fun os started H enc _ => cmdTells_lifted os started H enc)
theorem cmdTells_holds : Rows.CmdTellsCardSaid :=
  Claim7.holds_tied_plain_at .later [] [.handle] true (true, "25e7a7ce053d11ffa69fece5188e0ed8ab5ddadf03dc70477841453f76bd4c5b") true
    cmdTells_row (fun _ h => by cases h) (by kernel_rfl) (fun _ h => by cases h) cmdTells_row_tie rfl ⟨rfl, rfl⟩ (by kernel_rfl) rfl
    (fun f fn hf hfn => by
      obtain rfl : f = 3 := Option.some.inj ((show Tryd.prog.funcNamed "tallboy/tallboylaw20.CmdTells" = some 3 by kernel_rfl).symm.trans hf) |>.symm
      obtain rfl : fn = Tryd.f3 := (Option.some.inj (Tryd.func3.symm.trans hfn)).symm
      exact ⟨by kernel_rfl, fun j t ht => by
        rw [Tryd.params3] at ht
        have hm : t ∈ [24, 25, 9] := by simpa using Array.mem_of_getElem? ht
        have hall : ([24, 25, 9].all fun u => !Tryd.prog.wantsStandIn u) = true := by kernel_rfl
        exact (show Tryd.prog.wantsStandIn t = false by simpa using List.all_eq_true.1 hall t hm)⟩)
    (by kernel_rfl)
#print axioms cmdTells_holds
end Go.Proofs.YtjffhomcgpigpaaDoor
