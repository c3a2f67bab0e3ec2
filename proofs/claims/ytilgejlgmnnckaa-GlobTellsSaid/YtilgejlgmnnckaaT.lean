import Derived.Test.YtilgejlgmnnckaaProg
import Derived.Test.YtilgejlgmnnckaaEng3
import Derived.KernelRfl
/- The engine at this seat's program: its tables (by a program of ours). -/
namespace Go.Proofs.Ytilgejlgmnnckaa
open E
noncomputable def P0 : Program := { toTables := Try.progTables, funcs := #[] }
def fnsTab : List (Option (List TypeId)) := [none, none, some [], some [4], some [4], some [4], some [4], some [4], some [4], some [9], some [3], some [4], some [4], some [4], some [4], some [4, 3], some [4, 9], some [4, 3], some [4, 9], none, none, none, none, none, none, none, none, none, none, none, none, none, none, none, none]
def fnsOk (P : Program) (l : List (Option (List TypeId))) : Bool := (List.range l.length).all fun f => match l[f]? with
  | some (some ts) => enters P f && (match P.funcs[f]? with | some fn => fn.resultTypes.toList == ts | none => false)
  | _ => true
theorem fns_of {P : Program} {l : List (Option (List TypeId))} (h : fnsOk P l = true) : Fns P l := by
  intro f ts hf
  simp only [fnsOk, List.all_eq_true, List.mem_range] at h
  have h1 := h f (List.getElem?_eq_some_iff.1 hf).1
  simp only [hf, Bool.and_eq_true] at h1
  refine ⟨h1.1, ?_⟩
  cases hp : P.funcs[f]? with
  | none => rw [hp] at h1; exact absurd h1.2 (by simp)
  | some fn => rw [hp] at h1; exact ⟨fn, rfl, by simpa using h1.2⟩
theorem fns_ok : Fns Try.prog fnsTab := fns_of (by kernel_rfl)
theorem fol : Try.prog.follows .mixedOrders = true := by kernel_rfl
noncomputable def cfg (fn : Func) (keep : List (List Nat × List Nat)) (wraps : List Nat) (pl : List (Nat × Plan)) : Cfg := { body := fn.body.getD .skip, P0 := P0, fns := fnsTab, res := fn.results.toList, nt := fn.ntmps, keep := keep, wraps := wraps, plans := pl }
theorem ok0 (body : Code) : plansOk [] body = true := by
  induction body with
  | region id ops d => cases d <;> rfl
  | seq a b h1 h2 => simp [plansOk, h1, h2]
  | cond _ a b h1 h2 => simp [plansOk, h1, h2]
  | block _ b h => simpa [plansOk] using h
  | loop b h => simpa [plansOk] using h
  | _ => rfl
noncomputable abbrev c2 (wraps : List Nat) : Cfg := cfg Try.f2 [] wraps []
theorem k2 (wraps : List Nat) : FnOk Try.prog (c2 wraps) 2 Try.f2 := ⟨rfl, fns_ok, rfl, fol, (ok0 _), Try.func2, rfl, rfl⟩
noncomputable abbrev c3 (wraps : List Nat) : Cfg := cfg Try.f3 [([0, 0, 1, 0, 1, 1, 1], [0, 1, 2, 7, 8])] wraps []
theorem k3 (wraps : List Nat) : FnOk Try.prog (c3 wraps) 3 Try.f3 := ⟨rfl, fns_ok, rfl, fol, (ok0 _), Try.func3, rfl, rfl⟩
noncomputable abbrev c4 (wraps : List Nat) : Cfg := cfg Try.f4 [([0, 0, 1, 0, 1, 1], [0, 1, 5, 6, 7])] wraps []
theorem k4 (wraps : List Nat) : FnOk Try.prog (c4 wraps) 4 Try.f4 := ⟨rfl, fns_ok, rfl, fol, (ok0 _), Try.func4, rfl, rfl⟩
noncomputable abbrev c5 (wraps : List Nat) : Cfg := cfg Try.f5 [([0, 0, 1, 0, 1, 1, 1], [0, 1, 5, 6])] wraps []
theorem k5 (wraps : List Nat) : FnOk Try.prog (c5 wraps) 5 Try.f5 := ⟨rfl, fns_ok, rfl, fol, (ok0 _), Try.func5, rfl, rfl⟩
noncomputable abbrev c6 (wraps : List Nat) : Cfg := cfg Try.f6 [] wraps []
theorem k6 (wraps : List Nat) : FnOk Try.prog (c6 wraps) 6 Try.f6 := ⟨rfl, fns_ok, rfl, fol, (ok0 _), Try.func6, rfl, rfl⟩
noncomputable abbrev c7 (wraps : List Nat) : Cfg := cfg Try.f7 [([0, 0, 1, 0, 1, 1], [1, 9, 10, 11]), ([0, 0, 1, 0, 1, 0, 0, 1, 1, 0, 0, 1, 0, 1, 1], [1, 3, 9, 10, 11, 15, 16, 17]), ([0, 0, 1, 0, 1, 1, 1, 0, 0, 1, 1, 0, 0, 1, 0, 1, 1], [1, 3, 6, 7, 9, 10, 11])] wraps []
theorem k7 (wraps : List Nat) : FnOk Try.prog (c7 wraps) 7 Try.f7 := ⟨rfl, fns_ok, rfl, fol, (ok0 _), Try.func7, rfl, rfl⟩
noncomputable abbrev c8 (wraps : List Nat) : Cfg := cfg Try.f8 [([0, 0, 1, 0, 1, 1], [0, 1, 5, 6, 7]), ([0, 0, 1, 0, 1, 1, 1], [0, 1, 5, 6, 8])] wraps []
theorem k8 (wraps : List Nat) : FnOk Try.prog (c8 wraps) 8 Try.f8 := ⟨rfl, fns_ok, rfl, fol, (ok0 _), Try.func8, rfl, rfl⟩
noncomputable abbrev c9 (wraps : List Nat) : Cfg := cfg Try.f9 [] wraps []
theorem k9 (wraps : List Nat) : FnOk Try.prog (c9 wraps) 9 Try.f9 := ⟨rfl, fns_ok, rfl, fol, (ok0 _), Try.func9, rfl, rfl⟩
noncomputable abbrev c10 (wraps : List Nat) : Cfg := cfg Try.f10 [] wraps []
theorem k10 (wraps : List Nat) : FnOk Try.prog (c10 wraps) 10 Try.f10 := ⟨rfl, fns_ok, rfl, fol, (ok0 _), Try.func10, rfl, rfl⟩
def pl11 : List (Nat × Plan) := [(9, (.hoist 0 [] (.hoist 1 [] (.hoist 2 [] (.hoist 3 [] (.hoist 4 [] (.hoist 5 [] (.alt 6 (.hoist 7 [] (.hoist 8 [] (.hoist 9 [] (.hoist 10 [] (.hoist 11 [] .done))))) .nil))))))))]
noncomputable abbrev c11 (wraps : List Nat) : Cfg := cfg Try.f11 [([0, 0, 1, 1, 1], [0, 1, 5, 6, 7, 8])] wraps pl11
theorem k11 (wraps : List Nat) : FnOk Try.prog (c11 wraps) 11 Try.f11 := ⟨rfl, fns_ok, rfl, fol, (by kernel_rfl), Try.func11, rfl, rfl⟩
noncomputable abbrev c12 (wraps : List Nat) : Cfg := cfg Try.f12 [([0, 0, 0, 1, 1, 1], [0, 1, 5]), ([0, 0, 1, 0, 1, 0, 1, 0, 1, 0, 1, 0, 0, 0, 1, 1, 1], [0, 1, 5, 6, 7, 8]), ([0, 0, 1, 0, 1, 1, 1, 0, 1, 0, 0, 0, 1, 1, 1], [0, 1, 5, 6, 10, 11])] wraps []
theorem k12 (wraps : List Nat) : FnOk Try.prog (c12 wraps) 12 Try.f12 := ⟨rfl, fns_ok, rfl, fol, (ok0 _), Try.func12, rfl, rfl⟩
noncomputable abbrev c13 (wraps : List Nat) : Cfg := cfg Try.f13 [] wraps []
theorem k13 (wraps : List Nat) : FnOk Try.prog (c13 wraps) 13 Try.f13 := ⟨rfl, fns_ok, rfl, fol, (ok0 _), Try.func13, rfl, rfl⟩
noncomputable abbrev c14 (wraps : List Nat) : Cfg := cfg Try.f14 [([0, 0, 1, 0, 1], [0, 5, 6])] wraps []
theorem k14 (wraps : List Nat) : FnOk Try.prog (c14 wraps) 14 Try.f14 := ⟨rfl, fns_ok, rfl, fol, (ok0 _), Try.func14, rfl, rfl⟩
noncomputable abbrev c15 (wraps : List Nat) : Cfg := cfg Try.f15 [] wraps []
theorem k15 (wraps : List Nat) : FnOk Try.prog (c15 wraps) 15 Try.f15 := ⟨rfl, fns_ok, rfl, fol, (ok0 _), Try.func15, rfl, rfl⟩
def pl16 : List (Nat × Plan) := [(3, (.hoist 0 [] (.hoist 1 [] (.hoist 2 [] (.hoist 3 [] .done))))), (8, (.hoist 0 [] (.hoist 1 [] (.hoist 2 [] (.hoist 3 [] (.hoist 4 [] (.hoist 5 [] (.hoist 6 [] (.hoist 7 [] .done))))))))), (9, (.hoist 0 [] (.hoist 1 [] (.hoist 2 [] (.hoist 3 [] (.hoist 4 [] (.hoist 5 [] (.hoist 6 [] (.hoist 7 [] .done)))))))))]
noncomputable abbrev c16 (wraps : List Nat) : Cfg := cfg Try.f16 [] wraps pl16
theorem k16 (wraps : List Nat) : FnOk Try.prog (c16 wraps) 16 Try.f16 := ⟨rfl, fns_ok, rfl, fol, (by kernel_rfl), Try.func16, rfl, rfl⟩
def pl17 : List (Nat × Plan) := [(12, (.hoist 0 [] (.hoist 1 [] (.hoist 2 [] (.hoist 3 [] (.hoist 4 [] (.hoist 5 [] (.hoist 6 [] (.hoist 7 [] (.hoist 8 [] (.hoist 9 [] (.hoist 10 [] (.hoist 11 [] (.hoist 12 [] (.hoist 13 [] (.hoist 14 [] (.hoist 15 [] (.hoist 16 [] (.hoist 17 [] .done)))))))))))))))))))]
noncomputable abbrev c17 (wraps : List Nat) : Cfg := cfg Try.f17 [([0, 0, 0, 1, 1, 1, 1], [0, 1, 6, 7, 8])] wraps pl17
theorem k17 (wraps : List Nat) : FnOk Try.prog (c17 wraps) 17 Try.f17 := ⟨rfl, fns_ok, rfl, fol, (by kernel_rfl), Try.func17, rfl, rfl⟩
def pl18 : List (Nat × Plan) := [(11, (.hoist 0 [] (.hoist 1 [] (.hoist 2 [] (.hoist 3 [] (.hoist 4 [] (.hoist 5 [] .done)))))))]
noncomputable abbrev c18 (wraps : List Nat) : Cfg := cfg Try.f18 [([0, 0, 0, 1, 1, 1, 1], [0, 1, 6, 7])] wraps pl18
theorem k18 (wraps : List Nat) : FnOk Try.prog (c18 wraps) 18 Try.f18 := ⟨rfl, fns_ok, rfl, fol, (by kernel_rfl), Try.func18, rfl, rfl⟩
end Go.Proofs.Ytilgejlgmnnckaa
