/- The law ImageOnlyRight: its row and its card. Conditions: none. Printed by mkclaim.py. -/
import Derived.Test.YtfmbdcmjgnikiaaDoorN7
import Derived.Test.YtfmbdcmjgnikiaaDoorM12
set_option linter.unusedSimpArgs false
set_option linter.unusedVariables false
namespace Go.Proofs.YtfmbdcmjgnikiaaDoor.fnImageOnlyRight
open Go Go.RowKit Go.ChangeShapes Go.WideShapes Go.ChangeAt Go.Proofs.YtfmbdcmjgnikiaaDoor.Sm

theorem fits : fitA Tryd.prog [tB, tY, tH, tY, tY, tW] Tryd.f9.params.toList = true := by kernel_rfl
theorem readable : ∀ t ∈ Tryd.f9.params.toList, Tryd.prog.readableRec t = true ∧ t < Tryd.prog.types.size := by
  have h : (Tryd.f9.params.toList.all fun t => Tryd.prog.readableRec t && decide (t < Tryd.prog.types.size)) = true := by kernel_rfl
  intro t ht
  have := List.all_eq_true.1 h t ht
  simpa using this
theorem gives : ∀ (H : Type) (ds : List (DataW H)), ds.length = 6 → Rows.imageOnlyRightSpec.fn H ds = { results := [.lit (.bool true)], args := ds }
  | H, [d1, d2, d3, d4, d5, d6], _ => rfl
noncomputable def wArgs : Array Value := #[.slice none 0 0, .int .u8 0, .int .u16 0, .int .u8 0, .int .u8 0, .int .u64 0]
set_option maxRecDepth 100000 in
theorem reads (os : Os) {H : Type} (enc : TypeId × Value → H) : ∃ places, DataW.whole enc Tryd.prog ((laidWorld os).forCall (fun _ _ => 0) ⟨#[], wArgs, []⟩).memory Tryd.f9.params.toList Rows.imageOnlyRightSpec.vars false wArgs.toList 8 = some ([.nil, .lit (.int .u8 0), .lit (.int .u16 0), .lit (.int .u8 0), .lit (.int .u8 0), .lit (.int .u64 0)], [], places) :=
  ⟨[], by kernel_rfl⟩
set_option maxRecDepth 100000 in
theorem lifted (os : Os) (started : os.Started) (H : Type) (enc : TypeId × Value → H) (F : Stop.Interp) :
    ReturnsInHanded {} Tryd.checked os 9 .any ((OpenSpec.ofChange Rows.imageOnlyRightSpec).preRow enc Tryd.prog Tryd.f9 Rows.imageOnlyRightRow.domain false Rows.imageOnlyRightRow.laid) (((OpenSpec.ofChange Rows.imageOnlyRightSpec).at F).post enc Tryd.prog Tryd.f9 false true false false) := by
  obtain ⟨places, hx⟩ := reads os enc
  refine returnsInHanded_of_row (C := Tryd.checked) (s := OpenSpec.ofChange Rows.imageOnlyRightSpec) own started (by kernel_rfl) Tryd.func9
    (witness_row_at (enc := enc) (C := Tryd.checked) false (laidWorld os) wArgs rfl (by kernel_rfl) (by kernel_rfl) (by kernel_rfl)
      (OpenSpec.preRow_of_cond 8 hx (by kernel_rfl) (fun k hk => by cases hk) (by kernel_rfl) (laid_met os wArgs))) ?_
  intro W base args ds gs before hval hW _ _ hsz _ _ _
  exact law_contract runs_ok hG (f := 9) (mf := _) rfl fits (st := ⟨[], [], 0, [], 0⟩) (fun ss h => g_ImageOnlyRight h) rfl laid_out readable rfl Tryd.underlying4 (gives H) hval hW hsz
theorem said : Rows.ImageOnlyRightSaid :=
  OpenClaim.holds_of_cond 9 Tryd.f9 rfl rfl rfl rfl rfl rfl rfl ⟨rfl, rfl, rfl, rfl, rfl⟩ rfl rfl rfl rfl rfl (by kernel_rfl) Tryd.func9 (by kernel_rfl)
    (of_decide_eq_true (by kernel_rfl)) (by unfold Func.isWrapper; first | (rw [if_pos (by decide +kernel)]; kernel_rfl) | (rw [if_neg (by decide +kernel)]; exact ⟨rfl, rfl⟩))
    (fun os started H enc _ F => by rw [OpenClaim.pre_eq_preRow]; exact lifted os started H enc F)
theorem plain (f : FuncId) (fn : Func) (hf : Tryd.pinned.checked.prog.funcNamed Rows.imageOnlyRightRow.func = some f) (hfn : Tryd.pinned.checked.prog.funcs[f]? = some fn) :
    false = Tryd.pinned.checked.prog.looks [] ∧ ∀ (j : Nat) t, fn.params[j]? = some t → Tryd.pinned.checked.prog.wantsStandIn t = false := by
  obtain rfl : f = 9 := Option.some.inj ((show Tryd.prog.funcNamed Rows.imageOnlyRightRow.func = some 9 by kernel_rfl).symm.trans hf) |>.symm
  obtain rfl : fn = Tryd.f9 := (Option.some.inj (Tryd.func9.symm.trans hfn)).symm
  refine ⟨by kernel_rfl, fun j t ht => ?_⟩
  have h : (Tryd.f9.params.toList.all fun t => !Tryd.prog.wantsStandIn t) = true := by kernel_rfl
  have := List.all_eq_true.1 h t (by simpa using Array.mem_of_getElem? ht)
  exact (by simpa using this : Tryd.prog.wantsStandIn t = false)
theorem card : Rows.ImageOnlyRightCardSaid :=
  Claim7.holds_tied_plain_at .later [] _ _ _ _ said (fun _ h => by cases h) (by kernel_rfl) (fun _ h => by cases h) imageOnlyRight_row_tie rfl ⟨rfl, rfl⟩ (by kernel_rfl) rfl plain (by kernel_rfl)
end Go.Proofs.YtfmbdcmjgnikiaaDoor.fnImageOnlyRight
