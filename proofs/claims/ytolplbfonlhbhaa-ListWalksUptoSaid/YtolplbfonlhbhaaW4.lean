/- The row of ListWalks: its contract over what came in. -/
import Derived.Test.YtolplbfonlhbhaaC25
import Derived.Test.YtolplbfonlhbhaaRd
import Derived.Test.YtolplbfonlhbhaaEngW
import Derived.Test.YtolplbfonlhbhaaW1
set_option linter.unusedVariables false
set_option linter.unusedSectionVars false
set_option linter.unusedSimpArgs false
namespace Go.Proofs.Ytolplbfonlhbhaa
open Go Go.Eng Go.ChangeShapes Go.RowKit Go.WideShapes Go.ChangeMaps

set_option maxRecDepth 100000 in
theorem walks_contract (F : Stop.Interp) {H : Type} {enc : TypeId × Value → H} (W : World) (base : Nat) (args : Array Value) (ds gs : List (DataW H)) (before : List MemPlace) (hsh : W.ShapedOpen Try.prog)
    (hval : ∀ (j : Nat) t v, Try.f6.params[j]? = some t → args[j]? = some v → Value.okWide Try.prog W .any base t v)
    (hW : DataW.Whole enc Try.prog Try.f6.params.toList (Rows.OpenSpec.upto Rows.listWalksSpec).vars false W args.toList ds gs before) (hk : Rows.uptoSmall H (ds ++ gs) = true) :
    Calls Try.prog 6 args W fun e W' => ∃ v, e = .returned v ∧ ((Rows.OpenSpec.upto Rows.listWalksSpec).at F).post enc Try.prog Try.f6 false true false false W args v W' := by
  have hW' := hW
  obtain ⟨p, q, hA0, hV, hpq, hfz, hnd⟩ := hW
  have hA : DataW.TrodAll enc Try.prog W 0 (fun _ => true) true Try.f6.params.toList args.toList ds p := hA0
  rw [Try.params6] at hA hval
  obtain ⟨v0, vs0, d0, ds0, p0, q0, hargs, rfl, rfl, h0, r0⟩ := trodAll_cons hA
  obtain ⟨v1, vs1, d1, ds1, p1, q1, rfl, rfl, rfl, h1, r1⟩ := trodAll_cons r0
  obtain ⟨v2, vs2, d2, ds2, p2, q2, rfl, rfl, rfl, h2, r2⟩ := trodAll_cons r1
  obtain ⟨rfl, rfl, rfl⟩ := trodAll_nil r2
  obtain rfl : args = #[v0, v1, v2] := by cases args; simp_all
  obtain ⟨rfl, rfl⟩ := trodVars_none hV
  have hb := of_decide_eq_true hk
  simp only [List.append_nil, Rows.uptoBulkAll] at hb
  obtain ⟨s, R0, ok0⟩ := arg_ag rd_st Try.underlying25 (fun _ => rfl) (hval 0 25 v0 rfl rfl) h0 (by omega)
  obtain ⟨s1, R1, ok1⟩ := arg_str Try.underlying9 (hval 1 9 v1 rfl rfl) h1 (by omega)
  obtain ⟨n, R2, ok3⟩ := arg_int Try.underlying5 (hval 2 5 v2 rfl rfl) h2
  have hn : 0 ≤ n ∧ n ≤ 255 := by simpa [Lit.wf, IntKind.min, IntKind.max, IntKind.signed, IntKind.bits] using ok3
  obtain ⟨m, hm⟩ := maxlen23 hsh
  letI : Globs := globs23 m
  haveI : G23 := g23 m
  refine (row_run (f6_ok s s1 n ok0 hn.1 hn.2) (globs23_cell hm) ?_).mono fun e W' ⟨he, hw⟩ => ?_
  · simp only [RepVs]
    exact ⟨_, _, rfl, R0, _, _, rfl, R1, _, _, rfl, R2, rfl⟩
  · subst he
    exact ⟨_, rfl, post_yes laidOut23 (of_decide_eq_true (by kernel_rfl)) (t := 4) (by kernel_rfl) Try.underlying4 rfl hW' hw rfl⟩

set_option maxRecDepth 100000 in
theorem walks_lifted (os : Os) (started : os.Started) (H : Type) (enc : TypeId × Value → H) (F : Stop.Interp) :
    ReturnsInHanded {} Try.checked os 6 .any ((Rows.OpenSpec.upto Rows.listWalksSpec).pre6 enc Try.prog Try.f6 Rows.listWalksUptoRow.domain false) (((Rows.OpenSpec.upto Rows.listWalksSpec).at F).post enc Try.prog Try.f6 false true false false) := by
  refine handed_shaped (C := Try.checked) (s := Rows.OpenSpec.upto Rows.listWalksSpec) (k := Rows.uptoSmall) rfl ownKnob23 started (by kernel_rfl) Try.func6
    (OpenSpec.witness (enc := enc) (C := Try.checked) (s := Rows.OpenSpec.upto Rows.listWalksSpec) (k := Rows.uptoSmall) rfl false ⟨#[], #[.agg #[.int .i64 0, .int .u64 0, .int .u64 0, .slice none 0 0], .string ⟨#[]⟩, .int .u8 0], []⟩ 8 (by kernel_rfl) (by kernel_rfl) (by kernel_rfl)
      (x := ([.agg [.lit (.int .i64 0), .lit (.int .u64 0), .lit (.int .u64 0), .nil], .lit (.string []), .lit (.int .u8 0)], [], [])) (by kernel_rfl) rfl (by kernel_rfl)) ?_
  intro W base args ds gs before hsh hval hW hk
  exact walks_contract F W base args ds gs before hsh hval hW hk

theorem listWalksUpto : Rows.ListWalksUptoSaid :=
  OpenClaim.holds_of_cond 6 Try.f6 rfl rfl rfl rfl rfl rfl rfl ⟨rfl, rfl, rfl, rfl, rfl⟩ rfl rfl rfl rfl rfl (by kernel_rfl) Try.func6 (by kernel_rfl)
    (of_decide_eq_true (by kernel_rfl)) (by unfold Func.isWrapper; first | (rw [if_pos (by decide +kernel)]; kernel_rfl) | (rw [if_neg (by decide +kernel)]; exact ⟨rfl, rfl⟩))
    (fun os started H enc _ F => walks_lifted os started H enc F)
end Go.Proofs.Ytolplbfonlhbhaa
