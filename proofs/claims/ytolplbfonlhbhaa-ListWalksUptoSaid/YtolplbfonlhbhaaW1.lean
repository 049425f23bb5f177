/- The row of ListKeys: its contract over what came in. -/
import Derived.Test.YtolplbfonlhbhaaC20
import Derived.Test.YtolplbfonlhbhaaRd
import Derived.Test.YtolplbfonlhbhaaEngW
import Derived.Shelf.Vars
set_option linter.unusedVariables false
set_option linter.unusedSectionVars false
set_option linter.unusedSimpArgs false
namespace Go.Proofs.Ytolplbfonlhbhaa
open Go Go.Eng Go.ChangeShapes Go.RowKit Go.WideShapes Go.ChangeMaps

theorem ownKnob23 : ownKnob Try.prog.godebug = none := by kernel_rfl
theorem laidOut23 : laidOutB Try.prog = true := by kernel_rfl

/-- what is known of the library's one variable -/
@[reducible] def globs23 (m : Int) : Globs := ⟨fun g => if g = 0 then some (.raw (.int .i64 m)) else none⟩
theorem g23 (m : Int) : @G23 (globs23 m) := @G23.mk (globs23 m) ⟨m, rfl⟩
theorem globs23_cell {W : World} {m : Int} (h : W.cell? ⟨0, 0, none⟩ = some (.int .i64 m)) : ∀ g x, (globs23 m).dat g = some x → ∃ cs, cellsAt (Z0 W) W g 0 cs ∧ RepD (Z0 W) W x cs := by
  intro g x hx
  change (if g = 0 then some (D.raw (.int .i64 m)) else none) = some x at hx
  split at hx
  · rename_i hg
    subst hg
    cases hx
    refine ⟨[.int .i64 m], fun j v hj => ?_, by simp [RepD, Value.oneCell']⟩
    cases j with
    | zero =>
      simp only [List.getElem?_cons_zero, Option.some.injEq] at hj
      subst hj
      exact ⟨⟨(cell_lt h).1, trivial⟩, h⟩
    | succ j => simp at hj
  · cases hx
theorem maxlen23 {W : World} (hsh : W.ShapedOpen Try.prog) : ∃ m, W.cell? ⟨0, 0, none⟩ = some (.int .i64 m) :=
  Go.Proofs.cell_of_shapedOpen_int (zero := #[.int .i64 0]) (t := 3) hsh (of_decide_eq_true (by kernel_rfl)) (by kernel_rfl) rfl (by kernel_rfl) (by kernel_rfl) Try.underlying3

set_option maxRecDepth 100000 in
theorem keys_contract (F : Stop.Interp) {H : Type} {enc : TypeId × Value → H} (W : World) (base : Nat) (args : Array Value) (ds gs : List (DataW H)) (before : List MemPlace) (hsh : W.ShapedOpen Try.prog)
    (hval : ∀ (j : Nat) t v, Try.f3.params[j]? = some t → args[j]? = some v → Value.okWide Try.prog W .any base t v)
    (hW : DataW.Whole enc Try.prog Try.f3.params.toList (Rows.OpenSpec.upto Rows.listKeysSpec).vars false W args.toList ds gs before) (hk : Rows.uptoSmall H (ds ++ gs) = true) :
    Calls Try.prog 3 args W fun e W' => ∃ v, e = .returned v ∧ ((Rows.OpenSpec.upto Rows.listKeysSpec).at F).post enc Try.prog Try.f3 false true false false W args v W' := by
  have hW' := hW
  obtain ⟨p, q, hA0, hV, hpq, hfz, hnd⟩ := hW
  have hA : DataW.TrodAll enc Try.prog W 0 (fun _ => true) true Try.f3.params.toList args.toList ds p := hA0
  rw [Try.params3] at hA hval
  obtain ⟨v0, vs0, d0, ds0, p0, q0, hargs, rfl, rfl, h0, r0⟩ := trodAll_cons hA
  obtain ⟨v1, vs1, d1, ds1, p1, q1, rfl, rfl, rfl, h1, r1⟩ := trodAll_cons r0
  obtain ⟨v2, vs2, d2, ds2, p2, q2, rfl, rfl, rfl, h2, r2⟩ := trodAll_cons r1
  obtain ⟨v3, vs3, d3, ds3, p3, q3, rfl, rfl, rfl, h3, r3⟩ := trodAll_cons r2
  obtain ⟨v4, vs4, d4, ds4, p4, q4, rfl, rfl, rfl, h4, r4⟩ := trodAll_cons r3
  obtain ⟨rfl, rfl, rfl⟩ := trodAll_nil r4
  obtain rfl : args = #[v0, v1, v2, v3, v4] := by cases args; simp_all
  obtain ⟨rfl, rfl⟩ := trodVars_none hV
  have hb := of_decide_eq_true hk
  simp only [List.append_nil, Rows.uptoBulkAll] at hb
  obtain ⟨s, R0, ok0⟩ := arg_ag rd_st Try.underlying25 (fun _ => rfl) (hval 0 25 v0 rfl rfl) h0 (by omega)
  obtain ⟨s1, R1, ok1⟩ := arg_str Try.underlying9 (hval 1 9 v1 rfl rfl) h1 (by omega)
  obtain ⟨s2, R2, ok2⟩ := arg_str Try.underlying9 (hval 2 9 v2 rfl rfl) h2 (by omega)
  obtain ⟨s3, R3, ok3⟩ := arg_str Try.underlying9 (hval 3 9 v3 rfl rfl) h3 (by omega)
  obtain ⟨n, R4, ok4⟩ := arg_int Try.underlying3 (hval 4 3 v4 rfl rfl) h4
  obtain ⟨m, hm⟩ := maxlen23 hsh
  letI : Globs := globs23 m
  haveI : G23 := g23 m
  refine (row_run (f3_ok s s1 s2 s3 n ok0 ok1 ok2) (globs23_cell hm) ?_).mono fun e W' ⟨he, hw⟩ => ?_
  · simp only [RepVs]
    exact ⟨_, _, rfl, R0, _, _, rfl, R1, _, _, rfl, R2, _, _, rfl, R3, _, _, rfl, R4, rfl⟩
  · subst he
    exact ⟨_, rfl, post_yes laidOut23 (of_decide_eq_true (by kernel_rfl)) (t := 4) (by kernel_rfl) Try.underlying4 rfl hW' hw rfl⟩

set_option maxRecDepth 100000 in
theorem keys_lifted (os : Os) (started : os.Started) (H : Type) (enc : TypeId × Value → H) (F : Stop.Interp) :
    ReturnsInHanded {} Try.checked os 3 .any ((Rows.OpenSpec.upto Rows.listKeysSpec).pre6 enc Try.prog Try.f3 Rows.listKeysUptoRow.domain false) (((Rows.OpenSpec.upto Rows.listKeysSpec).at F).post enc Try.prog Try.f3 false true false false) := by
  refine handed_shaped (C := Try.checked) (s := Rows.OpenSpec.upto Rows.listKeysSpec) (k := Rows.uptoSmall) rfl ownKnob23 started (by kernel_rfl) Try.func3
    (OpenSpec.witness (enc := enc) (C := Try.checked) (s := Rows.OpenSpec.upto Rows.listKeysSpec) (k := Rows.uptoSmall) rfl false ⟨#[], #[.agg #[.int .i64 0, .int .u64 0, .int .u64 0, .slice none 0 0], .string ⟨#[]⟩, .string ⟨#[]⟩, .string ⟨#[]⟩, .int .i64 0], []⟩ 8 (by kernel_rfl) (by kernel_rfl) (by kernel_rfl)
      (x := ([.agg [.lit (.int .i64 0), .lit (.int .u64 0), .lit (.int .u64 0), .nil], .lit (.string []), .lit (.string []), .lit (.string []), .lit (.int .i64 0)], [], [])) (by kernel_rfl) rfl (by kernel_rfl)) ?_
  intro W base args ds gs before hsh hval hW hk
  exact keys_contract F W base args ds gs before hsh hval hW hk

theorem listKeysUpto : Rows.ListKeysUptoSaid :=
  OpenClaim.holds_of_cond 3 Try.f3 rfl rfl rfl rfl rfl rfl rfl ⟨rfl, rfl, rfl, rfl, rfl⟩ rfl rfl rfl rfl rfl (by kernel_rfl) Try.func3 (by kernel_rfl)
    (of_decide_eq_true (by kernel_rfl)) (by unfold Func.isWrapper; first | (rw [if_pos (by decide +kernel)]; kernel_rfl) | (rw [if_neg (by decide +kernel)]; exact ⟨rfl, rfl⟩))
    (fun os started H enc _ F => keys_lifted os started H enc F)
end Go.Proofs.Ytolplbfonlhbhaa
