/- The state's types, read as data. -/
import Derived.Test.YtolplbfonlhbhaaC9
import Derived.Test.YtolplbfonlhbhaaEngV
set_option linter.unusedVariables false
set_option linter.unusedSectionVars false
set_option linter.unusedSimpArgs false
namespace Go.Proofs.Ytolplbfonlhbhaa
open Go Go.Eng Go.ChangeShapes Go.RowKit
variable {W : World} {H : Type} {enc : TypeId × Value → H}

theorem rd_tag : RdT Try.prog W enc 83 dTag okTag :=
  rd_map (fun x => TagL.mk x.1 x.2.1) (rd_struct Try.underlying83 (N := 2) (by kernel_rfl) (rd_cons (k := 1) rfl (by kernel_rfl) (rd_str Try.underlying9) (rd_cons (k := 1) rfl (by kernel_rfl) (rd_str Try.underlying9) rd_nil))) (fun _ _ => rfl) (fun x h => ⟨h.1, h.2.1⟩)
theorem rd_tags : RdT Try.prog W enc 51 (fun l => dTags l) (okL okTag) := rd_slice Try.underlying51 (k := 2) (by kernel_rfl) (by omega) rd_tag
theorem rd_lock : RdT Try.prog W enc 50 dLock fun _ => True :=
  rd_map (fun x => LockL.mk x.1 x.2.1 x.2.2.1) (rd_struct Try.underlying50 (N := 3) (by kernel_rfl) (rd_cons (k := 1) rfl (by kernel_rfl) (rd_int Try.underlying3) (rd_cons (k := 1) rfl (by kernel_rfl) (rd_int Try.underlying2) (rd_cons (k := 1) rfl (by kernel_rfl) (rd_bool Try.underlying4) rd_nil)))) (fun _ _ => rfl) (fun x h => trivial)
theorem rd_digest : RdT Try.prog W enc 48 (fun l : List UInt8 => .arr 32 1 (l.map dByte)) fun l => l.length = 32 := rd_bytes Try.underlying48 Try.underlying5 (by kernel_rfl) (by kernel_rfl)
theorem rd_ver : RdT Try.prog W enc 53 dVer okVer :=
  rd_map (fun x => VerL.mk x.1 x.2.1 x.2.2.1 x.2.2.2.1 x.2.2.2.2.1 x.2.2.2.2.2.1 x.2.2.2.2.2.2.1 x.2.2.2.2.2.2.2.1)
    (rd_struct Try.underlying53 (N := 41) (by kernel_rfl) (rd_cons (k := 1) rfl (by kernel_rfl) (rd_int Try.underlying22) (rd_cons (k := 1) rfl (by kernel_rfl) (rd_bool Try.underlying4) (rd_cons (k := 1) rfl (by kernel_rfl) (rd_int Try.underlying3) (rd_cons (k := 1) rfl (by kernel_rfl) (rd_int Try.underlying22)
      (rd_cons (k := 32) rfl (by kernel_rfl) rd_digest (rd_cons (k := 1) rfl (by kernel_rfl) (rd_int Try.underlying2) (rd_cons (k := 3) rfl (by kernel_rfl) rd_lock (rd_cons (k := 1) rfl (by kernel_rfl) rd_tags rd_nil))))))))) (fun _ _ => rfl) (fun x h => ⟨h.2.2.2.2.1, h.2.2.2.2.2.2.2.1⟩)
theorem rd_obj : RdT Try.prog W enc 60 dObj okObj :=
  rd_map (fun x => ObjL.mk x.1 x.2.1) (rd_struct Try.underlying60 (N := 2) (by kernel_rfl) (rd_cons (k := 1) rfl (by kernel_rfl) (rd_str Try.underlying9) (rd_cons (k := 1) rfl (by kernel_rfl) (rd_slice Try.underlying58 (k := 41) (by kernel_rfl) (by omega) rd_ver) rd_nil))) (fun _ _ => rfl) (fun x h => ⟨h.1, h.2.1⟩)
theorem rd_rule : RdT Try.prog W enc 101 dRule okRule :=
  rd_map (fun x => RuleL.mk x.1 x.2.1 x.2.2.1 x.2.2.2.1 x.2.2.2.2.1) (rd_struct Try.underlying101 (N := 5) (by kernel_rfl) (rd_cons (k := 1) rfl (by kernel_rfl) (rd_str Try.underlying9) (rd_cons (k := 1) rfl (by kernel_rfl) rd_tags (rd_cons (k := 1) rfl (by kernel_rfl) (rd_int Try.underlying3) (rd_cons (k := 1) rfl (by kernel_rfl) (rd_int Try.underlying3) (rd_cons (k := 1) rfl (by kernel_rfl) (rd_bool Try.underlying4) rd_nil)))))) (fun _ _ => rfl) (fun x h => ⟨h.1, h.2.1⟩)
theorem rd_grant : RdT Try.prog W enc 104 dGrant okGrant :=
  rd_map (fun x => GrantL.mk x.1 x.2.1 x.2.2.1 x.2.2.2.1) (rd_struct Try.underlying104 (N := 4) (by kernel_rfl) (rd_cons (k := 1) rfl (by kernel_rfl) (rd_bool Try.underlying4) (rd_cons (k := 1) rfl (by kernel_rfl) (rd_str Try.underlying9) (rd_cons (k := 1) rfl (by kernel_rfl) (rd_str Try.underlying9) (rd_cons (k := 1) rfl (by kernel_rfl) (rd_str Try.underlying9) rd_nil))))) (fun _ _ => rfl) (fun x h => ⟨h.2.1, h.2.2.1, h.2.2.2.1⟩)
theorem rd_part : RdT Try.prog W enc 108 dPart fun _ => True :=
  rd_map (fun x => PartL.mk x.1 x.2.1 x.2.2.1 x.2.2.2.1) (rd_struct Try.underlying108 (N := 35) (by kernel_rfl) (rd_cons (k := 1) rfl (by kernel_rfl) (rd_int Try.underlying3) (rd_cons (k := 1) rfl (by kernel_rfl) (rd_int Try.underlying3) (rd_cons (k := 1) rfl (by kernel_rfl) (rd_int Try.underlying22) (rd_cons (k := 32) rfl (by kernel_rfl) rd_digest rd_nil))))) (fun _ _ => rfl) (fun x h => trivial)
theorem rd_up : RdT Try.prog W enc 94 dUp okUp :=
  rd_map (fun x => UpL.mk x.1 x.2.1 x.2.2.1 x.2.2.2.1) (rd_struct Try.underlying94 (N := 4) (by kernel_rfl) (rd_cons (k := 1) rfl (by kernel_rfl) (rd_int Try.underlying22) (rd_cons (k := 1) rfl (by kernel_rfl) (rd_str Try.underlying9) (rd_cons (k := 1) rfl (by kernel_rfl) rd_tags (rd_cons (k := 1) rfl (by kernel_rfl) (rd_slice Try.underlying92 (k := 35) (by kernel_rfl) (by omega) rd_part) rd_nil))))) (fun _ _ => rfl) (fun x h => ⟨h.2.1, h.2.2.1, h.2.2.2.1.1⟩)
theorem rd_days : RdT Try.prog W enc 27 (fun x : Int × Int => .ag [.raw (.int .i64 x.1), .raw (.int .i64 x.2)]) fun _ => True :=
  rd_map (fun x => (x.1, x.2.1)) (rd_struct Try.underlying27 (N := 2) (by kernel_rfl) (rd_cons (k := 1) rfl (by kernel_rfl) (rd_int Try.underlying3) (rd_cons (k := 1) rfl (by kernel_rfl) (rd_int Try.underlying3) rd_nil))) (fun _ _ => rfl) (fun x h => trivial)
theorem rd_buc : RdT Try.prog W enc 33 dBuc okBuc :=
  rd_map (fun x => BucL.mk x.1 x.2.1.1 x.2.1.2 x.2.2.1 x.2.2.2.1 x.2.2.2.2.1 x.2.2.2.2.2.1)
    (rd_struct Try.underlying33 (N := 7) (by kernel_rfl) (rd_cons (k := 1) rfl (by kernel_rfl) (rd_str Try.underlying9) (rd_cons (k := 2) rfl (by kernel_rfl) rd_days (rd_cons (k := 1) rfl (by kernel_rfl) (rd_slice Try.underlying28 (k := 5) (by kernel_rfl) (by omega) rd_rule)
      (rd_cons (k := 1) rfl (by kernel_rfl) (rd_slice Try.underlying29 (k := 4) (by kernel_rfl) (by omega) rd_grant) (rd_cons (k := 1) rfl (by kernel_rfl) (rd_slice Try.underlying30 (k := 2) (by kernel_rfl) (by omega) rd_obj) (rd_cons (k := 1) rfl (by kernel_rfl) (rd_slice Try.underlying31 (k := 4) (by kernel_rfl) (by omega) rd_up) rd_nil))))))) (fun _ _ => rfl) (fun x h => ⟨h.1, h.2.2.1, h.2.2.2.1, h.2.2.2.2.1, h.2.2.2.2.2.1⟩)
theorem rd_st : RdT Try.prog W enc 25 dSt okSt :=
  rd_map (fun x => StL.mk x.1 x.2.1 x.2.2.1 x.2.2.2.1) (rd_struct Try.underlying25 (N := 4) (by kernel_rfl) (rd_cons (k := 1) rfl (by kernel_rfl) (rd_int Try.underlying2) (rd_cons (k := 1) rfl (by kernel_rfl) (rd_int Try.underlying22) (rd_cons (k := 1) rfl (by kernel_rfl) (rd_int Try.underlying22) (rd_cons (k := 1) rfl (by kernel_rfl) (rd_slice Try.underlying23 (k := 7) (by kernel_rfl) (by omega) rd_buc) rd_nil))))) (fun _ _ => rfl) (fun x h => h.2.2.2.1)
theorem rd_spot : RdT Try.prog W enc 44 dSpot fun _ => True :=
  rd_map (fun x => SpotL.mk x.1 x.2.1 x.2.2.1) (rd_struct Try.underlying44 (N := 3) (by kernel_rfl) (rd_cons (k := 1) rfl (by kernel_rfl) (rd_str Try.underlying9) (rd_cons (k := 1) rfl (by kernel_rfl) (rd_str Try.underlying9) (rd_cons (k := 1) rfl (by kernel_rfl) (rd_int Try.underlying22) rd_nil)))) (fun _ _ => rfl) (fun x h => trivial)
end Go.Proofs.Ytolplbfonlhbhaa
