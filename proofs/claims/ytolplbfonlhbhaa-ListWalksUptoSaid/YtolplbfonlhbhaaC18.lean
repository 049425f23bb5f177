/- Contracts, eighteenth part: entries for the lists; the simplest facts. -/
import Derived.Test.YtolplbfonlhbhaaC17
set_option maxRecDepth 20000
set_option maxHeartbeats 4000000
set_option linter.unusedVariables false
set_option linter.unusedSectionVars false
set_option linter.unusedSimpArgs false
namespace Go.Proofs.Ytolplbfonlhbhaa
open Go Go.Eng
variable [Globs]

variable [G23]
noncomputable def e10 : Ent
  | [.d x, .d (.raw (.string pre)), .d (.raw (.string mark)), .d (.raw (.string after)), .d (.raw (.int .i64 most))] => open Classical in if h : ∃ p : BucL, dBuc p = x then some (okBuc h.choose ∧ pre.size ≤ 1048576 ∧ mark.size ≤ 1048576, fun r => r = keysR h.choose pre mark after most) else none
  | _ => none
theorem e10_ok : EntOk Try.prog 10 e10 := by
  intro args q post he
  unfold e10 at he
  split at he
  · split at he
    · rename_i x pre mark after most hx
      simp only [Option.some.injEq, Prod.mk.injEq] at he
      obtain ⟨rfl, rfl⟩ := he
      refine ⟨⟨_, rfl⟩, fun hq => ?_⟩
      have := f10_ok hx.choose pre mark after most hq.1 hq.2.1 hq.2.2
      simpa only [hx.choose_spec] using this
    · simp at he
  · simp at he

theorem e10_ap (b : BucL) (pre mark after : ByteArray) (most : Int) : e10 [.d (dBuc b), .d (.raw (.string pre)), .d (.raw (.string mark)), .d (.raw (.string after)), .d (.raw (.int .i64 most))] = some (okBuc b ∧ pre.size ≤ 1048576 ∧ mark.size ≤ 1048576, fun r => r = keysR b pre mark after most) := by
  unfold e10
  have h : ∃ p : BucL, dBuc p = dBuc b := ⟨b, rfl⟩
  simp only [dif_pos h]
  have hc := h.choose_spec
  rw [dBuc_inj hc]

noncomputable def e11 : Ent
  | [.d x, .d (.raw (.string pre)), .d (.raw (.string mark)), .d (.raw (.string after)), .d (.raw (.int .i64 most))] => open Classical in if h : ∃ p : BucL, dBuc p = x then some (okBuc h.choose ∧ goodB h.choose ∧ mark.size ≤ 1048576, fun r => r = pagedR (rkeys pre mark after (h.choose ).objs []) most) else none
  | _ => none
theorem e11_ok : EntOk Try.prog 11 e11 := by
  intro args q post he
  unfold e11 at he
  split at he
  · split at he
    · rename_i x pre mark after most hx
      simp only [Option.some.injEq, Prod.mk.injEq] at he
      obtain ⟨rfl, rfl⟩ := he
      refine ⟨⟨_, rfl⟩, fun hq => ?_⟩
      have := f11_ok hx.choose pre mark after most hq.1 (fun k hk => (hq.2.1 k hk).1.2.1) hq.2.2
      simpa only [hx.choose_spec] using this
    · simp at he
  · simp at he

theorem e11_ap (b : BucL) (pre mark after : ByteArray) (most : Int) : e11 [.d (dBuc b), .d (.raw (.string pre)), .d (.raw (.string mark)), .d (.raw (.string after)), .d (.raw (.int .i64 most))] = some (okBuc b ∧ goodB b ∧ mark.size ≤ 1048576, fun r => r = pagedR (rkeys pre mark after (b ).objs []) most) := by
  unfold e11
  have h : ∃ p : BucL, dBuc p = dBuc b := ⟨b, rfl⟩
  simp only [dif_pos h]
  have hc := h.choose_spec
  rw [dBuc_inj hc]

noncomputable def e13 : Ent
  | [.d x, .d (.raw (.string pre)), .d y, .d (.raw (.int .i64 most))] => open Classical in if h : ∃ p : BucL × SpotL, dBuc p.1 = x ∧ dSpot p.2 = y then some (okBuc h.choose.1, fun r => r = rowsR (versB (skO pre h.choose.2) (skV h.choose.2) most h.choose.1.objs []) most) else none
  | _ => none
theorem e13_ok : EntOk Try.prog 13 e13 := by
  intro args q post he
  unfold e13 at he
  split at he
  · split at he
    · rename_i x pre y most hx
      simp only [Option.some.injEq, Prod.mk.injEq] at he
      obtain ⟨rfl, rfl⟩ := he
      refine ⟨⟨_, rfl⟩, fun hq => ?_⟩
      have := f13_ok hx.choose.1 pre hx.choose.2 most hq
      simpa only [hx.choose_spec] using this
    · simp at he
  · simp at he

theorem e13_ap (b : BucL) (pre : ByteArray) (frm : SpotL) (most : Int) : e13 [.d (dBuc b), .d (.raw (.string pre)), .d (dSpot frm), .d (.raw (.int .i64 most))] = some (okBuc b, fun r => r = rowsR (versB (skO pre frm) (skV frm) most b.objs []) most) := by
  unfold e13
  have h : ∃ p : BucL × SpotL, dBuc p.1 = dBuc b ∧ dSpot p.2 = dSpot frm := ⟨(b, frm), rfl, rfl⟩
  simp only [dif_pos h]
  have hc := h.choose_spec
  rw [dBuc_inj hc.1, dSpot_inj hc.2]

noncomputable def e14 : Ent
  | [.d x, .d (.raw (.string pre)), .d y, .d (.raw (.int .i64 most))] => open Classical in if h : ∃ p : BucL × SpotL, dBuc p.1 = x ∧ dSpot p.2 = y then some (okBuc h.choose.1 ∧ goodB h.choose.1, fun r => r = pagedR (rvers pre h.choose.2 h.choose.1.objs []) most) else none
  | _ => none
theorem e14_ok : EntOk Try.prog 14 e14 := by
  intro args q post he
  unfold e14 at he
  split at he
  · split at he
    · rename_i x pre y most hx
      simp only [Option.some.injEq, Prod.mk.injEq] at he
      obtain ⟨rfl, rfl⟩ := he
      refine ⟨⟨_, rfl⟩, fun hq => ?_⟩
      have := f14_ok hx.choose.1 pre hx.choose.2 most hq.1 (fun k hk => (hq.2 k hk).2.2)
      simpa only [hx.choose_spec] using this
    · simp at he
  · simp at he

theorem e14_ap (b : BucL) (pre : ByteArray) (frm : SpotL) (most : Int) : e14 [.d (dBuc b), .d (.raw (.string pre)), .d (dSpot frm), .d (.raw (.int .i64 most))] = some (okBuc b ∧ goodB b, fun r => r = pagedR (rvers pre frm b.objs []) most) := by
  unfold e14
  have h : ∃ p : BucL × SpotL, dBuc p.1 = dBuc b ∧ dSpot p.2 = dSpot frm := ⟨(b, frm), rfl, rfl⟩
  simp only [dif_pos h]
  have hc := h.choose_spec
  rw [dBuc_inj hc.1, dSpot_inj hc.2]

noncomputable def e12 : Ent := ent1 (fun p : List RowL × List RowL => [.d (dRows p.1), .d (dRows p.2)]) (fun p => okL okRow p.1 ∧ okL okRow p.2) (fun p => IfB (p.1 = p.2))
theorem e1012_ap (p : List RowL × List RowL) : e12 [.d (dRows p.1), .d (dRows p.2)] = some (okL okRow p.1 ∧ okL okRow p.2, IfB (p.1 = p.2)) := ent1_ap (f := fun p : List RowL × List RowL => [.d (dRows p.1), .d (dRows p.2)]) (fun x y h => by simp only [List.cons.injEq, AV.d.injEq, D.sl.injEq, true_and, and_true] at h; exact Prod.ext (map_inj dRow_inj h.1) (map_inj dRow_inj h.2)) p
theorem e12_ok : EntOk Try.prog 12 e12 := ent1_ok (fun p => if_ex _) fun p h => f12_ok p.1 p.2 h.1 h.2

theorem e12_ap (x : List RowL) (y : List RowL) : e12 [.d (dRows x), .d (dRows y)] = some (okL okRow x ∧ okL okRow y, IfB (x = y)) := e1012_ap (x, y)
end Go.Proofs.Ytolplbfonlhbhaa
