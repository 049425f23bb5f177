/- Contracts, eleventh part: groups of the program, pages, whether rows are the same, the first bucket. -/
import Derived.Test.YtolplbfonlhbhaaC10
import Derived.Test.YtolplbfonlhbhaaEngS
import Derived.Test.YtolplbfonlhbhaaShelf
import Derived.Stop.BytesEq
set_option maxRecDepth 20000
set_option maxHeartbeats 4000000
set_option linter.unusedVariables false
set_option linter.unusedSectionVars false
set_option linter.unusedSimpArgs false
namespace Go.Proofs.Ytolplbfonlhbhaa
open Go Go.Eng
variable [Globs]
/-- the library's MaxLen holds some number -/
class G23 [Globs] : Prop where
  maxlen : ∃ m, Globs.dat 0 = some (.raw (.int .i64 m))
variable [G23]
def cutS (s sep : ByteArray) : ByteArray × ByteArray × Bool := (⟨(Lib.cut s.data.toList sep.data.toList).1.toArray⟩, ⟨(Lib.cut s.data.toList sep.data.toList).2.1.toArray⟩, (Lib.cut s.data.toList sep.data.toList).2.2)
theorem cutS_size (s sep : ByteArray) : (cutS s sep).1.size ≤ s.size := by
  have : (Lib.cut s.data.toList sep.data.toList).1.length ≤ s.data.toList.length := by
    unfold Lib.cut
    split
    · simp only [List.length_take]; omega
    · exact Nat.le_refl _
  show (Lib.cut s.data.toList sep.data.toList).1.toArray.size ≤ s.data.size
  simpa using this
theorem f40_ok (s sep : ByteArray) (hs : s.size ≤ 1048576) : PureOk Try.prog 40 [S s, S sep] fun r => r = .tup [S (cutS s sep).1, S (cutS s sep).2.1, B (cutS s sep).2.2] := by
  refine PureOk_of_calls (fn := Try.f40) Try.func40 (by kernel_rfl) (by kernel_rfl) (⟨trivial, trivial, trivial⟩) (⟨trivial, trivial, trivial, trivial⟩) (vs0 := #[.string s, .string sep]) (v0 := .tuple #[.string (cutS s sep).1, .string (cutS s sep).2.1, .bool (cutS s sep).2.2]) (fun Z w vs h => ?_) (fun Z w => ?_) (fun w Z hE => ?_)
  · simp only [RepVs, rep_raw] at h
    obtain ⟨v, l, e, ⟨rfl, _⟩, v2, l2, rfl, ⟨rfl, _⟩, rfl⟩ := h
    exact Array.ext' e
  · simp only [RepV, RepVs]
    exact ⟨_, rfl, _, _, rfl, rep_raw.2 ⟨rfl, rfl⟩, _, _, rfl, rep_raw.2 ⟨rfl, rfl⟩, _, _, rfl, rep_raw.2 ⟨rfl, rfl⟩, rfl⟩
  · obtain ⟨m, hm⟩ := G23.maxlen
    exact Try.strings_Cut s sep m w (by omega) (glob_cell hE hm)
def e40 : Ent
  | [.d (.raw (.string a)), .d (.raw (.string b))] => some (a.size ≤ 1048576, fun r => r = .tup [S (cutS a b).1, S (cutS a b).2.1, B (cutS a b).2.2])
  | _ => none
theorem e40_ok : EntOk Try.prog 40 e40 := by
  intro args q post h
  unfold e40 at h
  split at h
  · simp only [Option.some.injEq, Prod.mk.injEq] at h
    obtain ⟨rfl, rfl⟩ := h
    exact ⟨⟨_, rfl⟩, fun h => f40_ok _ _ h⟩
  · simp at h
def progGroup (key pre mark : ByteArray) : ByteArray × Bool :=
  if (!(cutPre key pre).2 || strEq mark nil0) = true then (nil0, false)
  else if (cutS (cutPre key pre).1 mark).2.2 = true then (pre ++ (cutS (cutPre key pre).1 mark).1 ++ mark, true) else (nil0, false)
theorem cutPre_size (a b : ByteArray) : (cutPre a b).1.size ≤ a.size := by
  unfold cutPre; split
  · simp only [ByteArray.size_extract]; omega
  · exact Nat.le_refl _
theorem e39_ok : EntOk Try.prog 39 eCutPre := eCutPre_ok f39_ok

-- label.Group
theorem f21_ok (key pre mark : ByteArray) (hk : key.size ≤ 1048576) (hp : pre.size ≤ 1048576) (hm : mark.size ≤ 1048576) : PureOk Try.prog 21 [S key, S pre, S mark] fun r => r = .tup [S (progGroup key pre mark).1, B (progGroup key pre mark).2] := by
  refine PureOk_of (fn := Try.f21) (rs := [.tmp 6, .tmp 7]) (n := 39) (hf := Try.func21) (hn := by kernel_rfl) (hb := rfl) (hr := rfl) (hN := rfl) (hargs := by simp) (ha := by simp [AV.bels, AV.bel]) (hrb := by rintro _ rfl; simp [AV.bel, AV.bels]) (h := fun Z0 w0 => ?_)
  simp only [enumA, Nat.zero_add]
  have hz1 := cutPre_size key pre
  have hz2 := cutS_size (cutPre key pre).1 mark
  refine Wps_seq ?_
  refine Wps_reg (T := [(39, eCutPre), (40, e40)]) ⟨e39_ok, e40_ok, trivial⟩ [0, 1, 2] rfl (by simp) fun K hK => ?_
  repeat
    (first | refine X0 rfl fun K1 hK1 => ?_ | refine X1 rfl rfl fun K1 hK1 => ?_)
    simp only [↓EP, EQ, implies_true, forall_const, tys, zoks, zeros, Nat.reduceEqDiff, Nat.reduceAdd, Nat.reduceLT, Nat.reduceLeDiff, reduceIte, reduceCtorEq, eCutPre, e40, ByteArray.size_append]
    try simp (disch := omega) only [wrap64, wrapU64]
    repeat (first | refine And.intro cl ?_ | intro e)
    refine hK1 _ ?_
    clear hK1 K1
  refine XE ?_
  refine hK _ _ (by simp only [St.keep, keepL, at_cons, at_nil, Nat.reduceEqDiff, reduceIte, eq_self]; rfl) ?_
  clear hK K
  refine Wps_seq ?_
  refine Wps_reg (T := [(39, eCutPre), (40, e40)]) ⟨e39_ok, e40_ok, trivial⟩ [1, 2, 8, 9] rfl (by simp) fun K hK => ?_
  repeat
    (first | refine X0 rfl fun K1 hK1 => ?_ | refine X1 rfl rfl fun K1 hK1 => ?_)
    simp only [↓EP, EQ, implies_true, forall_const, tys, zoks, zeros, Nat.reduceEqDiff, Nat.reduceAdd, Nat.reduceLT, Nat.reduceLeDiff, reduceIte, reduceCtorEq, eCutPre, e40, ByteArray.size_append]
    try simp (disch := omega) only [wrap64, wrapU64]
    repeat (first | refine And.intro cl ?_ | intro e)
    refine hK1 _ ?_
    clear hK1 K1
  refine XE ?_
  refine hK _ _ (by simp only [St.keep, keepL, at_cons, at_nil, Nat.reduceEqDiff, reduceIte, eq_self]; rfl) ?_
  clear hK K
  refine Wps_seq ?_
  refine Wps_seq ?_
  refine Wps_reg (T := [(39, eCutPre), (40, e40)]) ⟨e39_ok, e40_ok, trivial⟩ [1, 2, 8, 24] rfl (by simp) fun K hK => ?_
  repeat
    (first | refine X0 rfl fun K1 hK1 => ?_ | refine X1 rfl rfl fun K1 hK1 => ?_)
    simp only [↓EP, EQ, implies_true, forall_const, tys, zoks, zeros, Nat.reduceEqDiff, Nat.reduceAdd, Nat.reduceLT, Nat.reduceLeDiff, reduceIte, reduceCtorEq, eCutPre, e40, ByteArray.size_append]
    try simp (disch := omega) only [wrap64, wrapU64]
    repeat (first | refine And.intro cl ?_ | intro e)
    refine hK1 _ ?_
    clear hK1 K1
  refine XE ?_
  refine hK _ _ (by simp only [St.keep, keepL, at_cons, at_nil, Nat.reduceEqDiff, reduceIte, eq_self]; rfl) ?_
  clear hK K
  refine Wps_cond rfl (fun hc1 => ?_) (fun hc1 => ?_)
  · try simp only [decide_eq_true_eq, decide_eq_false_iff_not, Bool.not_eq_true', Bool.not_eq_false', Int.not_lt, Int.not_le, ge_iff_le, gt_iff_lt] at hc1
    refine Wps_seq ?_
    refine Wps_reg (T := [(39, eCutPre), (40, e40)]) ⟨e39_ok, e40_ok, trivial⟩ [6, 7] rfl (by simp) fun K hK => ?_
    repeat
      (first | refine X0 rfl fun K1 hK1 => ?_ | refine X1 rfl rfl fun K1 hK1 => ?_)
      simp only [↓EP, EQ, implies_true, forall_const, tys, zoks, zeros, Nat.reduceEqDiff, Nat.reduceAdd, Nat.reduceLT, Nat.reduceLeDiff, reduceIte, reduceCtorEq, eCutPre, e40, ByteArray.size_append]
      try simp (disch := omega) only [wrap64, wrapU64]
      repeat (first | refine And.intro cl ?_ | intro e)
      refine hK1 _ ?_
      clear hK1 K1
    refine XE ?_
    refine hK _ _ (by simp only [St.keep, keepL, at_cons, at_nil, Nat.reduceEqDiff, reduceIte, eq_self]; rfl) ?_
    clear hK K
    refine Wps_ret ?_
    try simp only [Wps_nil, thenQ_normal, thenQ_exit, thenQ_ret, blkQ_normal, blkQ_ret, blkQ_if, blkQ_same, scQ_normal, scQ_ret, scQ_exit, Nat.reduceEqDiff, reduceIte, eq_self, reduceCtorEq, if_true, if_false]
    first | refine ret_pureQ rfl ?_ | refine ret_pureN rfl ?_
    simp only [retP, at_cons, at_nil, Nat.reduceEqDiff, reduceIte, eq_self, AV.use, retV, AV.bel, AV.bels, true_and, and_true]
    simp [progGroup, hc1]
  · try simp only [decide_eq_true_eq, decide_eq_false_iff_not, Bool.not_eq_true', Bool.not_eq_false', Int.not_lt, Int.not_le, ge_iff_le, gt_iff_lt] at hc1
    refine Wps_skip ?_
    refine Wps_seq ?_
    refine Wps_reg (T := [(39, eCutPre), (40, e40)]) ⟨e39_ok, e40_ok, trivial⟩ [1, 2, 10, 12] rfl (by simp) fun K hK => ?_
    repeat
      (first | refine X0 rfl fun K1 hK1 => ?_ | refine X1 rfl rfl fun K1 hK1 => ?_)
      simp only [↓EP, EQ, implies_true, forall_const, tys, zoks, zeros, Nat.reduceEqDiff, Nat.reduceAdd, Nat.reduceLT, Nat.reduceLeDiff, reduceIte, reduceCtorEq, eCutPre, e40, ByteArray.size_append]
      try simp (disch := omega) only [wrap64, wrapU64]
      repeat (first | refine And.intro cl ?_ | intro e)
      refine hK1 _ ?_
      clear hK1 K1
    refine XE ?_
    refine hK _ _ (by simp only [St.keep, keepL, at_cons, at_nil, Nat.reduceEqDiff, reduceIte, eq_self]; rfl) ?_
    clear hK K
    refine Wps_seq ?_
    refine Wps_seq ?_
    refine Wps_reg (T := [(39, eCutPre), (40, e40)]) ⟨e39_ok, e40_ok, trivial⟩ [1, 2, 10, 33] rfl (by simp) fun K hK => ?_
    repeat
      (first | refine X0 rfl fun K1 hK1 => ?_ | refine X1 rfl rfl fun K1 hK1 => ?_)
      simp only [↓EP, EQ, implies_true, forall_const, tys, zoks, zeros, Nat.reduceEqDiff, Nat.reduceAdd, Nat.reduceLT, Nat.reduceLeDiff, reduceIte, reduceCtorEq, eCutPre, e40, ByteArray.size_append]
      try simp (disch := omega) only [wrap64, wrapU64]
      repeat (first | refine And.intro cl ?_ | intro e)
      refine hK1 _ ?_
      clear hK1 K1
    refine XE ?_
    refine hK _ _ (by simp only [St.keep, keepL, at_cons, at_nil, Nat.reduceEqDiff, reduceIte, eq_self]; rfl) ?_
    clear hK K
    refine Wps_cond rfl (fun hc2 => ?_) (fun hc2 => ?_)
    · try simp only [decide_eq_true_eq, decide_eq_false_iff_not, Bool.not_eq_true', Bool.not_eq_false', Int.not_lt, Int.not_le, ge_iff_le, gt_iff_lt] at hc2
      refine Wps_seq ?_
      refine Wps_reg (T := [(39, eCutPre), (40, e40)]) ⟨e39_ok, e40_ok, trivial⟩ [6, 7] rfl (by simp) fun K hK => ?_
      repeat
        (first | refine X0 rfl fun K1 hK1 => ?_ | refine X1 rfl rfl fun K1 hK1 => ?_)
        simp only [↓EP, EQ, implies_true, forall_const, tys, zoks, zeros, Nat.reduceEqDiff, Nat.reduceAdd, Nat.reduceLT, Nat.reduceLeDiff, reduceIte, reduceCtorEq, eCutPre, e40, ByteArray.size_append]
        try simp (disch := omega) only [wrap64, wrapU64]
        repeat (first | refine And.intro cl ?_ | intro e)
        refine hK1 _ ?_
        clear hK1 K1
      refine XE ?_
      refine hK _ _ (by simp only [St.keep, keepL, at_cons, at_nil, Nat.reduceEqDiff, reduceIte, eq_self]; rfl) ?_
      clear hK K
      refine Wps_ret ?_
      try simp only [Wps_nil, thenQ_normal, thenQ_exit, thenQ_ret, blkQ_normal, blkQ_ret, blkQ_if, blkQ_same, scQ_normal, scQ_ret, scQ_exit, Nat.reduceEqDiff, reduceIte, eq_self, reduceCtorEq, if_true, if_false]
      first | refine ret_pureQ rfl ?_ | refine ret_pureN rfl ?_
      simp only [retP, at_cons, at_nil, Nat.reduceEqDiff, reduceIte, eq_self, AV.use, retV, AV.bel, AV.bels, true_and, and_true]
      simp [progGroup, hc1, hc2]
    · try simp only [decide_eq_true_eq, decide_eq_false_iff_not, Bool.not_eq_true', Bool.not_eq_false', Int.not_lt, Int.not_le, ge_iff_le, gt_iff_lt] at hc2
      refine Wps_skip ?_
      refine Wps_seq ?_
      refine Wps_reg (T := [(39, eCutPre), (40, e40)]) ⟨e39_ok, e40_ok, trivial⟩ [6, 7] rfl (by simp) fun K hK => ?_
      repeat
        (first | refine X0 rfl fun K1 hK1 => ?_ | refine X1 rfl rfl fun K1 hK1 => ?_)
        simp only [↓EP, EQ, implies_true, forall_const, tys, zoks, zeros, Nat.reduceEqDiff, Nat.reduceAdd, Nat.reduceLT, Nat.reduceLeDiff, reduceIte, reduceCtorEq, eCutPre, e40, ByteArray.size_append]
        try simp (disch := omega) only [wrap64, wrapU64]
        repeat (first | refine And.intro cl ?_ | intro e)
        refine hK1 _ ?_
        clear hK1 K1
      refine XE ?_
      refine hK _ _ (by simp only [St.keep, keepL, at_cons, at_nil, Nat.reduceEqDiff, reduceIte, eq_self]; rfl) ?_
      clear hK K
      refine Wps_ret ?_
      try simp only [Wps_nil, thenQ_normal, thenQ_exit, thenQ_ret, blkQ_normal, blkQ_ret, blkQ_if, blkQ_same, scQ_normal, scQ_ret, scQ_exit, Nat.reduceEqDiff, reduceIte, eq_self, reduceCtorEq, if_true, if_false]
      first | refine ret_pureQ rfl ?_ | refine ret_pureN rfl ?_
      simp only [retP, at_cons, at_nil, Nat.reduceEqDiff, reduceIte, eq_self, AV.use, retV, AV.bel, AV.bels, true_and, and_true]
      simp [progGroup, hc1, hc2]

theorem all_exT {α : Type} {f : α → AV} {φ : α → Prop} {K : AV → Prop} : (∀ r, (∃ e, r = f e ∧ φ e) → K r) ↔ ∀ e, φ e → K (f e) :=
  ⟨fun h e he => h _ ⟨e, rfl, he⟩, fun h r ⟨e, hr, he⟩ => hr ▸ h e he⟩
theorem strEq_refl (a : ByteArray) : strEq a a = true := by simp [strEq]
/-- a bool that is true where p is -/
abbrev IfB (p : Prop) (r : AV) : Prop := ∃ b : Bool, r = .d (.raw (.bool b)) ∧ (p → b = true)
theorem if_bel {p : Prop} : ∀ r, IfB p r → r.bel 0 := by rintro _ ⟨b, rfl, _⟩; simp [AV.bel]
theorem if_ex (p : Prop) : ∃ r, IfB p r := ⟨_, true, rfl, by simp⟩

-- chartularyref23.page
theorem f25_ok (l : List RowL) (most : Int) (hl : l.length ≤ 1073741824) (hm : 0 ≤ most) : PureOk Try.prog 25 [.d (dRows l), I most] fun r => r = .tup [.d (dRows (if (l.length : Int) > most then l.take most.toNat else l)), B (decide ((l.length : Int) > most))] := by
  refine PureOk_of (fn := Try.f25) (rs := [.tmp 4, .tmp 5]) (n := 14) (hf := Try.func25) (hn := by kernel_rfl) (hb := rfl) (hr := rfl) (hN := rfl) (hargs := by simp) (ha := by simp [AV.bels, AV.bel]) (hrb := by rintro _ rfl; simp [AV.bel, AV.bels]) (h := fun Z0 w0 => ?_)
  simp only [enumA, Nat.zero_add]
  refine Wps_seq ?_
  refine Wps_reg (T := []) trivial [0, 1] rfl (by simp) fun K hK => ?_
  repeat
    (first | refine X0 rfl fun K1 hK1 => ?_ | refine X1 rfl rfl fun K1 hK1 => ?_)
    simp only [↓EP, EQ, implies_true, forall_const, tys, zoks, zeros, Nat.reduceEqDiff, Nat.reduceAdd, Nat.reduceLT, Nat.reduceLeDiff, reduceIte, reduceCtorEq, List.length_map, List.drop_zero]
    try simp (disch := omega) only [wrap64, wrapU64]
    repeat (first | refine And.intro cl ?_ | intro e)
    refine hK1 _ ?_
    clear hK1 K1
  refine XE ?_
  refine hK _ _ (by simp only [St.keep, keepL, at_cons, at_nil, Nat.reduceEqDiff, reduceIte, eq_self]; rfl) ?_
  clear hK K
  refine Wps_seq ?_
  refine Wps_seq ?_
  refine Wps_reg (T := []) trivial [0, 1, 9] rfl (by simp) fun K hK => ?_
  repeat
    (first | refine X0 rfl fun K1 hK1 => ?_ | refine X1 rfl rfl fun K1 hK1 => ?_)
    simp only [↓EP, EQ, implies_true, forall_const, tys, zoks, zeros, Nat.reduceEqDiff, Nat.reduceAdd, Nat.reduceLT, Nat.reduceLeDiff, reduceIte, reduceCtorEq, List.length_map, List.drop_zero]
    try simp (disch := omega) only [wrap64, wrapU64]
    repeat (first | refine And.intro cl ?_ | intro e)
    refine hK1 _ ?_
    clear hK1 K1
  refine XE ?_
  refine hK _ _ (by simp only [St.keep, keepL, at_cons, at_nil, Nat.reduceEqDiff, reduceIte, eq_self]; rfl) ?_
  clear hK K
  refine Wps_cond rfl (fun hc1 => ?_) (fun hc1 => ?_)
  · try simp only [decide_eq_true_eq, decide_eq_false_iff_not, Bool.not_eq_true', Bool.not_eq_false', Int.not_lt, Int.not_le, ge_iff_le, gt_iff_lt, Bool.or_eq_false_iff, Bool.or_eq_true, Bool.and_eq_true, Bool.and_eq_false_imp, beq_iff_eq, beq_eq_false_iff_ne, ne_eq, bne_iff_ne, bne_eq_false_iff_eq] at hc1
    refine Wps_seq ?_
    refine Wps_reg (T := []) trivial [4, 5] rfl (by simp) fun K hK => ?_
    repeat
      (first | refine X0 rfl fun K1 hK1 => ?_ | refine X1 rfl rfl fun K1 hK1 => ?_)
      simp only [↓EP, EQ, implies_true, forall_const, tys, zoks, zeros, Nat.reduceEqDiff, Nat.reduceAdd, Nat.reduceLT, Nat.reduceLeDiff, reduceIte, reduceCtorEq, List.length_map, List.drop_zero]
      try simp (disch := omega) only [wrap64, wrapU64]
      repeat (first | refine And.intro cl ?_ | intro e)
      refine hK1 _ ?_
      clear hK1 K1
    refine XE ?_
    refine hK _ _ (by simp only [St.keep, keepL, at_cons, at_nil, Nat.reduceEqDiff, reduceIte, eq_self]; rfl) ?_
    clear hK K
    refine Wps_ret ?_
    try simp only [Wps_nil, thenQ_normal, thenQ_exit, thenQ_ret, blkQ_normal, blkQ_ret, blkQ_if, blkQ_same, scQ_normal, scQ_ret, scQ_exit, Nat.reduceEqDiff, reduceIte, eq_self, reduceCtorEq, if_true, if_false]
    first | refine ret_pureQ rfl ?_ | refine ret_pureN rfl ?_
    simp only [retP, at_cons, at_nil, Nat.reduceEqDiff, reduceIte, eq_self, AV.use, retV, AV.bel, AV.bels, true_and, and_true]
    have h1 : (l.length : Int) > most := by omega
    rw [if_pos h1, decide_eq_true h1]
    simp [dRows]
  · try simp only [decide_eq_true_eq, decide_eq_false_iff_not, Bool.not_eq_true', Bool.not_eq_false', Int.not_lt, Int.not_le, ge_iff_le, gt_iff_lt, Bool.or_eq_false_iff, Bool.or_eq_true, Bool.and_eq_true, Bool.and_eq_false_imp, beq_iff_eq, beq_eq_false_iff_ne, ne_eq, bne_iff_ne, bne_eq_false_iff_eq] at hc1
    refine Wps_skip ?_
    refine Wps_seq ?_
    refine Wps_reg (T := []) trivial [4, 5] rfl (by simp) fun K hK => ?_
    repeat
      (first | refine X0 rfl fun K1 hK1 => ?_ | refine X1 rfl rfl fun K1 hK1 => ?_)
      simp only [↓EP, EQ, implies_true, forall_const, tys, zoks, zeros, Nat.reduceEqDiff, Nat.reduceAdd, Nat.reduceLT, Nat.reduceLeDiff, reduceIte, reduceCtorEq, List.length_map, List.drop_zero]
      try simp (disch := omega) only [wrap64, wrapU64]
      repeat (first | refine And.intro cl ?_ | intro e)
      refine hK1 _ ?_
      clear hK1 K1
    refine XE ?_
    refine hK _ _ (by simp only [St.keep, keepL, at_cons, at_nil, Nat.reduceEqDiff, reduceIte, eq_self]; rfl) ?_
    clear hK K
    refine Wps_ret ?_
    try simp only [Wps_nil, thenQ_normal, thenQ_exit, thenQ_ret, blkQ_normal, blkQ_ret, blkQ_if, blkQ_same, scQ_normal, scQ_ret, scQ_exit, Nat.reduceEqDiff, reduceIte, eq_self, reduceCtorEq, if_true, if_false]
    first | refine ret_pureQ rfl ?_ | refine ret_pureN rfl ?_
    simp only [retP, at_cons, at_nil, Nat.reduceEqDiff, reduceIte, eq_self, AV.use, retV, AV.bel, AV.bels, true_and, and_true]
    have h1 : ¬ (l.length : Int) > most := by omega
    rw [if_neg h1, decide_eq_false h1]

-- chartularyref08.Same
theorem f41_ok (a b : List TagL) (ha : a.length ≤ 1048576) (hb : b.length ≤ 1048576) : PureOk Try.prog 41 [.d (dTags a), .d (dTags b)] (IfB (a = b)) := by
  refine PureOk_of (fn := Try.f41) (rs := [.tmp 4]) (n := 41) (hf := Try.func41) (hn := by kernel_rfl) (hb := rfl) (hr := rfl) (hN := rfl) (hargs := by simp) (ha := by simp [AV.bels, AV.bel]) (hrb := by exact if_bel) (h := fun Z0 w0 => ?_)
  simp only [enumA, Nat.zero_add]
  refine Wps_seq ?_
  refine Wps_reg (T := []) trivial [0, 1] rfl (by simp) fun K hK => ?_
  repeat
    (first | refine X0 rfl fun K1 hK1 => ?_ | refine X1 rfl rfl fun K1 hK1 => ?_)
    simp only [↓EP, EQ, implies_true, forall_const, tys, zoks, zeros, Nat.reduceEqDiff, Nat.reduceAdd, Nat.reduceLT, Nat.reduceLeDiff, reduceIte, reduceCtorEq, List.length_map]
    try simp (disch := omega) only [wrap64, wrapU64]
    repeat (first | refine And.intro cl ?_ | intro e)
    refine hK1 _ ?_
    clear hK1 K1
  refine XE ?_
  refine hK _ _ (by simp only [St.keep, keepL, at_cons, at_nil, Nat.reduceEqDiff, reduceIte, eq_self]; rfl) ?_
  clear hK K
  refine Wps_seq ?_
  refine Wps_seq ?_
  refine Wps_reg (T := []) trivial [0, 1, 10] rfl (by simp) fun K hK => ?_
  repeat
    (first | refine X0 rfl fun K1 hK1 => ?_ | refine X1 rfl rfl fun K1 hK1 => ?_)
    simp only [↓EP, EQ, implies_true, forall_const, tys, zoks, zeros, Nat.reduceEqDiff, Nat.reduceAdd, Nat.reduceLT, Nat.reduceLeDiff, reduceIte, reduceCtorEq, List.length_map]
    try simp (disch := omega) only [wrap64, wrapU64]
    repeat (first | refine And.intro cl ?_ | intro e)
    refine hK1 _ ?_
    clear hK1 K1
  refine XE ?_
  refine hK _ _ (by simp only [St.keep, keepL, at_cons, at_nil, Nat.reduceEqDiff, reduceIte, eq_self]; rfl) ?_
  clear hK K
  refine Wps_cond rfl (fun hc1 => ?_) (fun hc1 => ?_)
  · try simp only [decide_eq_true_eq, decide_eq_false_iff_not, Bool.not_eq_true', Bool.not_eq_false', Int.not_lt, Int.not_le, ge_iff_le, gt_iff_lt, Bool.or_eq_false_iff, Bool.or_eq_true, Bool.and_eq_true, Bool.and_eq_false_imp, beq_iff_eq, beq_eq_false_iff_ne, ne_eq, bne_iff_ne, bne_eq_false_iff_eq] at hc1
    refine Wps_seq ?_
    refine Wps_reg (T := []) trivial [4] rfl (by simp) fun K hK => ?_
    repeat
      (first | refine X0 rfl fun K1 hK1 => ?_ | refine X1 rfl rfl fun K1 hK1 => ?_)
      simp only [↓EP, EQ, implies_true, forall_const, tys, zoks, zeros, Nat.reduceEqDiff, Nat.reduceAdd, Nat.reduceLT, Nat.reduceLeDiff, reduceIte, reduceCtorEq, List.length_map]
      try simp (disch := omega) only [wrap64, wrapU64]
      repeat (first | refine And.intro cl ?_ | intro e)
      refine hK1 _ ?_
      clear hK1 K1
    refine XE ?_
    refine hK _ _ (by simp only [St.keep, keepL, at_cons, at_nil, Nat.reduceEqDiff, reduceIte, eq_self]; rfl) ?_
    clear hK K
    refine Wps_ret ?_
    try simp only [Wps_nil, thenQ_normal, thenQ_exit, thenQ_ret, blkQ_normal, blkQ_ret, blkQ_if, blkQ_same, scQ_normal, scQ_ret, scQ_exit, Nat.reduceEqDiff, reduceIte, eq_self, reduceCtorEq, if_true, if_false]
    first | refine ret_pureQ rfl ?_ | refine ret_pureN rfl ?_
    simp only [retP, at_cons, at_nil, Nat.reduceEqDiff, reduceIte, eq_self, AV.use, retV, AV.bel, AV.bels, true_and, and_true]
    refine ⟨_, rfl, fun h => ?_⟩
    subst h
    simp at hc1
  · try simp only [decide_eq_true_eq, decide_eq_false_iff_not, Bool.not_eq_true', Bool.not_eq_false', Int.not_lt, Int.not_le, ge_iff_le, gt_iff_lt, Bool.or_eq_false_iff, Bool.or_eq_true, Bool.and_eq_true, Bool.and_eq_false_imp, beq_iff_eq, beq_eq_false_iff_ne, ne_eq, bne_iff_ne, bne_eq_false_iff_eq] at hc1
    refine Wps_skip ?_
    refine Wps_seq ?_
    refine Wps_seq ?_
    refine Wps_reg (T := []) trivial [0, 1, 5] rfl (by simp) fun K hK => ?_
    repeat
      (first | refine X0 rfl fun K1 hK1 => ?_ | refine X1 rfl rfl fun K1 hK1 => ?_)
      simp only [↓EP, EQ, implies_true, forall_const, tys, zoks, zeros, Nat.reduceEqDiff, Nat.reduceAdd, Nat.reduceLT, Nat.reduceLeDiff, reduceIte, reduceCtorEq, List.length_map]
      try simp (disch := omega) only [wrap64, wrapU64]
      repeat (first | refine And.intro cl ?_ | intro e)
      refine hK1 _ ?_
      clear hK1 K1
    refine XE ?_
    refine hK _ _ (by simp only [St.keep, keepL, at_cons, at_nil, Nat.reduceEqDiff, reduceIte, eq_self]; rfl) ?_
    clear hK K
    refine Wps_block ?_
    -- live at the head: [0, 1, 5]
    refine Wps_loop (fun n_ st_ => ∃ (i : Nat), n_ = a.length - i ∧ (i ≤ a.length) ∧ st_ = ⟨[(0, _), (1, _), (5, I i)], _⟩) _ ⟨0, rfl, (by simp), rfl⟩ (Wk.refl _) fun n_ st_ hI => ?_
    obtain ⟨i, rfl, hi0, rfl⟩ := hI
    refine Wps_seq ?_
    refine Wps_seq ?_
    refine Wps_reg (T := []) trivial [0, 1, 5, 14] rfl (by simp) fun K hK => ?_
    repeat
      (first | refine X0 rfl fun K1 hK1 => ?_ | refine X1 rfl rfl fun K1 hK1 => ?_)
      simp only [↓EP, EQ, implies_true, forall_const, tys, zoks, zeros, Nat.reduceEqDiff, Nat.reduceAdd, Nat.reduceLT, Nat.reduceLeDiff, reduceIte, reduceCtorEq, List.length_map]
      try simp (disch := omega) only [wrap64, wrapU64]
      repeat (first | refine And.intro cl ?_ | intro e)
      refine hK1 _ ?_
      clear hK1 K1
    refine XE ?_
    refine hK _ _ (by simp only [St.keep, keepL, at_cons, at_nil, Nat.reduceEqDiff, reduceIte, eq_self]; rfl) ?_
    clear hK K
    refine Wps_cond rfl (fun hc2 => ?_) (fun hc2 => ?_)
    · try simp only [decide_eq_true_eq, decide_eq_false_iff_not, Bool.not_eq_true', Bool.not_eq_false', Int.not_lt, Int.not_le, ge_iff_le, gt_iff_lt, Bool.or_eq_false_iff, Bool.or_eq_true, Bool.and_eq_true, Bool.and_eq_false_imp, beq_iff_eq, beq_eq_false_iff_ne, ne_eq, bne_iff_ne, bne_eq_false_iff_eq] at hc2
      refine Wps_skip ?_
      refine Wps_seq ?_
      refine Wps_block ?_
      refine Wps_seq ?_
      have hi : i < a.length := by omega
      have hj : i < b.length := by omega
      refine Wps_drw (T := []) trivial (by kernel_rfl) [(0, true), (1, true), (2, true), (3, true), (4, true), (5, true), (6, true), (7, true), (8, true), (9, true), (10, true), (11, true), (12, true), (13, true), (14, true), (15, true), (16, true), (17, true), (18, true), (19, true), (20, true), (21, true), (22, true), (23, true)] (by kernel_rfl) [0, 1, 5, 40] rfl (by simp) fun K hK => ?_
      repeat
        (first | refine R0 rfl rfl fun K1 hK1 => ?_ | refine R1 rfl rfl rfl fun K1 hK1 => ?_ | refine Q0 rfl rfl fun K1 hK1 => ?_ | refine Q1 rfl rfl rfl fun K1 hK1 => ?_)
        simp only [↓EP, EQ, implies_true, forall_const, tys, zoks, zeros, Nat.reduceEqDiff, Nat.reduceAdd, Nat.reduceLT, Nat.reduceLeDiff, reduceIte, reduceCtorEq, List.length_map, Int.toNat_natCast, getD_map_lt hi, getD_map_lt hj, dTag]
        try simp (disch := omega) only [wrap64, wrapU64]
        repeat (first | refine And.intro cl ?_ | intro e)
        refine hK1 _ ?_
        clear hK1 K1
      refine OE ?_
      refine hK _ _ (by simp only [St.keep, keepL, at_cons, at_nil, Nat.reduceEqDiff, reduceIte, eq_self]; rfl) ?_
      clear hK K
      refine Wps_cond rfl (fun hc3 => ?_) (fun hc3 => ?_)
      · try simp only [decide_eq_true_eq, decide_eq_false_iff_not, Bool.not_eq_true', Bool.not_eq_false', Int.not_lt, Int.not_le, ge_iff_le, gt_iff_lt, Bool.or_eq_false_iff, Bool.or_eq_true, Bool.and_eq_true, Bool.and_eq_false_imp, beq_iff_eq, beq_eq_false_iff_ne, ne_eq, bne_iff_ne, bne_eq_false_iff_eq] at hc3
        refine Wps_seq ?_
        refine Wps_reg (T := []) trivial [4] rfl (by simp) fun K hK => ?_
        repeat
          (first | refine X0 rfl fun K1 hK1 => ?_ | refine X1 rfl rfl fun K1 hK1 => ?_)
          simp only [↓EP, EQ, implies_true, forall_const, tys, zoks, zeros, Nat.reduceEqDiff, Nat.reduceAdd, Nat.reduceLT, Nat.reduceLeDiff, reduceIte, reduceCtorEq, List.length_map]
          try simp (disch := omega) only [wrap64, wrapU64]
          repeat (first | refine And.intro cl ?_ | intro e)
          refine hK1 _ ?_
          clear hK1 K1
        refine XE ?_
        refine hK _ _ (by simp only [St.keep, keepL, at_cons, at_nil, Nat.reduceEqDiff, reduceIte, eq_self]; rfl) ?_
        clear hK K
        refine Wps_ret ?_
        try simp only [Wps_nil, thenQ_normal, thenQ_exit, thenQ_ret, blkQ_normal, blkQ_ret, blkQ_if, blkQ_same, scQ_normal, scQ_ret, scQ_exit, Nat.reduceEqDiff, reduceIte, eq_self, reduceCtorEq, if_true, if_false]
        first | refine ret_pureQ rfl ?_ | refine ret_pureN rfl ?_
        simp only [retP, at_cons, at_nil, Nat.reduceEqDiff, reduceIte, eq_self, AV.use, retV, AV.bel, AV.bels, true_and, and_true]
        refine ⟨_, rfl, fun h => ?_⟩
        subst h
        simp [strEq_refl] at hc3
      · try simp only [decide_eq_true_eq, decide_eq_false_iff_not, Bool.not_eq_true', Bool.not_eq_false', Int.not_lt, Int.not_le, ge_iff_le, gt_iff_lt, Bool.or_eq_false_iff, Bool.or_eq_true, Bool.and_eq_true, Bool.and_eq_false_imp, beq_iff_eq, beq_eq_false_iff_ne, ne_eq, bne_iff_ne, bne_eq_false_iff_eq] at hc3
        refine Wps_skip ?_
        simp only [Wps_nil, thenQ_normal, thenQ_exit, thenQ_ret, blkQ_normal, blkQ_ret, blkQ_if, blkQ_same, scQ_normal, scQ_ret, scQ_exit, Nat.reduceEqDiff, reduceIte, eq_self, reduceCtorEq, if_true, if_false]
        refine Wps_regionX' (T := []) trivial rfl fun K hK => ?_
        repeat
          (first | refine X0 rfl fun K1 hK1 => ?_ | refine X1 rfl rfl fun K1 hK1 => ?_)
          simp only [↓EP, EQ, implies_true, forall_const, tys, zoks, zeros, Nat.reduceEqDiff, Nat.reduceAdd, Nat.reduceLT, Nat.reduceLeDiff, reduceIte, reduceCtorEq, List.length_map]
          try simp (disch := omega) only [wrap64, wrapU64]
          repeat (first | refine And.intro cl ?_ | intro e)
          refine hK1 _ ?_
          clear hK1 K1
        refine XE ?_
        refine hK _ ?_
        clear hK K
        simp only [Wps_nil, thenQ_normal, thenQ_exit, thenQ_ret, blkQ_normal, blkQ_ret, blkQ_if, blkQ_same, scQ_normal, scQ_ret, scQ_exit, Nat.reduceEqDiff, reduceIte, eq_self, reduceCtorEq, if_true, if_false]
        refine ⟨_, _, ?h1, ⟨i + 1, rfl, (by omega), ?h2⟩, Wk_keep [0, 1, 5]⟩
        case h2 =>
          simp only [St.keep, keepL, at_cons, at_nil, Nat.reduceEqDiff, reduceIte, eq_self]
          first | rfl | (apply St_eq <;> first | rfl | (simp; done)) | (rw [wrapS (i := i) (by omega)]; first | rfl | (apply St_eq <;> first | rfl | (simp; done)))
        case h1 => omega
    · try simp only [decide_eq_true_eq, decide_eq_false_iff_not, Bool.not_eq_true', Bool.not_eq_false', Int.not_lt, Int.not_le, ge_iff_le, gt_iff_lt, Bool.or_eq_false_iff, Bool.or_eq_true, Bool.and_eq_true, Bool.and_eq_false_imp, beq_iff_eq, beq_eq_false_iff_ne, ne_eq, bne_iff_ne, bne_eq_false_iff_eq] at hc2
      refine Wps_exit ?_
      simp only [Wps_nil, thenQ_normal, thenQ_exit, thenQ_ret, blkQ_normal, blkQ_ret, blkQ_if, blkQ_same, scQ_normal, scQ_ret, scQ_exit, Nat.reduceEqDiff, reduceIte, eq_self, reduceCtorEq, if_true, if_false]
      refine Wps_seq ?_
      refine Wps_reg (T := []) trivial [4] rfl (by simp) fun K hK => ?_
      repeat
        (first | refine X0 rfl fun K1 hK1 => ?_ | refine X1 rfl rfl fun K1 hK1 => ?_)
        simp only [↓EP, EQ, implies_true, forall_const, tys, zoks, zeros, Nat.reduceEqDiff, Nat.reduceAdd, Nat.reduceLT, Nat.reduceLeDiff, reduceIte, reduceCtorEq, List.length_map]
        try simp (disch := omega) only [wrap64, wrapU64]
        repeat (first | refine And.intro cl ?_ | intro e)
        refine hK1 _ ?_
        clear hK1 K1
      refine XE ?_
      refine hK _ _ (by simp only [St.keep, keepL, at_cons, at_nil, Nat.reduceEqDiff, reduceIte, eq_self]; rfl) ?_
      clear hK K
      refine Wps_ret ?_
      try simp only [Wps_nil, thenQ_normal, thenQ_exit, thenQ_ret, blkQ_normal, blkQ_ret, blkQ_if, blkQ_same, scQ_normal, scQ_ret, scQ_exit, Nat.reduceEqDiff, reduceIte, eq_self, reduceCtorEq, if_true, if_false]
      first | refine ret_pureQ rfl ?_ | refine ret_pureN rfl ?_
      simp only [retP, at_cons, at_nil, Nat.reduceEqDiff, reduceIte, eq_self, AV.use, retV, AV.bel, AV.bels, true_and, and_true]
      exact ⟨_, rfl, fun _ => rfl⟩

noncomputable def e41 : Ent := ent1 (fun p : List TagL × List TagL => [.d (dTags p.1), .d (dTags p.2)]) (fun p => p.1.length ≤ 1048576 ∧ p.2.length ≤ 1048576) (fun p => IfB (p.1 = p.2))
theorem e1041_ap (p : List TagL × List TagL) : e41 [.d (dTags p.1), .d (dTags p.2)] = some (p.1.length ≤ 1048576 ∧ p.2.length ≤ 1048576, IfB (p.1 = p.2)) := ent1_ap (f := fun p : List TagL × List TagL => [.d (dTags p.1), .d (dTags p.2)]) (fun x y h => by simp only [List.cons.injEq, AV.d.injEq, D.sl.injEq, true_and, and_true] at h; exact Prod.ext (map_inj dTag_inj h.1) (map_inj dTag_inj h.2)) p
theorem e41_ok : EntOk Try.prog 41 e41 := ent1_ok (fun p => if_ex _) fun p h => f41_ok p.1 p.2 h.1 h.2

theorem e41_ap (x : List TagL) (y : List TagL) : e41 [.d (dTags x), .d (dTags y)] = some (x.length ≤ 1048576 ∧ y.length ≤ 1048576, IfB (x = y)) := e1041_ap (x, y)
theorem flats_map {α : Type} {f : α → D} {g : α → Value} (h : ∀ x, (f x).flat = some [g x]) : ∀ l : List α, D.flats (l.map f) = some (l.map g)
  | [] => rfl
  | x :: l => by simp [D.flats, h x, flats_map h l]
theorem alls_map {α : Type} {f : α → D} {k : Nat} (h : ∀ x, (f x).size = k) : ∀ l : List α, D.alls k (l.map f) = true
  | [] => rfl
  | x :: l => by simp [D.alls, h x, alls_map h l]
theorem cmp_digest (a b : List UInt8) (ha : a.length = 32) (hb : b.length = 32) : CmpOk Try.prog 48 (.arr 32 1 (a.map dByte)) (.arr 32 1 (b.map dByte)) := by
  refine ⟨by kernel_rfl, rfl, rfl, a.map Extern.Stop.cell, b.map Extern.Stop.cell, a == b, ?_, ?_, ?_, fun w => ?_⟩
  · rw [D.flat, if_pos ⟨by simpa using ha, alls_map (f := dByte) (k := 1) (fun x => rfl) a⟩]; exact flats_map (f := dByte) (g := Extern.Stop.cell) (fun x => rfl) a
  · rw [D.flat, if_pos ⟨by simpa using hb, alls_map (f := dByte) (k := 1) (fun x => rfl) b⟩]; exact flats_map (f := dByte) (g := Extern.Stop.cell) (fun x => rfl) b
  · rw [beq_iff_eq]
    constructor
    · rintro rfl; rfl
    · intro h; simp only [D.arr.injEq, true_and] at h; exact map_inj dByte_inj h
  · exact run_equalIn_bytes w 9998 48 5 32 (by kernel_rfl) (by kernel_rfl) (fun w => run_sizeOf' (by kernel_rfl) w) a b ha hb
theorem cmp_lock (a b : LockL) : CmpOk Try.prog 50 (dLock a) (dLock b) := by
  obtain ⟨m, t, h⟩ := a
  obtain ⟨m', t', h'⟩ := b
  refine ⟨by kernel_rfl, rfl, rfl, [.int .i64 m, .int .i64 t, .bool h], [.int .i64 m', .int .i64 t', .bool h'], m == m' && (t == t' && h == h'), rfl, rfl, ?_, fun w => ?_⟩
  · simp [dLock]
  · have e3 : Try.prog.underlying 3 = some (.int .i64) := by kernel_rfl
    have e2 : Try.prog.underlying 2 = some (.int .i64) := by kernel_rfl
    have e4 : Try.prog.underlying 4 = some .bool := by kernel_rfl
    have hf : Try.prog.fieldsOf 50 = (Try.prog.fieldsOf 50).toList.toArray := by simp
    rw [show Op.equal 50 = Op.equalIn (9999 + 1) 50 from rfl, run_equalIn_struct w 9999 50 _ _ (by kernel_rfl) (by kernel_rfl)]
    have hl : (Try.prog.fieldsOf 50).toList.map (fun f => (f.name != "_", f.type, f.offset)) = [(true, 3, 0), (true, 2, 1), (true, 4, 2)] := by kernel_rfl
    generalize (Try.prog.fieldsOf 50).toList = fs at hl ⊢
    rcases fs with _ | ⟨f1, _ | ⟨f2, _ | ⟨f3, _ | ⟨f4, r⟩⟩⟩⟩ <;> simp only [List.map_cons, List.map_nil, List.cons.injEq, Prod.mk.injEq, reduceCtorEq, and_false, false_and, and_true, bne_iff_ne] at hl
    obtain ⟨⟨n1, y1, o1⟩, ⟨n2, y2, o2⟩, n3, y3, o3⟩ := hl
    have a3 : ∀ w, (isAgg 3).run Try.prog w = .ok false w := fun w => run_isAgg' (by kernel_rfl) w
    have a2 : ∀ w, (isAgg 2).run Try.prog w = .ok false w := fun w => run_isAgg' (by kernel_rfl) w
    have a4 : ∀ w, (isAgg 4).run Try.prog w = .ok false w := fun w => run_isAgg' (by kernel_rfl) w
    simp only [Op.eqFields, y1, y2, y3, o1, o2, o3, n1, n2, n3, ne_eq, not_false_eq_true, if_true]
    have q1 := run_equalIn_int (P := Try.prog) w 9998 3 .i64 .i64 m m' e3
    have q2 := run_equalIn_int (P := Try.prog) w 9998 2 .i64 .i64 t t' e2
    have q3 := run_equalIn_bool' (P := Try.prog) w 9998 4 h h' e4
    simp only [Nat.reduceAdd] at q1 q2 q3
    simp only [part, Sem.run_bind, a3, a2, a4, Result.andThen_ok, List.getElem_toArray]
    simp [q1, q2, q3]
    clear q1 q2 q3 a2 a3 a4 n1 n2 n3 y1 y2 y3 o1 o2 o3 e2 e3 e4 hf
    by_cases h1 : m = m' <;> by_cases h2 : t = t' <;> by_cases h3 : h = h' <;> simp [h1, h2, h3]

-- chartularyref13.SameVersion
theorem f26_ok (a b : VerL) (ha : okVer a) (hb : okVer b) : PureOk Try.prog 26 [.d (dVer a), .d (dVer b)] (IfB (a = b)) := by
  refine PureOk_of (fn := Try.f26) (rs := [.tmp 4]) (n := 57) (hf := Try.func26) (hn := by kernel_rfl) (hb := rfl) (hr := rfl) (hN := rfl) (hargs := by simp) (ha := by simp [AV.bels, AV.bel]) (hrb := by exact if_bel) (h := fun Z0 w0 => ?_)
  simp only [enumA, Nat.zero_add]
  refine Wps_seq ?_
  refine Wps_reg (T := [(41, e41)]) ⟨e41_ok, trivial⟩ [2, 3] rfl (by simp) fun K hK => ?_
  repeat
    (first | refine X0 rfl fun K1 hK1 => ?_ | refine X1 rfl rfl fun K1 hK1 => ?_)
    simp only [↓EP, EQ, implies_true, forall_const, tys, zoks, zeros, Nat.reduceEqDiff, Nat.reduceAdd, Nat.reduceLT, Nat.reduceLeDiff, reduceIte, reduceCtorEq, e41_ap, all_exT, ↓dVer_size, ↓dVer_isAg, ↓dVer_nav, ↓dVer_vp, dVer_fold, ↓dLock_size, ↓dLock_isAg, ↓dLock_nav, ↓dLock_vp, dLock_fold, cmp_lock, cmp_digest a.digest b.digest ha.1 hb.1]
    try simp (disch := omega) only [wrap64, wrapU64]
    repeat (first | refine And.intro cl ?_ | intro e)
    refine hK1 _ ?_
    clear hK1 K1
  refine XE ?_
  refine hK _ _ (by simp only [St.keep, keepL, at_cons, at_nil, Nat.reduceEqDiff, reduceIte, eq_self]; rfl) ?_
  clear hK K
  refine Wps_seq ?_
  refine Wps_seq ?_
  refine Wps_reg (T := [(41, e41)]) ⟨e41_ok, trivial⟩ [2, 3, 44] rfl (by simp) fun K hK => ?_
  repeat
    (first | refine X0 rfl fun K1 hK1 => ?_ | refine X1 rfl rfl fun K1 hK1 => ?_)
    simp only [↓EP, EQ, implies_true, forall_const, tys, zoks, zeros, Nat.reduceEqDiff, Nat.reduceAdd, Nat.reduceLT, Nat.reduceLeDiff, reduceIte, reduceCtorEq, e41_ap, all_exT, ↓dVer_size, ↓dVer_isAg, ↓dVer_nav, ↓dVer_vp, dVer_fold, ↓dLock_size, ↓dLock_isAg, ↓dLock_nav, ↓dLock_vp, dLock_fold, cmp_lock, cmp_digest a.digest b.digest ha.1 hb.1]
    try simp (disch := omega) only [wrap64, wrapU64]
    repeat (first | refine And.intro cl ?_ | intro e)
    refine hK1 _ ?_
    clear hK1 K1
  refine XE ?_
  refine hK _ _ (by simp only [St.keep, keepL, at_cons, at_nil, Nat.reduceEqDiff, reduceIte, eq_self]; rfl) ?_
  clear hK K
  refine Wps_cond rfl (fun hc1 => ?_) (fun hc1 => ?_)
  · try simp only [decide_eq_true_eq, decide_eq_false_iff_not, Bool.not_eq_true', Bool.not_eq_false', Int.not_lt, Int.not_le, ge_iff_le, gt_iff_lt, Bool.or_eq_false_iff, Bool.or_eq_true, Bool.and_eq_true, Bool.and_eq_false_imp, beq_iff_eq, beq_eq_false_iff_ne, ne_eq, bne_iff_ne, bne_eq_false_iff_eq] at hc1
    refine Wps_seq ?_
    refine Wps_reg (T := [(41, e41)]) ⟨e41_ok, trivial⟩ [4] rfl (by simp) fun K hK => ?_
    repeat
      (first | refine X0 rfl fun K1 hK1 => ?_ | refine X1 rfl rfl fun K1 hK1 => ?_)
      simp only [↓EP, EQ, implies_true, forall_const, tys, zoks, zeros, Nat.reduceEqDiff, Nat.reduceAdd, Nat.reduceLT, Nat.reduceLeDiff, reduceIte, reduceCtorEq, e41_ap, all_exT, ↓dVer_size, ↓dVer_isAg, ↓dVer_nav, ↓dVer_vp, dVer_fold, ↓dLock_size, ↓dLock_isAg, ↓dLock_nav, ↓dLock_vp, dLock_fold, cmp_lock, cmp_digest a.digest b.digest ha.1 hb.1]
      try simp (disch := omega) only [wrap64, wrapU64]
      repeat (first | refine And.intro cl ?_ | intro e)
      refine hK1 _ ?_
      clear hK1 K1
    refine XE ?_
    refine hK _ _ (by simp only [St.keep, keepL, at_cons, at_nil, Nat.reduceEqDiff, reduceIte, eq_self]; rfl) ?_
    clear hK K
    refine Wps_ret ?_
    try simp only [Wps_nil, thenQ_normal, thenQ_exit, thenQ_ret, blkQ_normal, blkQ_ret, blkQ_if, blkQ_same, scQ_normal, scQ_ret, scQ_exit, Nat.reduceEqDiff, reduceIte, eq_self, reduceCtorEq, if_true, if_false]
    first | refine ret_pureQ rfl ?_ | refine ret_pureN rfl ?_
    simp only [retP, at_cons, at_nil, Nat.reduceEqDiff, reduceIte, eq_self, AV.use, retV, AV.bel, AV.bels, true_and, and_true]
    refine ⟨_, rfl, fun h => ?_⟩
    subst h
    simp_all
  · try simp only [decide_eq_true_eq, decide_eq_false_iff_not, Bool.not_eq_true', Bool.not_eq_false', Int.not_lt, Int.not_le, ge_iff_le, gt_iff_lt, Bool.or_eq_false_iff, Bool.or_eq_true, Bool.and_eq_true, Bool.and_eq_false_imp, beq_iff_eq, beq_eq_false_iff_ne, ne_eq, bne_iff_ne, bne_eq_false_iff_eq] at hc1
    refine Wps_skip ?_
    refine Wps_seq ?_
    refine Wps_reg (T := [(41, e41)]) ⟨e41_ok, trivial⟩ [4] rfl (by simp) fun K hK => ?_
    repeat
      (first | refine X0 rfl fun K1 hK1 => ?_ | refine X1 rfl rfl fun K1 hK1 => ?_)
      simp only [↓EP, EQ, implies_true, forall_const, tys, zoks, zeros, Nat.reduceEqDiff, Nat.reduceAdd, Nat.reduceLT, Nat.reduceLeDiff, reduceIte, reduceCtorEq, e41_ap, all_exT, ↓dVer_size, ↓dVer_isAg, ↓dVer_nav, ↓dVer_vp, dVer_fold, ↓dLock_size, ↓dLock_isAg, ↓dLock_nav, ↓dLock_vp, dLock_fold, cmp_lock, cmp_digest a.digest b.digest ha.1 hb.1]
      try simp (disch := omega) only [wrap64, wrapU64]
      repeat (first | refine And.intro cl ?_ | intro e)
      refine hK1 _ ?_
      clear hK1 K1
    refine XE ?_
    refine hK _ _ (by simp only [St.keep, keepL, at_cons, at_nil, Nat.reduceEqDiff, reduceIte, eq_self]; rfl) ?_
    clear hK K
    refine Wps_ret ?_
    try simp only [Wps_nil, thenQ_normal, thenQ_exit, thenQ_ret, blkQ_normal, blkQ_ret, blkQ_if, blkQ_same, scQ_normal, scQ_ret, scQ_exit, Nat.reduceEqDiff, reduceIte, eq_self, reduceCtorEq, if_true, if_false]
    first | refine ret_pureQ rfl ?_ | refine ret_pureN rfl ?_
    simp only [retP, at_cons, at_nil, Nat.reduceEqDiff, reduceIte, eq_self, AV.use, retV, AV.bel, AV.bels, true_and, and_true]
    refine ⟨_, rfl, fun h => ?_⟩
    subst h
    simp_all

noncomputable def e26 : Ent := ent1 (fun p : VerL × VerL => [.d (dVer p.1), .d (dVer p.2)]) (fun p => okVer p.1 ∧ okVer p.2) (fun p => IfB (p.1 = p.2))
theorem e1026_ap (p : VerL × VerL) : e26 [.d (dVer p.1), .d (dVer p.2)] = some (okVer p.1 ∧ okVer p.2, IfB (p.1 = p.2)) := ent1_ap (f := fun p : VerL × VerL => [.d (dVer p.1), .d (dVer p.2)]) (fun x y h => by simp only [List.cons.injEq, AV.d.injEq, and_true] at h; exact Prod.ext (dVer_inj h.1) (dVer_inj h.2)) p
theorem e26_ok : EntOk Try.prog 26 e26 := ent1_ok (fun p => if_ex _) fun p h => f26_ok p.1 p.2 h.1 h.2

theorem e26_ap (x : VerL) (y : VerL) : e26 [.d (dVer x), .d (dVer y)] = some (okVer x ∧ okVer y, IfB (x = y)) := e1026_ap (x, y)
abbrev okRow (r : RowL) : Prop := okVer r.ver

theorem dRow_nav (r : RowL) : (∀ p, (dRow r).nav (0 :: p) = ((.raw (.string r.key) : D).nav p).map fun q => (q.1, 0 + q.2)) ∧ (∀ p, (dRow r).nav (1 :: p) = ((.raw (.bool r.group) : D).nav p).map fun q => (q.1, 1 + q.2)) ∧ (∀ p, (dRow r).nav (2 :: p) = ((dVer r.ver : D).nav p).map fun q => (q.1, 2 + q.2)) ∧ (∀ p, (dRow r).nav (3 :: p) = ((.raw (.bool r.latest) : D).nav p).map fun q => (q.1, 43 + q.2)) := ⟨fun _ => rfl, fun _ => rfl, fun _ => rfl, fun _ => rfl⟩
theorem dRow_vp (r : RowL) : AV.vp (dRow r) = .vp (.ag [.raw (.string r.key), .raw (.bool r.group), dVer r.ver, .raw (.bool r.latest)]) := rfl
theorem dRow_fold (r : RowL) : AV.d (.ag [.raw (.string r.key), .raw (.bool r.group), dVer r.ver, .raw (.bool r.latest)]) = .d (dRow r) := rfl
-- chartularyref23.Same
theorem f12_ok (a b : List RowL) (ha : okL okRow a) (hb : okL okRow b) : PureOk Try.prog 12 [.d (dRows a), .d (dRows b)] (IfB (a = b)) := by
  refine PureOk_of (fn := Try.f12) (rs := [.tmp 4]) (n := 68) (hf := Try.func12) (hn := by kernel_rfl) (hb := rfl) (hr := rfl) (hN := rfl) (hargs := by simp) (ha := by simp [AV.bels, AV.bel]) (hrb := by exact if_bel) (h := fun Z0 w0 => ?_)
  simp only [enumA, Nat.zero_add]
  refine Wps_seq ?_
  refine Wps_reg (T := [(26, e26)]) ⟨e26_ok, trivial⟩ [0, 1] rfl (by simp) fun K hK => ?_
  repeat
    (first | refine X0 rfl fun K1 hK1 => ?_ | refine X1 rfl rfl fun K1 hK1 => ?_)
    simp only [↓EP, EQ, implies_true, forall_const, tys, zoks, zeros, Nat.reduceEqDiff, Nat.reduceAdd, Nat.reduceLT, Nat.reduceLeDiff, reduceIte, reduceCtorEq, e26_ap, List.length_map, all_exT, ↓dRow_size, ↓dRow_isAg, ↓dRow_nav, ↓dRow_vp, dRow_fold, ↓dVer_size, ↓dVer_isAg, ↓dVer_nav, ↓dVer_vp, dVer_fold, ↓dLock_size, ↓dLock_isAg, ↓dLock_nav, ↓dLock_vp, dLock_fold]
    try simp (disch := omega) only [wrap64, wrapU64]
    repeat (first | refine And.intro cl ?_ | intro e)
    refine hK1 _ ?_
    clear hK1 K1
  refine XE ?_
  refine hK _ _ (by simp only [St.keep, keepL, at_cons, at_nil, Nat.reduceEqDiff, reduceIte, eq_self]; rfl) ?_
  clear hK K
  refine Wps_seq ?_
  refine Wps_seq ?_
  refine Wps_reg (T := [(26, e26)]) ⟨e26_ok, trivial⟩ [0, 1, 10] rfl (by simp) fun K hK => ?_
  repeat
    (first | refine X0 rfl fun K1 hK1 => ?_ | refine X1 rfl rfl fun K1 hK1 => ?_)
    simp only [↓EP, EQ, implies_true, forall_const, tys, zoks, zeros, Nat.reduceEqDiff, Nat.reduceAdd, Nat.reduceLT, Nat.reduceLeDiff, reduceIte, reduceCtorEq, e26_ap, List.length_map, all_exT, ↓dRow_size, ↓dRow_isAg, ↓dRow_nav, ↓dRow_vp, dRow_fold, ↓dVer_size, ↓dVer_isAg, ↓dVer_nav, ↓dVer_vp, dVer_fold, ↓dLock_size, ↓dLock_isAg, ↓dLock_nav, ↓dLock_vp, dLock_fold]
    try simp (disch := omega) only [wrap64, wrapU64]
    repeat (first | refine And.intro cl ?_ | intro e)
    refine hK1 _ ?_
    clear hK1 K1
  refine XE ?_
  refine hK _ _ (by simp only [St.keep, keepL, at_cons, at_nil, Nat.reduceEqDiff, reduceIte, eq_self]; rfl) ?_
  clear hK K
  refine Wps_cond rfl (fun hc1 => ?_) (fun hc1 => ?_)
  · try simp only [decide_eq_true_eq, decide_eq_false_iff_not, Bool.not_eq_true', Bool.not_eq_false', Int.not_lt, Int.not_le, ge_iff_le, gt_iff_lt, Bool.or_eq_false_iff, Bool.or_eq_true, Bool.and_eq_true, Bool.and_eq_false_imp, beq_iff_eq, beq_eq_false_iff_ne, ne_eq, bne_iff_ne, bne_eq_false_iff_eq] at hc1
    refine Wps_seq ?_
    refine Wps_reg (T := [(26, e26)]) ⟨e26_ok, trivial⟩ [4] rfl (by simp) fun K hK => ?_
    repeat
      (first | refine X0 rfl fun K1 hK1 => ?_ | refine X1 rfl rfl fun K1 hK1 => ?_)
      simp only [↓EP, EQ, implies_true, forall_const, tys, zoks, zeros, Nat.reduceEqDiff, Nat.reduceAdd, Nat.reduceLT, Nat.reduceLeDiff, reduceIte, reduceCtorEq, e26_ap, List.length_map, all_exT, ↓dRow_size, ↓dRow_isAg, ↓dRow_nav, ↓dRow_vp, dRow_fold, ↓dVer_size, ↓dVer_isAg, ↓dVer_nav, ↓dVer_vp, dVer_fold, ↓dLock_size, ↓dLock_isAg, ↓dLock_nav, ↓dLock_vp, dLock_fold]
      try simp (disch := omega) only [wrap64, wrapU64]
      repeat (first | refine And.intro cl ?_ | intro e)
      refine hK1 _ ?_
      clear hK1 K1
    refine XE ?_
    refine hK _ _ (by simp only [St.keep, keepL, at_cons, at_nil, Nat.reduceEqDiff, reduceIte, eq_self]; rfl) ?_
    clear hK K
    refine Wps_ret ?_
    try simp only [Wps_nil, thenQ_normal, thenQ_exit, thenQ_ret, blkQ_normal, blkQ_ret, blkQ_if, blkQ_same, scQ_normal, scQ_ret, scQ_exit, Nat.reduceEqDiff, reduceIte, eq_self, reduceCtorEq, if_true, if_false]
    first | refine ret_pureQ rfl ?_ | refine ret_pureN rfl ?_
    simp only [retP, at_cons, at_nil, Nat.reduceEqDiff, reduceIte, eq_self, AV.use, retV, AV.bel, AV.bels, true_and, and_true]
    refine ⟨_, rfl, fun h => ?_⟩
    subst h
    simp at hc1
  · try simp only [decide_eq_true_eq, decide_eq_false_iff_not, Bool.not_eq_true', Bool.not_eq_false', Int.not_lt, Int.not_le, ge_iff_le, gt_iff_lt, Bool.or_eq_false_iff, Bool.or_eq_true, Bool.and_eq_true, Bool.and_eq_false_imp, beq_iff_eq, beq_eq_false_iff_ne, ne_eq, bne_iff_ne, bne_eq_false_iff_eq] at hc1
    refine Wps_skip ?_
    refine Wps_seq ?_
    refine Wps_seq ?_
    refine Wps_reg (T := [(26, e26)]) ⟨e26_ok, trivial⟩ [0, 1, 5] rfl (by simp) fun K hK => ?_
    repeat
      (first | refine X0 rfl fun K1 hK1 => ?_ | refine X1 rfl rfl fun K1 hK1 => ?_)
      simp only [↓EP, EQ, implies_true, forall_const, tys, zoks, zeros, Nat.reduceEqDiff, Nat.reduceAdd, Nat.reduceLT, Nat.reduceLeDiff, reduceIte, reduceCtorEq, e26_ap, List.length_map, all_exT, ↓dRow_size, ↓dRow_isAg, ↓dRow_nav, ↓dRow_vp, dRow_fold, ↓dVer_size, ↓dVer_isAg, ↓dVer_nav, ↓dVer_vp, dVer_fold, ↓dLock_size, ↓dLock_isAg, ↓dLock_nav, ↓dLock_vp, dLock_fold]
      try simp (disch := omega) only [wrap64, wrapU64]
      repeat (first | refine And.intro cl ?_ | intro e)
      refine hK1 _ ?_
      clear hK1 K1
    refine XE ?_
    refine hK _ _ (by simp only [St.keep, keepL, at_cons, at_nil, Nat.reduceEqDiff, reduceIte, eq_self]; rfl) ?_
    clear hK K
    refine Wps_block ?_
    -- live at the head: [0, 1, 5]
    refine Wps_loop (fun n_ st_ => ∃ (i : Nat), n_ = a.length - i ∧ (i ≤ a.length) ∧ st_ = ⟨[(0, _), (1, _), (5, I i)], _⟩) _ ⟨0, rfl, (by simp), rfl⟩ (Wk.refl _) fun n_ st_ hI => ?_
    obtain ⟨i, rfl, hi0, rfl⟩ := hI
    refine Wps_seq ?_
    refine Wps_seq ?_
    refine Wps_reg (T := [(26, e26)]) ⟨e26_ok, trivial⟩ [0, 1, 5, 14] rfl (by simp) fun K hK => ?_
    repeat
      (first | refine X0 rfl fun K1 hK1 => ?_ | refine X1 rfl rfl fun K1 hK1 => ?_)
      simp only [↓EP, EQ, implies_true, forall_const, tys, zoks, zeros, Nat.reduceEqDiff, Nat.reduceAdd, Nat.reduceLT, Nat.reduceLeDiff, reduceIte, reduceCtorEq, e26_ap, List.length_map, all_exT, ↓dRow_size, ↓dRow_isAg, ↓dRow_nav, ↓dRow_vp, dRow_fold, ↓dVer_size, ↓dVer_isAg, ↓dVer_nav, ↓dVer_vp, dVer_fold, ↓dLock_size, ↓dLock_isAg, ↓dLock_nav, ↓dLock_vp, dLock_fold]
      try simp (disch := omega) only [wrap64, wrapU64]
      repeat (first | refine And.intro cl ?_ | intro e)
      refine hK1 _ ?_
      clear hK1 K1
    refine XE ?_
    refine hK _ _ (by simp only [St.keep, keepL, at_cons, at_nil, Nat.reduceEqDiff, reduceIte, eq_self]; rfl) ?_
    clear hK K
    refine Wps_cond rfl (fun hc2 => ?_) (fun hc2 => ?_)
    · try simp only [decide_eq_true_eq, decide_eq_false_iff_not, Bool.not_eq_true', Bool.not_eq_false', Int.not_lt, Int.not_le, ge_iff_le, gt_iff_lt, Bool.or_eq_false_iff, Bool.or_eq_true, Bool.and_eq_true, Bool.and_eq_false_imp, beq_iff_eq, beq_eq_false_iff_ne, ne_eq, bne_iff_ne, bne_eq_false_iff_eq] at hc2
      refine Wps_skip ?_
      refine Wps_seq ?_
      refine Wps_block ?_
      refine Wps_seq ?_
      have hi : i < a.length := by omega
      have hj : i < b.length := by omega
      have ka := okL_get ha hi
      have kb := okL_get hb hj
      refine Wps_drw (T := [(26, e26)]) ⟨e26_ok, trivial⟩ (by kernel_rfl) [(0, true), (1, true), (2, true), (3, true), (4, true), (5, true), (6, true), (7, true), (8, true), (9, true), (10, true), (11, true), (12, true), (13, true), (14, true), (15, true), (16, true), (17, true), (18, true), (19, true), (20, true), (21, true), (22, true), (23, true), (24, true), (25, true), (26, true), (27, true), (28, true), (29, true), (30, true), (31, true), (32, true), (33, true), (34, true), (35, true), (36, true), (37, true), (38, true), (39, true), (40, true), (41, true), (42, true), (43, true), (44, true), (45, true), (46, true), (47, true), (48, false), (49, true), (50, true)] (by kernel_rfl) [0, 1, 5, 67] rfl (by simp) fun K hK => ?_
      repeat
        (first | refine R0 rfl rfl fun K1 hK1 => ?_ | refine R1 rfl rfl rfl fun K1 hK1 => ?_ | refine Q0 rfl rfl fun K1 hK1 => ?_ | refine Q1 rfl rfl rfl fun K1 hK1 => ?_)
        simp only [↓EP, EQ, implies_true, forall_const, tys, zoks, zeros, Nat.reduceEqDiff, Nat.reduceAdd, Nat.reduceLT, Nat.reduceLeDiff, reduceIte, reduceCtorEq, e26_ap, List.length_map, all_exT, ↓dRow_size, ↓dRow_isAg, ↓dRow_nav, ↓dRow_vp, dRow_fold, ↓dVer_size, ↓dVer_isAg, ↓dVer_nav, ↓dVer_vp, dVer_fold, ↓dLock_size, ↓dLock_isAg, ↓dLock_nav, ↓dLock_vp, dLock_fold, Int.toNat_natCast, getD_map_lt hi, getD_map_lt hj]
        try simp (disch := omega) only [wrap64, wrapU64]
        repeat (first | refine And.intro cl ?_ | intro e)
        refine hK1 _ ?_
        clear hK1 K1
      refine OE ?_
      refine hK _ _ (by simp only [St.keep, keepL, at_cons, at_nil, Nat.reduceEqDiff, reduceIte, eq_self]; rfl) ?_
      clear hK K
      refine Wps_cond rfl (fun hc3 => ?_) (fun hc3 => ?_)
      · try simp only [decide_eq_true_eq, decide_eq_false_iff_not, Bool.not_eq_true', Bool.not_eq_false', Int.not_lt, Int.not_le, ge_iff_le, gt_iff_lt, Bool.or_eq_false_iff, Bool.or_eq_true, Bool.and_eq_true, Bool.and_eq_false_imp, beq_iff_eq, beq_eq_false_iff_ne, ne_eq, bne_iff_ne, bne_eq_false_iff_eq] at hc3
        refine Wps_seq ?_
        refine Wps_reg (T := [(26, e26)]) ⟨e26_ok, trivial⟩ [4] rfl (by simp) fun K hK => ?_
        repeat
          (first | refine X0 rfl fun K1 hK1 => ?_ | refine X1 rfl rfl fun K1 hK1 => ?_)
          simp only [↓EP, EQ, implies_true, forall_const, tys, zoks, zeros, Nat.reduceEqDiff, Nat.reduceAdd, Nat.reduceLT, Nat.reduceLeDiff, reduceIte, reduceCtorEq, e26_ap, List.length_map, all_exT, ↓dRow_size, ↓dRow_isAg, ↓dRow_nav, ↓dRow_vp, dRow_fold, ↓dVer_size, ↓dVer_isAg, ↓dVer_nav, ↓dVer_vp, dVer_fold, ↓dLock_size, ↓dLock_isAg, ↓dLock_nav, ↓dLock_vp, dLock_fold]
          try simp (disch := omega) only [wrap64, wrapU64]
          repeat (first | refine And.intro cl ?_ | intro e)
          refine hK1 _ ?_
          clear hK1 K1
        refine XE ?_
        refine hK _ _ (by simp only [St.keep, keepL, at_cons, at_nil, Nat.reduceEqDiff, reduceIte, eq_self]; rfl) ?_
        clear hK K
        refine Wps_ret ?_
        try simp only [Wps_nil, thenQ_normal, thenQ_exit, thenQ_ret, blkQ_normal, blkQ_ret, blkQ_if, blkQ_same, scQ_normal, scQ_ret, scQ_exit, Nat.reduceEqDiff, reduceIte, eq_self, reduceCtorEq, if_true, if_false]
        first | refine ret_pureQ rfl ?_ | refine ret_pureN rfl ?_
        simp only [retP, at_cons, at_nil, Nat.reduceEqDiff, reduceIte, eq_self, AV.use, retV, AV.bel, AV.bels, true_and, and_true]
        refine ⟨_, rfl, fun h => ?_⟩
        subst h
        simp_all [strEq_refl]
      · try simp only [decide_eq_true_eq, decide_eq_false_iff_not, Bool.not_eq_true', Bool.not_eq_false', Int.not_lt, Int.not_le, ge_iff_le, gt_iff_lt, Bool.or_eq_false_iff, Bool.or_eq_true, Bool.and_eq_true, Bool.and_eq_false_imp, beq_iff_eq, beq_eq_false_iff_ne, ne_eq, bne_iff_ne, bne_eq_false_iff_eq] at hc3
        refine Wps_skip ?_
        simp only [Wps_nil, thenQ_normal, thenQ_exit, thenQ_ret, blkQ_normal, blkQ_ret, blkQ_if, blkQ_same, scQ_normal, scQ_ret, scQ_exit, Nat.reduceEqDiff, reduceIte, eq_self, reduceCtorEq, if_true, if_false]
        refine Wps_regionX' (T := [(26, e26)]) ⟨e26_ok, trivial⟩ rfl fun K hK => ?_
        repeat
          (first | refine X0 rfl fun K1 hK1 => ?_ | refine X1 rfl rfl fun K1 hK1 => ?_)
          simp only [↓EP, EQ, implies_true, forall_const, tys, zoks, zeros, Nat.reduceEqDiff, Nat.reduceAdd, Nat.reduceLT, Nat.reduceLeDiff, reduceIte, reduceCtorEq, e26_ap, List.length_map, all_exT, ↓dRow_size, ↓dRow_isAg, ↓dRow_nav, ↓dRow_vp, dRow_fold, ↓dVer_size, ↓dVer_isAg, ↓dVer_nav, ↓dVer_vp, dVer_fold, ↓dLock_size, ↓dLock_isAg, ↓dLock_nav, ↓dLock_vp, dLock_fold]
          try simp (disch := omega) only [wrap64, wrapU64]
          repeat (first | refine And.intro cl ?_ | intro e)
          refine hK1 _ ?_
          clear hK1 K1
        refine XE ?_
        refine hK _ ?_
        clear hK K
        simp only [Wps_nil, thenQ_normal, thenQ_exit, thenQ_ret, blkQ_normal, blkQ_ret, blkQ_if, blkQ_same, scQ_normal, scQ_ret, scQ_exit, Nat.reduceEqDiff, reduceIte, eq_self, reduceCtorEq, if_true, if_false]
        refine ⟨_, _, ?h1, ⟨i + 1, rfl, (by omega), ?h2⟩, Wk_keep [0, 1, 5]⟩
        case h2 =>
          simp only [St.keep, keepL, at_cons, at_nil, Nat.reduceEqDiff, reduceIte, eq_self]
          first | rfl | (apply St_eq <;> first | rfl | (simp; done)) | (rw [wrapS (i := i) (by omega)]; first | rfl | (apply St_eq <;> first | rfl | (simp; done)))
        case h1 => omega
    · try simp only [decide_eq_true_eq, decide_eq_false_iff_not, Bool.not_eq_true', Bool.not_eq_false', Int.not_lt, Int.not_le, ge_iff_le, gt_iff_lt, Bool.or_eq_false_iff, Bool.or_eq_true, Bool.and_eq_true, Bool.and_eq_false_imp, beq_iff_eq, beq_eq_false_iff_ne, ne_eq, bne_iff_ne, bne_eq_false_iff_eq] at hc2
      refine Wps_exit ?_
      simp only [Wps_nil, thenQ_normal, thenQ_exit, thenQ_ret, blkQ_normal, blkQ_ret, blkQ_if, blkQ_same, scQ_normal, scQ_ret, scQ_exit, Nat.reduceEqDiff, reduceIte, eq_self, reduceCtorEq, if_true, if_false]
      refine Wps_seq ?_
      refine Wps_reg (T := [(26, e26)]) ⟨e26_ok, trivial⟩ [4] rfl (by simp) fun K hK => ?_
      repeat
        (first | refine X0 rfl fun K1 hK1 => ?_ | refine X1 rfl rfl fun K1 hK1 => ?_)
        simp only [↓EP, EQ, implies_true, forall_const, tys, zoks, zeros, Nat.reduceEqDiff, Nat.reduceAdd, Nat.reduceLT, Nat.reduceLeDiff, reduceIte, reduceCtorEq, e26_ap, List.length_map, all_exT, ↓dRow_size, ↓dRow_isAg, ↓dRow_nav, ↓dRow_vp, dRow_fold, ↓dVer_size, ↓dVer_isAg, ↓dVer_nav, ↓dVer_vp, dVer_fold, ↓dLock_size, ↓dLock_isAg, ↓dLock_nav, ↓dLock_vp, dLock_fold]
        try simp (disch := omega) only [wrap64, wrapU64]
        repeat (first | refine And.intro cl ?_ | intro e)
        refine hK1 _ ?_
        clear hK1 K1
      refine XE ?_
      refine hK _ _ (by simp only [St.keep, keepL, at_cons, at_nil, Nat.reduceEqDiff, reduceIte, eq_self]; rfl) ?_
      clear hK K
      refine Wps_ret ?_
      try simp only [Wps_nil, thenQ_normal, thenQ_exit, thenQ_ret, blkQ_normal, blkQ_ret, blkQ_if, blkQ_same, scQ_normal, scQ_ret, scQ_exit, Nat.reduceEqDiff, reduceIte, eq_self, reduceCtorEq, if_true, if_false]
      first | refine ret_pureQ rfl ?_ | refine ret_pureN rfl ?_
      simp only [retP, at_cons, at_nil, Nat.reduceEqDiff, reduceIte, eq_self, AV.use, retV, AV.bel, AV.bels, true_and, and_true]
      exact ⟨_, rfl, fun _ => rfl⟩

end Go.Proofs.Ytolplbfonlhbhaa
