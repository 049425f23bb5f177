/- Contracts, sixth part: what tells whether a state is sound. -/
import Derived.Test.YtolplbfonlhbhaaC5
set_option maxRecDepth 20000
set_option maxHeartbeats 4000000
set_option linter.unusedVariables false
set_option linter.unusedSectionVars false
set_option linter.unusedSimpArgs false
namespace Go.Proofs.Ytolplbfonlhbhaa
open Go Go.Eng
variable [Globs]

-- chartularyref06.low
theorem f43_ok (n : Int) : PureOk Try.prog 43 [.d (.raw (.int .u8 n))] AnyB := by
  refine PureOk_of (fn := Try.f43) (rs := [.tmp 2]) (n := 17) (hf := Try.func43) (hn := by kernel_rfl) (hb := rfl) (hr := rfl) (hN := rfl) (hargs := by simp) (ha := by simp [AV.bels, AV.bel]) (hrb := by rintro _ ⟨b, rfl⟩; simp [AV.bel, AV.bels]) (h := fun Z0 w0 => ?_)
  simp only [enumA, Nat.zero_add]
  refine Wps_seq ?_
  refine Wps_reg (T := []) trivial [0] rfl (by simp) fun K hK => ?_
  repeat
    (first | refine X0 rfl fun K1 hK1 => ?_ | refine X1 rfl rfl fun K1 hK1 => ?_)
    simp only [↓EP, EQ, implies_true, forall_const, tys, zoks, zeros, Nat.reduceEqDiff, Nat.reduceAdd, Nat.reduceLT, Nat.reduceLeDiff, reduceIte, reduceCtorEq]
    try simp (disch := omega) only [wrap64, wrapU64]
    repeat (first | refine And.intro cl ?_ | intro e)
    refine hK1 _ ?_
    clear hK1 K1
  refine XE ?_
  refine hK _ _ (by simp only [St.keep, keepL, at_cons, at_nil, Nat.reduceEqDiff, reduceIte, eq_self]; rfl) ?_
  clear hK K
  refine Wps_seq ?_
  refine Wps_reg (T := []) trivial [2] rfl (by simp) fun K hK => ?_
  repeat
    (first | refine X0 rfl fun K1 hK1 => ?_ | refine X1 rfl rfl fun K1 hK1 => ?_)
    simp only [↓EP, EQ, implies_true, forall_const, tys, zoks, zeros, Nat.reduceEqDiff, Nat.reduceAdd, Nat.reduceLT, Nat.reduceLeDiff, reduceIte, reduceCtorEq]
    try simp (disch := omega) only [wrap64, wrapU64]
    repeat (first | refine And.intro cl ?_ | intro e)
    refine hK1 _ ?_
    clear hK1 K1
  refine XE ?_
  refine hK _ _ (by simp only [St.keep, keepL, at_cons, at_nil, Nat.reduceEqDiff, reduceIte, eq_self]; rfl) ?_
  clear hK K
  refine Wps_ret ?_
  try simp only [Wps_nil, thenQ_normal, thenQ_exit, thenQ_ret, blkQ_normal, blkQ_ret, blkQ_if, blkQ_same, scQ_normal, scQ_ret, scQ_exit, Nat.reduceEqDiff, reduceIte, eq_self, reduceCtorEq, if_true, if_false]
  first | refine ret_pureQ rfl ?_ | refine ret_pureN rfl ?_
  simp only [retP, at_cons, at_nil, Nat.reduceEqDiff, reduceIte, eq_self, AV.use, retV, AV.bel, AV.bels, true_and, and_true]
  exact ⟨_, rfl⟩

def e43 : Ent
  | [.d (.raw (.int .u8 n))] => some (True, AnyB)
  | _ => none
theorem e43_ok : EntOk Try.prog 43 e43 := by
  intro args q post h
  unfold e43 at h
  split at h
  · simp only [Option.some.injEq, Prod.mk.injEq] at h
    obtain ⟨rfl, rfl⟩ := h
    exact ⟨⟨_, true, rfl⟩, fun h => f43_ok _⟩
  · simp at h

-- chartularyref06.four
theorem f44_ok (s : ByteArray) (hs : s.size ≤ 1048576) : PureOk Try.prog 44 [S s] AnyB := by
  refine PureOk_of (fn := Try.f44) (rs := [.tmp 2]) (n := 42) (hf := Try.func44) (hn := by kernel_rfl) (hb := rfl) (hr := rfl) (hN := rfl) (hargs := by simp) (ha := by simp [AV.bels, AV.bel]) (hrb := by rintro _ ⟨b, rfl⟩; simp [AV.bel, AV.bels]) (h := fun Z0 w0 => ?_)
  simp only [enumA, Nat.zero_add]
  refine Wps_seq ?_
  refine Wps_reg (T := []) trivial [0] rfl (by simp) fun K hK => ?_
  repeat
    (first | refine X0 rfl fun K1 hK1 => ?_ | refine X1 rfl rfl fun K1 hK1 => ?_)
    simp only [↓EP, EQ, implies_true, forall_const, tys, zoks, zeros, Nat.reduceEqDiff, Nat.reduceAdd, Nat.reduceLT, Nat.reduceLeDiff, reduceIte, reduceCtorEq]
    try simp (disch := omega) only [wrap64, wrapU64]
    repeat (first | refine And.intro cl ?_ | intro e)
    refine hK1 _ ?_
    clear hK1 K1
  refine XE ?_
  refine hK _ _ (by simp only [St.keep, keepL, at_cons, at_nil, Nat.reduceEqDiff, reduceIte, eq_self]; rfl) ?_
  clear hK K
  refine Wps_seq ?_
  refine Wps_reg (T := []) trivial [0, 3, 4] rfl (by simp) fun K hK => ?_
  repeat
    (first | refine X0 rfl fun K1 hK1 => ?_ | refine X1 rfl rfl fun K1 hK1 => ?_)
    simp only [↓EP, EQ, implies_true, forall_const, tys, zoks, zeros, Nat.reduceEqDiff, Nat.reduceAdd, Nat.reduceLT, Nat.reduceLeDiff, reduceIte, reduceCtorEq]
    try simp (disch := omega) only [wrap64, wrapU64]
    repeat (first | refine And.intro cl ?_ | intro e)
    refine hK1 _ ?_
    clear hK1 K1
  refine XE ?_
  refine hK _ _ (by simp only [St.keep, keepL, at_cons, at_nil, Nat.reduceEqDiff, reduceIte, eq_self]; rfl) ?_
  clear hK K
  refine Wps_seq ?_
  refine Wps_seq ?_
  refine Wps_reg (T := []) trivial [0, 3, 4, 5] rfl (by simp) fun K hK => ?_
  repeat
    (first | refine X0 rfl fun K1 hK1 => ?_ | refine X1 rfl rfl fun K1 hK1 => ?_)
    simp only [↓EP, EQ, implies_true, forall_const, tys, zoks, zeros, Nat.reduceEqDiff, Nat.reduceAdd, Nat.reduceLT, Nat.reduceLeDiff, reduceIte, reduceCtorEq]
    try simp (disch := omega) only [wrap64, wrapU64]
    repeat (first | refine And.intro cl ?_ | intro e)
    refine hK1 _ ?_
    clear hK1 K1
  refine XE ?_
  refine hK _ _ (by simp only [St.keep, keepL, at_cons, at_nil, Nat.reduceEqDiff, reduceIte, eq_self]; rfl) ?_
  clear hK K
  refine Wps_block ?_
  -- live at the head: [0, 3, 4, 5]
  refine Wps_loop (fun n_ st_ => ∃ (i : Nat), ∃ (p : Int), ∃ (d : Int), n_ = s.size - i ∧ (i ≤ s.size) ∧ st_ = ⟨[(0, _), (3, I p), (4, I d), (5, I i)], _⟩) _ ⟨0, 0, 0, rfl, (by simp), rfl⟩ (Wk.refl _) fun n_ st_ hI => ?_
  obtain ⟨i, p, d, rfl, hi0, rfl⟩ := hI
  refine Wps_seq ?_
  refine Wps_seq ?_
  refine Wps_reg (T := []) trivial [0, 3, 4, 5, 9] rfl (by simp) fun K hK => ?_
  repeat
    (first | refine X0 rfl fun K1 hK1 => ?_ | refine X1 rfl rfl fun K1 hK1 => ?_)
    simp only [↓EP, EQ, implies_true, forall_const, tys, zoks, zeros, Nat.reduceEqDiff, Nat.reduceAdd, Nat.reduceLT, Nat.reduceLeDiff, reduceIte, reduceCtorEq]
    try simp (disch := omega) only [wrap64, wrapU64]
    repeat (first | refine And.intro cl ?_ | intro e)
    refine hK1 _ ?_
    clear hK1 K1
  refine XE ?_
  refine hK _ _ (by simp only [St.keep, keepL, at_cons, at_nil, Nat.reduceEqDiff, reduceIte, eq_self]; rfl) ?_
  clear hK K
  refine Wps_cond rfl (fun hc1 => ?_) (fun hc1 => ?_)
  · try simp only [decide_eq_true_eq, decide_eq_false_iff_not, Bool.not_eq_true', Bool.not_eq_false', Int.not_lt, Int.not_le, ge_iff_le, gt_iff_lt, Bool.or_eq_false_iff, Bool.or_eq_true, Bool.and_eq_true, Bool.and_eq_false_imp, beq_iff_eq, beq_eq_false_iff_ne, ne_eq, bne_iff_ne, bne_eq_false_iff_eq] at hc1
    refine Wps_skip ?_
    refine Wps_seq ?_
    refine Wps_block ?_
    refine Wps_seq ?_
    refine Wps_seq ?_
    refine Wps_reg (T := []) trivial [0, 3, 4, 5, 15] rfl (by simp) fun K hK => ?_
    repeat
      (first | refine X0 rfl fun K1 hK1 => ?_ | refine X1 rfl rfl fun K1 hK1 => ?_)
      simp only [↓EP, EQ, implies_true, forall_const, tys, zoks, zeros, Nat.reduceEqDiff, Nat.reduceAdd, Nat.reduceLT, Nat.reduceLeDiff, reduceIte, reduceCtorEq]
      try simp (disch := omega) only [wrap64, wrapU64]
      repeat (first | refine And.intro cl ?_ | intro e)
      refine hK1 _ ?_
      clear hK1 K1
    refine XE ?_
    refine hK _ _ (by simp only [St.keep, keepL, at_cons, at_nil, Nat.reduceEqDiff, reduceIte, eq_self]; rfl) ?_
    clear hK K
    refine Wps_cond rfl (fun hc2 => ?_) (fun hc2 => ?_)
    · try simp only [decide_eq_true_eq, decide_eq_false_iff_not, Bool.not_eq_true', Bool.not_eq_false', Int.not_lt, Int.not_le, ge_iff_le, gt_iff_lt, Bool.or_eq_false_iff, Bool.or_eq_true, Bool.and_eq_true, Bool.and_eq_false_imp, beq_iff_eq, beq_eq_false_iff_ne, ne_eq, bne_iff_ne, bne_eq_false_iff_eq] at hc2
      refine Wps_seq ?_
      refine Wps_seq ?_
      refine Wps_reg (T := []) trivial [0, 3, 5, 17] rfl (by simp) fun K hK => ?_
      repeat
        (first | refine X0 rfl fun K1 hK1 => ?_ | refine X1 rfl rfl fun K1 hK1 => ?_)
        simp only [↓EP, EQ, implies_true, forall_const, tys, zoks, zeros, Nat.reduceEqDiff, Nat.reduceAdd, Nat.reduceLT, Nat.reduceLeDiff, reduceIte, reduceCtorEq]
        try simp (disch := omega) only [wrap64, wrapU64]
        repeat (first | refine And.intro cl ?_ | intro e)
        refine hK1 _ ?_
        clear hK1 K1
      refine XE ?_
      refine hK _ _ (by simp only [St.keep, keepL, at_cons, at_nil, Nat.reduceEqDiff, reduceIte, eq_self]; rfl) ?_
      clear hK K
      refine Wps_cond rfl (fun hc3 => ?_) (fun hc3 => ?_)
      · try simp only [decide_eq_true_eq, decide_eq_false_iff_not, Bool.not_eq_true', Bool.not_eq_false', Int.not_lt, Int.not_le, ge_iff_le, gt_iff_lt, Bool.or_eq_false_iff, Bool.or_eq_true, Bool.and_eq_true, Bool.and_eq_false_imp, beq_iff_eq, beq_eq_false_iff_ne, ne_eq, bne_iff_ne, bne_eq_false_iff_eq] at hc3
        refine Wps_seq ?_
        refine Wps_reg (T := []) trivial [2] rfl (by simp) fun K hK => ?_
        repeat
          (first | refine X0 rfl fun K1 hK1 => ?_ | refine X1 rfl rfl fun K1 hK1 => ?_)
          simp only [↓EP, EQ, implies_true, forall_const, tys, zoks, zeros, Nat.reduceEqDiff, Nat.reduceAdd, Nat.reduceLT, Nat.reduceLeDiff, reduceIte, reduceCtorEq]
          try simp (disch := omega) only [wrap64, wrapU64]
          repeat (first | refine And.intro cl ?_ | intro e)
          refine hK1 _ ?_
          clear hK1 K1
        refine XE ?_
        refine hK _ _ (by simp only [St.keep, keepL, at_cons, at_nil, Nat.reduceEqDiff, reduceIte, eq_self]; rfl) ?_
        clear hK K
        refine Wps_ret ?_
        try simp only [Wps_nil, thenQ_normal, thenQ_exit, thenQ_ret, blkQ_normal, blkQ_ret, blkQ_if, blkQ_same, scQ_normal, scQ_ret, scQ_exit, Nat.reduceEqDiff, reduceIte, eq_self, reduceCtorEq, if_true, if_false]
        first | refine ret_pureQ rfl ?_ | refine ret_pureN rfl ?_
        simp only [retP, at_cons, at_nil, Nat.reduceEqDiff, reduceIte, eq_self, AV.use, retV, AV.bel, AV.bels, true_and, and_true]
        exact ⟨_, rfl⟩
      · try simp only [decide_eq_true_eq, decide_eq_false_iff_not, Bool.not_eq_true', Bool.not_eq_false', Int.not_lt, Int.not_le, ge_iff_le, gt_iff_lt, Bool.or_eq_false_iff, Bool.or_eq_true, Bool.and_eq_true, Bool.and_eq_false_imp, beq_iff_eq, beq_eq_false_iff_ne, ne_eq, bne_iff_ne, bne_eq_false_iff_eq] at hc3
        refine Wps_skip ?_
        refine Wps_seq ?_
        refine Wps_reg (T := []) trivial [0, 3, 5] rfl (by simp) fun K hK => ?_
        repeat
          (first | refine X0 rfl fun K1 hK1 => ?_ | refine X1 rfl rfl fun K1 hK1 => ?_)
          simp only [↓EP, EQ, implies_true, forall_const, tys, zoks, zeros, Nat.reduceEqDiff, Nat.reduceAdd, Nat.reduceLT, Nat.reduceLeDiff, reduceIte, reduceCtorEq]
          try simp (disch := omega) only [wrap64, wrapU64]
          repeat (first | refine And.intro cl ?_ | intro e)
          refine hK1 _ ?_
          clear hK1 K1
        refine XE ?_
        refine hK _ _ (by simp only [St.keep, keepL, at_cons, at_nil, Nat.reduceEqDiff, reduceIte, eq_self]; rfl) ?_
        clear hK K
        refine Wps_seq ?_
        refine Wps_reg (T := []) trivial [0, 3, 4, 5] rfl (by simp) fun K hK => ?_
        repeat
          (first | refine X0 rfl fun K1 hK1 => ?_ | refine X1 rfl rfl fun K1 hK1 => ?_)
          simp only [↓EP, EQ, implies_true, forall_const, tys, zoks, zeros, Nat.reduceEqDiff, Nat.reduceAdd, Nat.reduceLT, Nat.reduceLeDiff, reduceIte, reduceCtorEq]
          try simp (disch := omega) only [wrap64, wrapU64]
          repeat (first | refine And.intro cl ?_ | intro e)
          refine hK1 _ ?_
          clear hK1 K1
        refine XE ?_
        refine hK _ _ (by simp only [St.keep, keepL, at_cons, at_nil, Nat.reduceEqDiff, reduceIte, eq_self]; rfl) ?_
        clear hK K
        refine Wps_exit ?_
        simp only [Wps_nil, thenQ_normal, thenQ_exit, thenQ_ret, blkQ_normal, blkQ_ret, blkQ_if, blkQ_same, scQ_normal, scQ_ret, scQ_exit, Nat.reduceEqDiff, reduceIte, eq_self, reduceCtorEq, if_true, if_false]
        refine Wps_regionX' (T := []) trivial rfl fun K hK => ?_
        repeat
          (first | refine X0 rfl fun K1 hK1 => ?_ | refine X1 rfl rfl fun K1 hK1 => ?_)
          simp only [↓EP, EQ, implies_true, forall_const, tys, zoks, zeros, Nat.reduceEqDiff, Nat.reduceAdd, Nat.reduceLT, Nat.reduceLeDiff, reduceIte, reduceCtorEq]
          try simp (disch := omega) only [wrap64, wrapU64]
          repeat (first | refine And.intro cl ?_ | intro e)
          refine hK1 _ ?_
          clear hK1 K1
        refine XE ?_
        refine hK _ ?_
        clear hK K
        simp only [Wps_nil, thenQ_normal, thenQ_exit, thenQ_ret, blkQ_normal, blkQ_ret, blkQ_if, blkQ_same, scQ_normal, scQ_ret, scQ_exit, Nat.reduceEqDiff, reduceIte, eq_self, reduceCtorEq, if_true, if_false]
        refine ⟨_, _, ?h1, ⟨i + 1, ?w1_1, ?w1_2, rfl, (by omega), ?h2⟩, Wk_keep [0, 3, 4, 5]⟩
        case h2 =>
          simp only [St.keep, keepL, at_cons, at_nil, Nat.reduceEqDiff, reduceIte, eq_self]
          first | rfl | (apply St_eq <;> first | rfl | (simp; done)) | (rw [wrapS (i := i) (by omega)]; first | rfl | (apply St_eq <;> first | rfl | (simp; done)))
        case h1 => omega
    · try simp only [decide_eq_true_eq, decide_eq_false_iff_not, Bool.not_eq_true', Bool.not_eq_false', Int.not_lt, Int.not_le, ge_iff_le, gt_iff_lt, Bool.or_eq_false_iff, Bool.or_eq_true, Bool.and_eq_true, Bool.and_eq_false_imp, beq_iff_eq, beq_eq_false_iff_ne, ne_eq, bne_iff_ne, bne_eq_false_iff_eq] at hc2
      refine Wps_skip ?_
      refine Wps_seq ?_
      refine Wps_reg (T := []) trivial [0, 3, 4, 5] rfl (by simp) fun K hK => ?_
      repeat
        (first | refine X0 rfl fun K1 hK1 => ?_ | refine X1 rfl rfl fun K1 hK1 => ?_)
        simp only [↓EP, EQ, implies_true, forall_const, tys, zoks, zeros, Nat.reduceEqDiff, Nat.reduceAdd, Nat.reduceLT, Nat.reduceLeDiff, reduceIte, reduceCtorEq]
        try simp (disch := omega) only [wrap64, wrapU64]
        repeat (first | refine And.intro cl ?_ | intro e)
        refine hK1 _ ?_
        clear hK1 K1
      refine XE ?_
      refine hK _ _ (by simp only [St.keep, keepL, at_cons, at_nil, Nat.reduceEqDiff, reduceIte, eq_self]; rfl) ?_
      clear hK K
      refine Wps_seq ?_
      refine Wps_reg (T := []) trivial [0, 3, 4, 5, 35] rfl (by simp) fun K hK => ?_
      repeat
        (first | refine X0 rfl fun K1 hK1 => ?_ | refine X1 rfl rfl fun K1 hK1 => ?_)
        simp only [↓EP, EQ, implies_true, forall_const, tys, zoks, zeros, Nat.reduceEqDiff, Nat.reduceAdd, Nat.reduceLT, Nat.reduceLeDiff, reduceIte, reduceCtorEq]
        try simp (disch := omega) only [wrap64, wrapU64]
        repeat (first | refine And.intro cl ?_ | intro e)
        refine hK1 _ ?_
        clear hK1 K1
      refine XE ?_
      refine hK _ _ (by simp only [St.keep, keepL, at_cons, at_nil, Nat.reduceEqDiff, reduceIte, eq_self]; rfl) ?_
      clear hK K
      refine Wps_cond rfl (fun hc4 => ?_) (fun hc4 => ?_)
      · try simp only [decide_eq_true_eq, decide_eq_false_iff_not, Bool.not_eq_true', Bool.not_eq_false', Int.not_lt, Int.not_le, ge_iff_le, gt_iff_lt, Bool.or_eq_false_iff, Bool.or_eq_true, Bool.and_eq_true, Bool.and_eq_false_imp, beq_iff_eq, beq_eq_false_iff_ne, ne_eq, bne_iff_ne, bne_eq_false_iff_eq] at hc4
        refine Wps_seq ?_
        refine Wps_reg (T := []) trivial [2] rfl (by simp) fun K hK => ?_
        repeat
          (first | refine X0 rfl fun K1 hK1 => ?_ | refine X1 rfl rfl fun K1 hK1 => ?_)
          simp only [↓EP, EQ, implies_true, forall_const, tys, zoks, zeros, Nat.reduceEqDiff, Nat.reduceAdd, Nat.reduceLT, Nat.reduceLeDiff, reduceIte, reduceCtorEq]
          try simp (disch := omega) only [wrap64, wrapU64]
          repeat (first | refine And.intro cl ?_ | intro e)
          refine hK1 _ ?_
          clear hK1 K1
        refine XE ?_
        refine hK _ _ (by simp only [St.keep, keepL, at_cons, at_nil, Nat.reduceEqDiff, reduceIte, eq_self]; rfl) ?_
        clear hK K
        refine Wps_ret ?_
        try simp only [Wps_nil, thenQ_normal, thenQ_exit, thenQ_ret, blkQ_normal, blkQ_ret, blkQ_if, blkQ_same, scQ_normal, scQ_ret, scQ_exit, Nat.reduceEqDiff, reduceIte, eq_self, reduceCtorEq, if_true, if_false]
        first | refine ret_pureQ rfl ?_ | refine ret_pureN rfl ?_
        simp only [retP, at_cons, at_nil, Nat.reduceEqDiff, reduceIte, eq_self, AV.use, retV, AV.bel, AV.bels, true_and, and_true]
        exact ⟨_, rfl⟩
      · try simp only [decide_eq_true_eq, decide_eq_false_iff_not, Bool.not_eq_true', Bool.not_eq_false', Int.not_lt, Int.not_le, ge_iff_le, gt_iff_lt, Bool.or_eq_false_iff, Bool.or_eq_true, Bool.and_eq_true, Bool.and_eq_false_imp, beq_iff_eq, beq_eq_false_iff_ne, ne_eq, bne_iff_ne, bne_eq_false_iff_eq] at hc4
        refine Wps_skip ?_
        simp only [Wps_nil, thenQ_normal, thenQ_exit, thenQ_ret, blkQ_normal, blkQ_ret, blkQ_if, blkQ_same, scQ_normal, scQ_ret, scQ_exit, Nat.reduceEqDiff, reduceIte, eq_self, reduceCtorEq, if_true, if_false]
        refine Wps_regionX' (T := []) trivial rfl fun K hK => ?_
        repeat
          (first | refine X0 rfl fun K1 hK1 => ?_ | refine X1 rfl rfl fun K1 hK1 => ?_)
          simp only [↓EP, EQ, implies_true, forall_const, tys, zoks, zeros, Nat.reduceEqDiff, Nat.reduceAdd, Nat.reduceLT, Nat.reduceLeDiff, reduceIte, reduceCtorEq]
          try simp (disch := omega) only [wrap64, wrapU64]
          repeat (first | refine And.intro cl ?_ | intro e)
          refine hK1 _ ?_
          clear hK1 K1
        refine XE ?_
        refine hK _ ?_
        clear hK K
        simp only [Wps_nil, thenQ_normal, thenQ_exit, thenQ_ret, blkQ_normal, blkQ_ret, blkQ_if, blkQ_same, scQ_normal, scQ_ret, scQ_exit, Nat.reduceEqDiff, reduceIte, eq_self, reduceCtorEq, if_true, if_false]
        refine ⟨_, _, ?h1, ⟨i + 1, ?w2_1, ?w2_2, rfl, (by omega), ?h2⟩, Wk_keep [0, 3, 4, 5]⟩
        case h2 =>
          simp only [St.keep, keepL, at_cons, at_nil, Nat.reduceEqDiff, reduceIte, eq_self]
          first | rfl | (apply St_eq <;> first | rfl | (simp; done)) | (rw [wrapS (i := i) (by omega)]; first | rfl | (apply St_eq <;> first | rfl | (simp; done)))
        case h1 => omega
  · try simp only [decide_eq_true_eq, decide_eq_false_iff_not, Bool.not_eq_true', Bool.not_eq_false', Int.not_lt, Int.not_le, ge_iff_le, gt_iff_lt, Bool.or_eq_false_iff, Bool.or_eq_true, Bool.and_eq_true, Bool.and_eq_false_imp, beq_iff_eq, beq_eq_false_iff_ne, ne_eq, bne_iff_ne, bne_eq_false_iff_eq] at hc1
    refine Wps_exit ?_
    simp only [Wps_nil, thenQ_normal, thenQ_exit, thenQ_ret, blkQ_normal, blkQ_ret, blkQ_if, blkQ_same, scQ_normal, scQ_ret, scQ_exit, Nat.reduceEqDiff, reduceIte, eq_self, reduceCtorEq, if_true, if_false]
    refine Wps_seq ?_
    refine Wps_reg (T := []) trivial [2] rfl (by simp) fun K hK => ?_
    repeat
      (first | refine X0 rfl fun K1 hK1 => ?_ | refine X1 rfl rfl fun K1 hK1 => ?_)
      simp only [↓EP, EQ, implies_true, forall_const, tys, zoks, zeros, Nat.reduceEqDiff, Nat.reduceAdd, Nat.reduceLT, Nat.reduceLeDiff, reduceIte, reduceCtorEq]
      try simp (disch := omega) only [wrap64, wrapU64]
      repeat (first | refine And.intro cl ?_ | intro e)
      refine hK1 _ ?_
      clear hK1 K1
    refine XE ?_
    refine hK _ _ (by simp only [St.keep, keepL, at_cons, at_nil, Nat.reduceEqDiff, reduceIte, eq_self]; rfl) ?_
    clear hK K
    refine Wps_ret ?_
    try simp only [Wps_nil, thenQ_normal, thenQ_exit, thenQ_ret, blkQ_normal, blkQ_ret, blkQ_if, blkQ_same, scQ_normal, scQ_ret, scQ_exit, Nat.reduceEqDiff, reduceIte, eq_self, reduceCtorEq, if_true, if_false]
    first | refine ret_pureQ rfl ?_ | refine ret_pureN rfl ?_
    simp only [retP, at_cons, at_nil, Nat.reduceEqDiff, reduceIte, eq_self, AV.use, retV, AV.bel, AV.bels, true_and, and_true]
    exact ⟨_, rfl⟩

def e44 : Ent
  | [.d (.raw (.string s))] => some (s.size ≤ 1048576, AnyB)
  | _ => none
theorem e44_ok : EntOk Try.prog 44 e44 := by
  intro args q post h
  unfold e44 at h
  split at h
  · simp only [Option.some.injEq, Prod.mk.injEq] at h
    obtain ⟨rfl, rfl⟩ := h
    exact ⟨⟨_, true, rfl⟩, fun h => f44_ok _ h⟩
  · simp at h

-- chartularyref06.Bucket
theorem f31_ok (s : ByteArray) (hs : s.size ≤ 1048576) : PureOk Try.prog 31 [S s] AnyB := by
  refine PureOk_of (fn := Try.f31) (rs := [.tmp 2]) (n := 85) (hf := Try.func31) (hn := by kernel_rfl) (hb := rfl) (hr := rfl) (hN := rfl) (hargs := by simp) (ha := by simp [AV.bels, AV.bel]) (hrb := by rintro _ ⟨b, rfl⟩; simp [AV.bel, AV.bels]) (h := fun Z0 w0 => ?_)
  simp only [enumA, Nat.zero_add]
  refine Wps_seq ?_
  refine Wps_reg (T := [(43, e43), (44, e44)]) ⟨e43_ok, e44_ok, trivial⟩ [0] rfl (by simp) fun K hK => ?_
  repeat
    (first | refine X0 rfl fun K1 hK1 => ?_ | refine X1 rfl rfl fun K1 hK1 => ?_)
    simp only [↓EP, EQ, implies_true, forall_const, tys, zoks, zeros, Nat.reduceEqDiff, Nat.reduceAdd, Nat.reduceLT, Nat.reduceLeDiff, reduceIte, reduceCtorEq, e43, e44]
    try simp (disch := omega) only [wrap64, wrapU64]
    repeat (first | refine And.intro (by clear hK1 hK; first | omega | (simp; done) | (simp only [Bool.not_eq_true', Bool.or_eq_false_iff, Bool.and_eq_true, decide_eq_false_iff_not, decide_eq_true_eq]; intro h; rw [wrap64 (by omega) (by omega)]; simp_all; omega) | (simp_all; done) | (simp_all; omega)) ?_ | intro e)
    refine hK1 _ ?_
    clear hK1 K1
  refine XE ?_
  refine hK _ _ (by simp only [St.keep, keepL, at_cons, at_nil, Nat.reduceEqDiff, reduceIte, eq_self]; rfl) ?_
  clear hK K
  refine Wps_seq ?_
  refine Wps_seq ?_
  refine Wps_reg (T := [(43, e43), (44, e44)]) ⟨e43_ok, e44_ok, trivial⟩ [0, 30] rfl (by simp) fun K hK => ?_
  repeat
    (first | refine X0 rfl fun K1 hK1 => ?_ | refine X1 rfl rfl fun K1 hK1 => ?_)
    simp only [↓EP, EQ, implies_true, forall_const, tys, zoks, zeros, Nat.reduceEqDiff, Nat.reduceAdd, Nat.reduceLT, Nat.reduceLeDiff, reduceIte, reduceCtorEq, e43, e44]
    try simp (disch := omega) only [wrap64, wrapU64]
    repeat (first | refine And.intro (by clear hK1 hK; first | omega | (simp; done) | (simp only [Bool.not_eq_true', Bool.or_eq_false_iff, Bool.and_eq_true, decide_eq_false_iff_not, decide_eq_true_eq]; intro h; rw [wrap64 (by omega) (by omega)]; simp_all; omega) | (simp_all; done) | (simp_all; omega)) ?_ | intro e)
    refine hK1 _ ?_
    clear hK1 K1
  refine XE ?_
  refine hK _ _ (by simp only [St.keep, keepL, at_cons, at_nil, Nat.reduceEqDiff, reduceIte, eq_self]; rfl) ?_
  clear hK K
  refine Wps_cond rfl (fun hc1 => ?_) (fun hc1 => ?_)
  · try simp only [decide_eq_true_eq, decide_eq_false_iff_not, Bool.not_eq_true', Bool.not_eq_false', Int.not_lt, Int.not_le, ge_iff_le, gt_iff_lt, Bool.or_eq_false_iff, Bool.or_eq_true, Bool.and_eq_true, Bool.and_eq_false_imp, beq_iff_eq, beq_eq_false_iff_ne, ne_eq, bne_iff_ne, bne_eq_false_iff_eq] at hc1
    refine Wps_seq ?_
    refine Wps_reg (T := [(43, e43), (44, e44)]) ⟨e43_ok, e44_ok, trivial⟩ [2] rfl (by simp) fun K hK => ?_
    repeat
      (first | refine X0 rfl fun K1 hK1 => ?_ | refine X1 rfl rfl fun K1 hK1 => ?_)
      simp only [↓EP, EQ, implies_true, forall_const, tys, zoks, zeros, Nat.reduceEqDiff, Nat.reduceAdd, Nat.reduceLT, Nat.reduceLeDiff, reduceIte, reduceCtorEq, e43, e44]
      try simp (disch := omega) only [wrap64, wrapU64]
      repeat (first | refine And.intro (by clear hK1 hK; first | omega | (simp; done) | (simp only [Bool.not_eq_true', Bool.or_eq_false_iff, Bool.and_eq_true, decide_eq_false_iff_not, decide_eq_true_eq]; intro h; rw [wrap64 (by omega) (by omega)]; simp_all; omega) | (simp_all; done) | (simp_all; omega)) ?_ | intro e)
      refine hK1 _ ?_
      clear hK1 K1
    refine XE ?_
    refine hK _ _ (by simp only [St.keep, keepL, at_cons, at_nil, Nat.reduceEqDiff, reduceIte, eq_self]; rfl) ?_
    clear hK K
    refine Wps_ret ?_
    try simp only [Wps_nil, thenQ_normal, thenQ_exit, thenQ_ret, blkQ_normal, blkQ_ret, blkQ_if, blkQ_same, scQ_normal, scQ_ret, scQ_exit, Nat.reduceEqDiff, reduceIte, eq_self, reduceCtorEq, if_true, if_false]
    first | refine ret_pureQ rfl ?_ | refine ret_pureN rfl ?_
    simp only [retP, at_cons, at_nil, Nat.reduceEqDiff, reduceIte, eq_self, AV.use, retV, AV.bel, AV.bels, true_and, and_true]
    exact ⟨_, rfl⟩
  · try simp only [decide_eq_true_eq, decide_eq_false_iff_not, Bool.not_eq_true', Bool.not_eq_false', Int.not_lt, Int.not_le, ge_iff_le, gt_iff_lt, Bool.or_eq_false_iff, Bool.or_eq_true, Bool.and_eq_true, Bool.and_eq_false_imp, beq_iff_eq, beq_eq_false_iff_ne, ne_eq, bne_iff_ne, bne_eq_false_iff_eq] at hc1
    refine Wps_skip ?_
    refine Wps_seq ?_
    refine Wps_seq ?_
    refine Wps_reg (T := [(43, e43), (44, e44)]) ⟨e43_ok, e44_ok, trivial⟩ [0, 3] rfl (by simp) fun K hK => ?_
    repeat
      (first | refine X0 rfl fun K1 hK1 => ?_ | refine X1 rfl rfl fun K1 hK1 => ?_)
      simp only [↓EP, EQ, implies_true, forall_const, tys, zoks, zeros, Nat.reduceEqDiff, Nat.reduceAdd, Nat.reduceLT, Nat.reduceLeDiff, reduceIte, reduceCtorEq, e43, e44]
      try simp (disch := omega) only [wrap64, wrapU64]
      repeat (first | refine And.intro (by clear hK1 hK; first | omega | (simp; done) | (simp only [Bool.not_eq_true', Bool.or_eq_false_iff, Bool.and_eq_true, decide_eq_false_iff_not, decide_eq_true_eq]; intro h; rw [wrap64 (by omega) (by omega)]; simp_all; omega) | (simp_all; done) | (simp_all; omega)) ?_ | intro e)
      refine hK1 _ ?_
      clear hK1 K1
    refine XE ?_
    refine hK _ _ (by simp only [St.keep, keepL, at_cons, at_nil, Nat.reduceEqDiff, reduceIte, eq_self]; rfl) ?_
    clear hK K
    refine Wps_block ?_
    -- live at the head: [0, 3]
    refine Wps_loop (fun n_ st_ => ∃ (i : Nat), n_ = s.size - i ∧ (i ≤ s.size) ∧ st_ = ⟨[(0, _), (3, I i)], _⟩) _ ⟨0, rfl, (by simp), rfl⟩ (Wk.refl _) fun n_ st_ hI => ?_
    obtain ⟨i, rfl, hi0, rfl⟩ := hI
    refine Wps_seq ?_
    refine Wps_seq ?_
    refine Wps_reg (T := [(43, e43), (44, e44)]) ⟨e43_ok, e44_ok, trivial⟩ [0, 3, 34] rfl (by simp) fun K hK => ?_
    repeat
      (first | refine X0 rfl fun K1 hK1 => ?_ | refine X1 rfl rfl fun K1 hK1 => ?_)
      simp only [↓EP, EQ, implies_true, forall_const, tys, zoks, zeros, Nat.reduceEqDiff, Nat.reduceAdd, Nat.reduceLT, Nat.reduceLeDiff, reduceIte, reduceCtorEq, e43, e44]
      try simp (disch := omega) only [wrap64, wrapU64]
      repeat (first | refine And.intro (by clear hK1 hK; first | omega | (simp; done) | (simp only [Bool.not_eq_true', Bool.or_eq_false_iff, Bool.and_eq_true, decide_eq_false_iff_not, decide_eq_true_eq]; intro h; rw [wrap64 (by omega) (by omega)]; simp_all; omega) | (simp_all; done) | (simp_all; omega)) ?_ | intro e)
      refine hK1 _ ?_
      clear hK1 K1
    refine XE ?_
    refine hK _ _ (by simp only [St.keep, keepL, at_cons, at_nil, Nat.reduceEqDiff, reduceIte, eq_self]; rfl) ?_
    clear hK K
    refine Wps_cond rfl (fun hc2 => ?_) (fun hc2 => ?_)
    · try simp only [decide_eq_true_eq, decide_eq_false_iff_not, Bool.not_eq_true', Bool.not_eq_false', Int.not_lt, Int.not_le, ge_iff_le, gt_iff_lt, Bool.or_eq_false_iff, Bool.or_eq_true, Bool.and_eq_true, Bool.and_eq_false_imp, beq_iff_eq, beq_eq_false_iff_ne, ne_eq, bne_iff_ne, bne_eq_false_iff_eq] at hc2
      refine Wps_skip ?_
      refine Wps_seq ?_
      refine Wps_block ?_
      refine Wps_seq ?_
      refine Wps_seq ?_
      refine Wps_reg (T := [(43, e43), (44, e44)]) ⟨e43_ok, e44_ok, trivial⟩ [0, 3, 53] rfl (by simp) fun K hK => ?_
      repeat
        (first | refine X0 rfl fun K1 hK1 => ?_ | refine X1 rfl rfl fun K1 hK1 => ?_)
        simp only [↓EP, EQ, implies_true, forall_const, tys, zoks, zeros, Nat.reduceEqDiff, Nat.reduceAdd, Nat.reduceLT, Nat.reduceLeDiff, reduceIte, reduceCtorEq, e43, e44]
        try simp (disch := omega) only [wrap64, wrapU64]
        repeat (first | refine And.intro (by clear hK1 hK; first | omega | (simp; done) | (simp only [Bool.not_eq_true', Bool.or_eq_false_iff, Bool.and_eq_true, decide_eq_false_iff_not, decide_eq_true_eq]; intro h; rw [wrap64 (by omega) (by omega)]; simp_all; omega) | (simp_all; done) | (simp_all; omega)) ?_ | intro e)
        refine hK1 _ ?_
        clear hK1 K1
      refine XE ?_
      refine hK _ _ (by simp only [St.keep, keepL, at_cons, at_nil, Nat.reduceEqDiff, reduceIte, eq_self]; rfl) ?_
      clear hK K
      refine Wps_cond rfl (fun hc3 => ?_) (fun hc3 => ?_)
      · try simp only [decide_eq_true_eq, decide_eq_false_iff_not, Bool.not_eq_true', Bool.not_eq_false', Int.not_lt, Int.not_le, ge_iff_le, gt_iff_lt, Bool.or_eq_false_iff, Bool.or_eq_true, Bool.and_eq_true, Bool.and_eq_false_imp, beq_iff_eq, beq_eq_false_iff_ne, ne_eq, bne_iff_ne, bne_eq_false_iff_eq] at hc3
        refine Wps_seq ?_
        refine Wps_reg (T := [(43, e43), (44, e44)]) ⟨e43_ok, e44_ok, trivial⟩ [2] rfl (by simp) fun K hK => ?_
        repeat
          (first | refine X0 rfl fun K1 hK1 => ?_ | refine X1 rfl rfl fun K1 hK1 => ?_)
          simp only [↓EP, EQ, implies_true, forall_const, tys, zoks, zeros, Nat.reduceEqDiff, Nat.reduceAdd, Nat.reduceLT, Nat.reduceLeDiff, reduceIte, reduceCtorEq, e43, e44]
          try simp (disch := omega) only [wrap64, wrapU64]
          repeat (first | refine And.intro (by clear hK1 hK; first | omega | (simp; done) | (simp only [Bool.not_eq_true', Bool.or_eq_false_iff, Bool.and_eq_true, decide_eq_false_iff_not, decide_eq_true_eq]; intro h; rw [wrap64 (by omega) (by omega)]; simp_all; omega) | (simp_all; done) | (simp_all; omega)) ?_ | intro e)
          refine hK1 _ ?_
          clear hK1 K1
        refine XE ?_
        refine hK _ _ (by simp only [St.keep, keepL, at_cons, at_nil, Nat.reduceEqDiff, reduceIte, eq_self]; rfl) ?_
        clear hK K
        refine Wps_ret ?_
        try simp only [Wps_nil, thenQ_normal, thenQ_exit, thenQ_ret, blkQ_normal, blkQ_ret, blkQ_if, blkQ_same, scQ_normal, scQ_ret, scQ_exit, Nat.reduceEqDiff, reduceIte, eq_self, reduceCtorEq, if_true, if_false]
        first | refine ret_pureQ rfl ?_ | refine ret_pureN rfl ?_
        simp only [retP, at_cons, at_nil, Nat.reduceEqDiff, reduceIte, eq_self, AV.use, retV, AV.bel, AV.bels, true_and, and_true]
        exact ⟨_, rfl⟩
      · try simp only [decide_eq_true_eq, decide_eq_false_iff_not, Bool.not_eq_true', Bool.not_eq_false', Int.not_lt, Int.not_le, ge_iff_le, gt_iff_lt, Bool.or_eq_false_iff, Bool.or_eq_true, Bool.and_eq_true, Bool.and_eq_false_imp, beq_iff_eq, beq_eq_false_iff_ne, ne_eq, bne_iff_ne, bne_eq_false_iff_eq] at hc3
        refine Wps_skip ?_
        refine Wps_seq ?_
        refine Wps_reg (T := [(43, e43), (44, e44)]) ⟨e43_ok, e44_ok, trivial⟩ [0, 3, 84] rfl (by simp) fun K hK => ?_
        repeat
          (first | refine X0 rfl fun K1 hK1 => ?_ | refine X1 rfl rfl fun K1 hK1 => ?_)
          simp only [↓EP, EQ, implies_true, forall_const, tys, zoks, zeros, Nat.reduceEqDiff, Nat.reduceAdd, Nat.reduceLT, Nat.reduceLeDiff, reduceIte, reduceCtorEq, e43, e44]
          try simp (disch := omega) only [wrap64, wrapU64]
          repeat (first | refine And.intro (by clear hK1 hK; first | omega | (simp; done) | (simp only [Bool.not_eq_true', Bool.or_eq_false_iff, Bool.and_eq_true, decide_eq_false_iff_not, decide_eq_true_eq]; intro h; rw [wrap64 (by omega) (by omega)]; simp_all; omega) | (simp_all; done) | (simp_all; omega)) ?_ | intro e)
          refine hK1 _ ?_
          clear hK1 K1
        refine XE ?_
        refine hK _ _ (by simp only [St.keep, keepL, at_cons, at_nil, Nat.reduceEqDiff, reduceIte, eq_self]; rfl) ?_
        clear hK K
        refine Wps_cond rfl (fun hc4 => ?_) (fun hc4 => ?_)
        · try simp only [decide_eq_true_eq, decide_eq_false_iff_not, Bool.not_eq_true', Bool.not_eq_false', Int.not_lt, Int.not_le, ge_iff_le, gt_iff_lt, Bool.or_eq_false_iff, Bool.or_eq_true, Bool.and_eq_true, Bool.and_eq_false_imp, beq_iff_eq, beq_eq_false_iff_ne, ne_eq, bne_iff_ne, bne_eq_false_iff_eq] at hc4
          refine Wps_seq ?_
          refine Wps_reg (T := [(43, e43), (44, e44)]) ⟨e43_ok, e44_ok, trivial⟩ [2] rfl (by simp) fun K hK => ?_
          repeat
            (first | refine X0 rfl fun K1 hK1 => ?_ | refine X1 rfl rfl fun K1 hK1 => ?_)
            simp only [↓EP, EQ, implies_true, forall_const, tys, zoks, zeros, Nat.reduceEqDiff, Nat.reduceAdd, Nat.reduceLT, Nat.reduceLeDiff, reduceIte, reduceCtorEq, e43, e44]
            try simp (disch := omega) only [wrap64, wrapU64]
            repeat (first | refine And.intro (by clear hK1 hK; first | omega | (simp; done) | (simp only [Bool.not_eq_true', Bool.or_eq_false_iff, Bool.and_eq_true, decide_eq_false_iff_not, decide_eq_true_eq]; intro h; rw [wrap64 (by omega) (by omega)]; simp_all; omega) | (simp_all; done) | (simp_all; omega)) ?_ | intro e)
            refine hK1 _ ?_
            clear hK1 K1
          refine XE ?_
          refine hK _ _ (by simp only [St.keep, keepL, at_cons, at_nil, Nat.reduceEqDiff, reduceIte, eq_self]; rfl) ?_
          clear hK K
          refine Wps_ret ?_
          try simp only [Wps_nil, thenQ_normal, thenQ_exit, thenQ_ret, blkQ_normal, blkQ_ret, blkQ_if, blkQ_same, scQ_normal, scQ_ret, scQ_exit, Nat.reduceEqDiff, reduceIte, eq_self, reduceCtorEq, if_true, if_false]
          first | refine ret_pureQ rfl ?_ | refine ret_pureN rfl ?_
          simp only [retP, at_cons, at_nil, Nat.reduceEqDiff, reduceIte, eq_self, AV.use, retV, AV.bel, AV.bels, true_and, and_true]
          exact ⟨_, rfl⟩
        · try simp only [decide_eq_true_eq, decide_eq_false_iff_not, Bool.not_eq_true', Bool.not_eq_false', Int.not_lt, Int.not_le, ge_iff_le, gt_iff_lt, Bool.or_eq_false_iff, Bool.or_eq_true, Bool.and_eq_true, Bool.and_eq_false_imp, beq_iff_eq, beq_eq_false_iff_ne, ne_eq, bne_iff_ne, bne_eq_false_iff_eq] at hc4
          refine Wps_skip ?_
          simp only [Wps_nil, thenQ_normal, thenQ_exit, thenQ_ret, blkQ_normal, blkQ_ret, blkQ_if, blkQ_same, scQ_normal, scQ_ret, scQ_exit, Nat.reduceEqDiff, reduceIte, eq_self, reduceCtorEq, if_true, if_false]
          refine Wps_regionX' (T := [(43, e43), (44, e44)]) ⟨e43_ok, e44_ok, trivial⟩ rfl fun K hK => ?_
          repeat
            (first | refine X0 rfl fun K1 hK1 => ?_ | refine X1 rfl rfl fun K1 hK1 => ?_)
            simp only [↓EP, EQ, implies_true, forall_const, tys, zoks, zeros, Nat.reduceEqDiff, Nat.reduceAdd, Nat.reduceLT, Nat.reduceLeDiff, reduceIte, reduceCtorEq, e43, e44]
            try simp (disch := omega) only [wrap64, wrapU64]
            repeat (first | refine And.intro (by clear hK1 hK; first | omega | (simp; done) | (simp only [Bool.not_eq_true', Bool.or_eq_false_iff, Bool.and_eq_true, decide_eq_false_iff_not, decide_eq_true_eq]; intro h; rw [wrap64 (by omega) (by omega)]; simp_all; omega) | (simp_all; done) | (simp_all; omega)) ?_ | intro e)
            refine hK1 _ ?_
            clear hK1 K1
          refine XE ?_
          refine hK _ ?_
          clear hK K
          simp only [Wps_nil, thenQ_normal, thenQ_exit, thenQ_ret, blkQ_normal, blkQ_ret, blkQ_if, blkQ_same, scQ_normal, scQ_ret, scQ_exit, Nat.reduceEqDiff, reduceIte, eq_self, reduceCtorEq, if_true, if_false]
          refine ⟨_, _, ?h1, ⟨i + 1, rfl, (by omega), ?h2⟩, Wk_keep [0, 3]⟩
          case h2 =>
            simp only [St.keep, keepL, at_cons, at_nil, Nat.reduceEqDiff, reduceIte, eq_self]
            first | rfl | (apply St_eq <;> first | rfl | (simp; done)) | (rw [wrapS (i := i) (by omega)]; first | rfl | (apply St_eq <;> first | rfl | (simp; done)))
          case h1 => omega
    · try simp only [decide_eq_true_eq, decide_eq_false_iff_not, Bool.not_eq_true', Bool.not_eq_false', Int.not_lt, Int.not_le, ge_iff_le, gt_iff_lt, Bool.or_eq_false_iff, Bool.or_eq_true, Bool.and_eq_true, Bool.and_eq_false_imp, beq_iff_eq, beq_eq_false_iff_ne, ne_eq, bne_iff_ne, bne_eq_false_iff_eq] at hc2
      refine Wps_exit ?_
      simp only [Wps_nil, thenQ_normal, thenQ_exit, thenQ_ret, blkQ_normal, blkQ_ret, blkQ_if, blkQ_same, scQ_normal, scQ_ret, scQ_exit, Nat.reduceEqDiff, reduceIte, eq_self, reduceCtorEq, if_true, if_false]
      refine Wps_seq ?_
      refine Wps_reg (T := [(43, e43), (44, e44)]) ⟨e43_ok, e44_ok, trivial⟩ [2] rfl (by simp) fun K hK => ?_
      repeat
        (first | refine X0 rfl fun K1 hK1 => ?_ | refine X1 rfl rfl fun K1 hK1 => ?_)
        simp only [↓EP, EQ, implies_true, forall_const, tys, zoks, zeros, Nat.reduceEqDiff, Nat.reduceAdd, Nat.reduceLT, Nat.reduceLeDiff, reduceIte, reduceCtorEq, e43, e44]
        try simp (disch := omega) only [wrap64, wrapU64]
        repeat (first | refine And.intro (by clear hK1 hK; first | omega | (simp; done) | (simp only [Bool.not_eq_true', Bool.or_eq_false_iff, Bool.and_eq_true, decide_eq_false_iff_not, decide_eq_true_eq]; intro h; rw [wrap64 (by omega) (by omega)]; simp_all; omega) | (simp_all; done) | (simp_all; omega)) ?_ | intro e)
        refine hK1 _ ?_
        clear hK1 K1
      refine XE ?_
      refine hK _ _ (by simp only [St.keep, keepL, at_cons, at_nil, Nat.reduceEqDiff, reduceIte, eq_self]; rfl) ?_
      clear hK K
      refine Wps_ret ?_
      try simp only [Wps_nil, thenQ_normal, thenQ_exit, thenQ_ret, blkQ_normal, blkQ_ret, blkQ_if, blkQ_same, scQ_normal, scQ_ret, scQ_exit, Nat.reduceEqDiff, reduceIte, eq_self, reduceCtorEq, if_true, if_false]
      first | refine ret_pureQ rfl ?_ | refine ret_pureN rfl ?_
      simp only [retP, at_cons, at_nil, Nat.reduceEqDiff, reduceIte, eq_self, AV.use, retV, AV.bel, AV.bels, true_and, and_true]
      exact ⟨_, rfl⟩

end Go.Proofs.Ytolplbfonlhbhaa
