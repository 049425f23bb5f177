/- Contracts, seventeenth part: the first bucket; the simplest facts. -/
import Derived.Test.YtolplbfonlhbhaaC15
import Derived.Test.YtolplbfonlhbhaaP2
set_option maxRecDepth 20000
set_option maxHeartbeats 4000000
set_option linter.unusedVariables false
set_option linter.unusedSectionVars false
set_option linter.unusedSimpArgs false
namespace Go.Proofs.Ytolplbfonlhbhaa
open Go Go.Eng
variable [Globs] [G23]
theorem dPart_inj : ∀ {a b : PartL}, dPart a = dPart b → a = b := by
  rintro ⟨a, b, c, d⟩ ⟨a', b', c', d'⟩ h
  simp only [dPart, D.ag.injEq, D.arr.injEq, List.cons.injEq, D.raw.injEq, Value.int.injEq, true_and, and_true] at h
  obtain ⟨rfl, rfl, rfl, h1⟩ := h
  rw [map_inj dByte_inj h1]
theorem dUp_inj : ∀ {a b : UpL}, dUp a = dUp b → a = b := by
  rintro ⟨a, b, c, d⟩ ⟨a', b', c', d'⟩ h
  simp only [dUp, D.ag.injEq, D.sl.injEq, List.cons.injEq, D.raw.injEq, Value.int.injEq, Value.string.injEq, true_and, and_true] at h
  obtain ⟨rfl, rfl, h1, h2⟩ := h
  rw [map_inj dTag_inj h1, map_inj dPart_inj h2]
theorem dRule_inj : ∀ {a b : RuleL}, dRule a = dRule b → a = b := by
  rintro ⟨a, b, c, d, e⟩ ⟨a', b', c', d', e'⟩ h
  simp only [dRule, D.ag.injEq, D.sl.injEq, List.cons.injEq, D.raw.injEq, Value.int.injEq, Value.string.injEq, Value.bool.injEq, true_and, and_true] at h
  obtain ⟨rfl, h1, rfl, rfl, rfl⟩ := h
  rw [map_inj dTag_inj h1]
theorem dGrant_inj : ∀ {a b : GrantL}, dGrant a = dGrant b → a = b := by
  rintro ⟨a, b, c, d⟩ ⟨a', b', c', d'⟩ h
  simp only [dGrant, D.ag.injEq, List.cons.injEq, D.raw.injEq, Value.string.injEq, Value.bool.injEq, and_true] at h
  obtain ⟨rfl, rfl, rfl, rfl⟩ := h
  rfl
theorem dBuc_inj : ∀ {a b : BucL}, dBuc a = dBuc b → a = b := by
  rintro ⟨a, m, d, b, c, o, u⟩ ⟨a', m', d', b', c', o', u'⟩ h
  simp only [dBuc, D.ag.injEq, D.sl.injEq, List.cons.injEq, D.raw.injEq, Value.int.injEq, Value.string.injEq, true_and, and_true] at h
  obtain ⟨rfl, ⟨rfl, rfl⟩, h1, h2, h3, h4⟩ := h
  rw [map_inj dRule_inj h1, map_inj dGrant_inj h2, map_inj dObj_inj h3, map_inj dUp_inj h4]
theorem dSt_inj : ∀ {a b : StL}, dSt a = dSt b → a = b := by
  rintro ⟨a, b, c, d⟩ ⟨a', b', c', d'⟩ h
  simp only [dSt, D.ag.injEq, D.sl.injEq, List.cons.injEq, D.raw.injEq, Value.int.injEq, true_and, and_true] at h
  obtain ⟨rfl, rfl, rfl, h1⟩ := h
  rw [map_inj dBuc_inj h1]

noncomputable def e18 : Ent := ent1 (fun s : StL => [.d (dSt s)]) (fun s => okSt s) (fun s => YesB (goodS s))
theorem e18_ap (s : StL) : e18 [.d (dSt s)] = some (okSt s, YesB (goodS s)) := ent1_ap (f := fun s : StL => [.d (dSt s)]) (fun x y h => by simp only [List.cons.injEq, AV.d.injEq, and_true] at h; exact dSt_inj h) s
theorem e18_ok : EntOk Try.prog 18 e18 := ent1_ok (fun s => yes_ex _) fun s h => f18_ok s h

/-- the first bucket, if the state is sound and has one -/
abbrev firstR (s : StL) (r : AV) : Prop := ∃ p : Bool × D, r = .tup [.d p.2, .d (.raw (.bool p.1))] ∧ (p.1 = true → 0 < s.bucs.length ∧ p.2 = dBuc (s.bucs.getD 0 default) ∧ goodB (s.bucs.getD 0 default)) ∧ p.2.size = 7 ∧ p.2.isAg = true

-- chartularylaw23.first
theorem f8_ok (s : StL) (hs : okSt s) : PureOk Try.prog 8 [.d (dSt s)] (firstR s) := by
  refine PureOk_of (fn := Try.f8) (rs := [.cell 2 33, .tmp 3]) (n := 18) (hf := Try.func8) (hn := by kernel_rfl) (hb := rfl) (hr := rfl) (hN := rfl) (hargs := by simp) (ha := by simp [AV.bels, AV.bel]) (hrb := by rintro _ ⟨p, rfl, _⟩; simp [AV.bel, AV.bels]) (h := fun Z0 w0 => ?_)
  simp only [enumA, Nat.zero_add]
  refine Wps_seq ?_
  refine Wps_reg (T := [(18, e18)]) ⟨e18_ok, trivial⟩ [1, 2] rfl (by simp) fun K hK => ?_
  repeat
    (first | refine X0 rfl fun K1 hK1 => ?_ | refine X1 rfl rfl fun K1 hK1 => ?_)
    simp only [↓EP, EQ, implies_true, forall_const, tys, zoks, zeros, Nat.reduceEqDiff, Nat.reduceAdd, Nat.reduceLT, Nat.reduceLeDiff, reduceIte, reduceCtorEq, e18_ap, all_exT, List.length_map, Int.toNat_zero, ↓dSt_size, ↓dSt_isAg, ↓dSt_nav, ↓dSt_vp, dSt_fold, ↓dBuc_size, ↓dBuc_isAg, ↓dBuc_nav, ↓dBuc_vp, dBuc_fold]
    try simp (disch := omega) only [wrap64, wrapU64]
    repeat (first | refine And.intro cl ?_ | intro e)
    refine hK1 _ ?_
    clear hK1 K1
  refine XE ?_
  refine hK _ _ (by simp only [St.keep, keepL, at_cons, at_nil, Nat.reduceEqDiff, reduceIte, eq_self]; rfl) ?_
  clear hK K
  refine Wps_seq ?_
  refine Wps_seq ?_
  refine Wps_reg (T := [(18, e18)]) ⟨e18_ok, trivial⟩ [1, 2, 12] rfl (by simp) fun K hK => ?_
  repeat
    (first | refine X0 rfl fun K1 hK1 => ?_ | refine X1 rfl rfl fun K1 hK1 => ?_)
    simp only [↓EP, EQ, implies_true, forall_const, tys, zoks, zeros, Nat.reduceEqDiff, Nat.reduceAdd, Nat.reduceLT, Nat.reduceLeDiff, reduceIte, reduceCtorEq, e18_ap, all_exT, List.length_map, Int.toNat_zero, ↓dSt_size, ↓dSt_isAg, ↓dSt_nav, ↓dSt_vp, dSt_fold, ↓dBuc_size, ↓dBuc_isAg, ↓dBuc_nav, ↓dBuc_vp, dBuc_fold]
    try simp (disch := omega) only [wrap64, wrapU64]
    repeat (first | refine And.intro cl ?_ | intro e)
    refine hK1 _ ?_
    clear hK1 K1
  refine XE ?_
  refine hK _ _ (by simp only [St.keep, keepL, at_cons, at_nil, Nat.reduceEqDiff, reduceIte, eq_self]; rfl) ?_
  clear hK K
  refine Wps_cond rfl (fun hc1 => ?_) (fun hc1 => ?_)
  · have hr1 := hc1
    try simp only [decide_eq_true_eq, decide_eq_false_iff_not, Bool.not_eq_true', Bool.not_eq_false', Int.not_lt, Int.not_le, ge_iff_le, gt_iff_lt, Bool.or_eq_false_iff, Bool.or_eq_true, Bool.and_eq_true, Bool.and_eq_false_imp, beq_iff_eq, beq_eq_false_iff_ne, ne_eq, bne_iff_ne, bne_eq_false_iff_eq] at hc1
    refine Wps_seq ?_
    refine Wps_reg (T := [(18, e18)]) ⟨e18_ok, trivial⟩ [2, 3] rfl (by simp) fun K hK => ?_
    repeat
      (first | refine X0 rfl fun K1 hK1 => ?_ | refine X1 rfl rfl fun K1 hK1 => ?_)
      simp only [↓EP, EQ, implies_true, forall_const, tys, zoks, zeros, Nat.reduceEqDiff, Nat.reduceAdd, Nat.reduceLT, Nat.reduceLeDiff, reduceIte, reduceCtorEq, e18_ap, all_exT, List.length_map, Int.toNat_zero, ↓dSt_size, ↓dSt_isAg, ↓dSt_nav, ↓dSt_vp, dSt_fold, ↓dBuc_size, ↓dBuc_isAg, ↓dBuc_nav, ↓dBuc_vp, dBuc_fold]
      try simp (disch := omega) only [wrap64, wrapU64]
      repeat (first | refine And.intro cl ?_ | intro e)
      refine hK1 _ ?_
      clear hK1 K1
    refine XE ?_
    refine hK _ _ (by simp only [St.keep, keepL, at_cons, at_nil, Nat.reduceEqDiff, reduceIte, eq_self]; rfl) ?_
    clear hK K
    refine Wps_ret ?_
    try simp only [Wps_nil, thenQ_normal, thenQ_exit, thenQ_ret, blkQ_normal, blkQ_ret, blkQ_if, blkQ_same, scQ_normal, scQ_ret, scQ_exit, Nat.reduceEqDiff, reduceIte, eq_self, reduceCtorEq, if_true, if_false]
    first | refine ret_pureQ rfl ?_ | refine ret_pureN rfl ?_
    simp only [retP, at_cons, at_nil, Nat.reduceEqDiff, reduceIte, eq_self, AV.use, retV, AV.bel, AV.bels, true_and, and_true, pvLoad, AV.nav, D.nav, AV.size, AV.sizes, D.size, D.sizes, AV.isAg, D.isAg, List.getElem?_cons_zero, List.getElem?_cons_succ, tys, allD, AV.toD, mkAg, D.putAt, eq_self, Option.some.injEq, all_exT, List.length_map, Int.toNat_zero, ↓dSt_size, ↓dSt_isAg, ↓dSt_nav, ↓dSt_vp, dSt_fold, ↓dBuc_size, ↓dBuc_isAg, ↓dBuc_nav, ↓dBuc_vp, dBuc_fold]
    refine ⟨(false, _), rfl, by simp, rfl, rfl⟩
  · have hr1 := hc1
    try simp only [decide_eq_true_eq, decide_eq_false_iff_not, Bool.not_eq_true', Bool.not_eq_false', Int.not_lt, Int.not_le, ge_iff_le, gt_iff_lt, Bool.or_eq_false_iff, Bool.or_eq_true, Bool.and_eq_true, Bool.and_eq_false_imp, beq_iff_eq, beq_eq_false_iff_ne, ne_eq, bne_iff_ne, bne_eq_false_iff_eq] at hc1
    refine Wps_skip ?_
    refine Wps_seq ?_
    have hi : 0 < s.bucs.length := by have h := hc1.2; omega
    have hgood : goodS s := by grind
    refine Wps_reg (T := [(18, e18)]) ⟨e18_ok, trivial⟩ [2, 3] rfl (by simp) fun K hK => ?_
    repeat
      (first | refine X0 rfl fun K1 hK1 => ?_ | refine X1 rfl rfl fun K1 hK1 => ?_)
      simp only [↓EP, EQ, implies_true, forall_const, tys, zoks, zeros, Nat.reduceEqDiff, Nat.reduceAdd, Nat.reduceLT, Nat.reduceLeDiff, reduceIte, reduceCtorEq, e18_ap, all_exT, List.length_map, Int.toNat_zero, ↓dSt_size, ↓dSt_isAg, ↓dSt_nav, ↓dSt_vp, dSt_fold, ↓dBuc_size, ↓dBuc_isAg, ↓dBuc_nav, ↓dBuc_vp, dBuc_fold, getD_map_lt hi]
      try simp (disch := omega) only [wrap64, wrapU64]
      repeat (first | refine And.intro cl ?_ | intro e)
      refine hK1 _ ?_
      clear hK1 K1
    refine XE ?_
    refine hK _ _ (by simp only [St.keep, keepL, at_cons, at_nil, Nat.reduceEqDiff, reduceIte, eq_self]; rfl) ?_
    clear hK K
    refine Wps_ret ?_
    try simp only [Wps_nil, thenQ_normal, thenQ_exit, thenQ_ret, blkQ_normal, blkQ_ret, blkQ_if, blkQ_same, scQ_normal, scQ_ret, scQ_exit, Nat.reduceEqDiff, reduceIte, eq_self, reduceCtorEq, if_true, if_false]
    first | refine ret_pureQ rfl ?_ | refine ret_pureN rfl ?_
    simp only [retP, at_cons, at_nil, Nat.reduceEqDiff, reduceIte, eq_self, AV.use, retV, AV.bel, AV.bels, true_and, and_true, pvLoad, AV.nav, D.nav, AV.size, AV.sizes, D.size, D.sizes, AV.isAg, D.isAg, List.getElem?_cons_zero, List.getElem?_cons_succ, tys, allD, AV.toD, mkAg, D.putAt, eq_self, Option.some.injEq, all_exT, List.length_map, Int.toNat_zero, ↓dSt_size, ↓dSt_isAg, ↓dSt_nav, ↓dSt_vp, dSt_fold, ↓dBuc_size, ↓dBuc_isAg, ↓dBuc_nav, ↓dBuc_vp, dBuc_fold]
    refine ⟨(true, _), rfl, fun _ => ⟨hi, rfl, hgood 0 hi⟩, rfl, rfl⟩

noncomputable def e8 : Ent := ent1 (fun s : StL => [.d (dSt s)]) (fun s => okSt s) (fun s => firstR s)
theorem e8_ap (s : StL) : e8 [.d (dSt s)] = some (okSt s, firstR s) := ent1_ap (f := fun s : StL => [.d (dSt s)]) (fun x y h => by simp only [List.cons.injEq, AV.d.injEq, and_true] at h; exact dSt_inj h) s
theorem e8_ok : EntOk Try.prog 8 e8 := ent1_ok (fun s => ⟨_, (false, zeroD Try.prog 9 33), rfl, by simp, by rw [zeroD]; kernel_rfl, by kernel_rfl⟩) fun s h => f8_ok s h

end Go.Proofs.Ytolplbfonlhbhaa
