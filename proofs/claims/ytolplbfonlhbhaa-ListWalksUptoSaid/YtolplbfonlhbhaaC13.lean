/- Contracts, thirteenth part: the versions of a bucket, and those that are wanted. -/
import Derived.Test.YtolplbfonlhbhaaC12
set_option maxRecDepth 20000
set_option maxHeartbeats 4000000
set_option linter.unusedVariables false
set_option linter.unusedSectionVars false
set_option linter.unusedSimpArgs false
namespace Go.Proofs.Ytolplbfonlhbhaa
open Go Go.Eng
variable [Globs]

variable [G23]
theorem dSpot_size (s : SpotL) : (dSpot s).size = 3 := rfl
theorem dSpot_isAg (s : SpotL) : (dSpot s).isAg = true := rfl
theorem dSpot_nav (s : SpotL) : (∀ p, (dSpot s).nav (0 :: p) = ((.raw (.string s.bucket) : D).nav p).map fun q => (q.1, 0 + q.2)) ∧ (∀ p, (dSpot s).nav (1 :: p) = ((.raw (.string s.key) : D).nav p).map fun q => (q.1, 1 + q.2)) ∧ (∀ p, (dSpot s).nav (2 :: p) = ((.raw (.int .u64 s.id) : D).nav p).map fun q => (q.1, 2 + q.2)) := ⟨fun _ => rfl, fun _ => rfl, fun _ => rfl⟩
theorem dSpot_vp (s : SpotL) : AV.vp (dSpot s) = .vp (.ag [.raw (.string s.bucket), .raw (.string s.key), .raw (.int .u64 s.id)]) := rfl
theorem dSpot_fold (s : SpotL) : AV.d (.ag [.raw (.string s.bucket), .raw (.string s.key), .raw (.int .u64 s.id)]) = .d (dSpot s) := rfl
theorem dFil_size (f : FilL) : (dFil f).size = 7 := rfl
theorem dFil_isAg (f : FilL) : (dFil f).isAg = true := rfl
theorem dFil_nav (f : FilL) : (∀ p, (dFil f).nav (0 :: p) = ((.raw (.string f.pre) : D).nav p).map fun q => (q.1, 0 + q.2)) ∧ (∀ p, (dFil f).nav (1 :: p) = ((dTags f.tags : D).nav p).map fun q => (q.1, 1 + q.2)) ∧ (∀ p, (dFil f).nav (2 :: p) = ((.raw (.int .i64 f.frm) : D).nav p).map fun q => (q.1, 2 + q.2)) ∧ (∀ p, (dFil f).nav (3 :: p) = ((.raw (.int .i64 f.til) : D).nav p).map fun q => (q.1, 3 + q.2)) ∧ (∀ p, (dFil f).nav (4 :: p) = ((.raw (.int .i64 f.least) : D).nav p).map fun q => (q.1, 4 + q.2)) ∧ (∀ p, (dFil f).nav (5 :: p) = ((.raw (.int .i64 f.most) : D).nav p).map fun q => (q.1, 5 + q.2)) ∧ (∀ p, (dFil f).nav (6 :: p) = ((.raw (.bool f.latest) : D).nav p).map fun q => (q.1, 6 + q.2)) := ⟨fun _ => rfl, fun _ => rfl, fun _ => rfl, fun _ => rfl, fun _ => rfl, fun _ => rfl, fun _ => rfl⟩
theorem dFil_vp (f : FilL) : AV.vp (dFil f) = .vp (.ag [.raw (.string f.pre), dTags f.tags, .raw (.int .i64 f.frm), .raw (.int .i64 f.til), .raw (.int .i64 f.least), .raw (.int .i64 f.most), .raw (.bool f.latest)]) := rfl
theorem dFil_fold (f : FilL) : AV.d (.ag [.raw (.string f.pre), dTags f.tags, .raw (.int .i64 f.frm), .raw (.int .i64 f.til), .raw (.int .i64 f.least), .raw (.int .i64 f.most), .raw (.bool f.latest)]) = .d (dFil f) := rfl
/-- an object's versions, from the newest on: those that are not passed over, behind some rows -/
def versIn (skip : VerL → Bool → Bool) (key : ByteArray) (vs : List VerL) (most : Int) : Nat → List RowL → List RowL × Bool
  | 0, rows => (rows, false)
  | n + 1, rows => if skip (vs.getD n default) ((n : Int) == (vs.length : Int) - 1) = true then versIn skip key vs most n rows
    else if (rows.length : Int) = most then (rows, true) else versIn skip key vs most n (rows ++ [⟨key, false, vs.getD n default, ((n : Int) == (vs.length : Int) - 1)⟩])
theorem versIn_succ (skip : VerL → Bool → Bool) (key : ByteArray) (vs : List VerL) (most : Int) {n : Nat} (h : 0 < n) (rows : List RowL) :
    versIn skip key vs most n rows = if skip (vs.getD (n - 1) default) ((n : Int) - 1 == (vs.length : Int) - 1) = true then versIn skip key vs most (n - 1) rows
      else if (rows.length : Int) = most then (rows, true) else versIn skip key vs most (n - 1) (rows ++ [⟨key, false, vs.getD (n - 1) default, ((n : Int) - 1 == (vs.length : Int) - 1)⟩]) := by
  obtain ⟨m, rfl⟩ : ∃ m, n = m + 1 := ⟨n - 1, by omega⟩
  rw [versIn, show ((m + 1 : Nat) : Int) - 1 = (m : Int) by omega, show m + 1 - 1 = m from rfl]
def versB (skipO : ObjL → Bool) (skip : ByteArray → VerL → Bool → Bool) (most : Int) : List ObjL → List RowL → List RowL × Bool
  | [], rows => (rows, false)
  | o :: os, rows => if skipO o = true then versB skipO skip most os rows
    else if (versIn (skip o.key) o.key o.vers most o.vers.length rows).2 = true then versIn (skip o.key) o.key o.vers most o.vers.length rows
    else versB skipO skip most os (versIn (skip o.key) o.key o.vers most o.vers.length rows).1
abbrev skO (pre : ByteArray) (frm : SpotL) (o : ObjL) : Bool := !hasPre o.key pre || strLt o.key frm.key
abbrev skV (frm : SpotL) (key : ByteArray) (v : VerL) (_ : Bool) : Bool := !strEq frm.key nil0 && strEq key frm.key && decide (v.id ≥ frm.id)
abbrev skFO (f : FilL) (o : ObjL) : Bool := !hasPre o.key f.pre
abbrev skF (f : FilL) (frm : SpotL) (key : ByteArray) (v : VerL) (lat : Bool) : Bool := isAhead key v.id frm || !isWanted f v lat
def rowsR (p : List RowL × Bool) (most : Int) : AV := if most < 1 ∨ most > 100 then .tup [.d (dRows []), B false, I 1] else .tup [.d (dRows p.1), B p.2, I 0]
noncomputable def e27 : Ent
  | [.d (.raw (.string k)), .d (.raw (.int .u64 id)), .d s] => open Classical in if h : ∃ x : SpotL, dSpot x = s then some (True, fun r => r = B (isAhead k id h.choose)) else none
  | _ => none
theorem dSpot_inj : ∀ {a b : SpotL}, dSpot a = dSpot b → a = b := by
  rintro ⟨a, b, c⟩ ⟨a', b', c'⟩ h
  simp only [dSpot, D.ag.injEq, List.cons.injEq, D.raw.injEq, Value.string.injEq, Value.int.injEq, true_and, and_true] at h
  obtain ⟨rfl, rfl, rfl⟩ := h; rfl
theorem dFil_inj : ∀ {a b : FilL}, dFil a = dFil b → a = b := by
  rintro ⟨a, b, c, d, e, f, g⟩ ⟨a', b', c', d', e', f', g'⟩ h
  simp only [dFil, D.ag.injEq, List.cons.injEq, D.raw.injEq, Value.string.injEq, Value.int.injEq, Value.bool.injEq, D.sl.injEq, true_and, and_true] at h
  obtain ⟨rfl, h1, rfl, rfl, rfl, rfl, rfl⟩ := h
  rw [map_inj dTag_inj h1]
theorem e27_ap (k : ByteArray) (id : Int) (s : SpotL) : e27 [.d (.raw (.string k)), .d (.raw (.int .u64 id)), .d (dSpot s)] = some (True, fun r => r = B (isAhead k id s)) := by
  unfold e27
  have h : ∃ x : SpotL, dSpot x = dSpot s := ⟨s, rfl⟩
  simp only [dif_pos h]
  rw [dSpot_inj h.choose_spec]
theorem e27_ok : EntOk Try.prog 27 e27 := by
  intro args q post h
  unfold e27 at h
  split at h
  · split at h
    · rename_i k id s hx
      simp only [Option.some.injEq, Prod.mk.injEq] at h
      obtain ⟨rfl, rfl⟩ := h
      refine ⟨⟨_, rfl⟩, fun _ => ?_⟩
      have := f27_ok k id hx.choose
      rwa [hx.choose_spec] at this
    · simp at h
  · simp at h
noncomputable def e28 : Ent
  | [.d f, .d v, .d (.raw (.bool b))] => open Classical in if h : ∃ x : FilL × VerL, dFil x.1 = f ∧ dVer x.2 = v then some (h.choose.1.tags.length ≤ 1048576 ∧ h.choose.2.tags.length ≤ 1048576, fun r => r = B (isWanted h.choose.1 h.choose.2 b)) else none
  | _ => none
theorem e28_ap (f : FilL) (v : VerL) (b : Bool) : e28 [.d (dFil f), .d (dVer v), .d (.raw (.bool b))] = some (f.tags.length ≤ 1048576 ∧ v.tags.length ≤ 1048576, fun r => r = B (isWanted f v b)) := by
  unfold e28
  have h : ∃ x : FilL × VerL, dFil x.1 = dFil f ∧ dVer x.2 = dVer v := ⟨(f, v), rfl, rfl⟩
  simp only [dif_pos h]
  rw [dFil_inj h.choose_spec.1, dVer_inj h.choose_spec.2]
theorem e28_ok : EntOk Try.prog 28 e28 := by
  intro args q post h
  unfold e28 at h
  split at h
  · split at h
    · rename_i f v b hx
      simp only [Option.some.injEq, Prod.mk.injEq] at h
      obtain ⟨rfl, rfl⟩ := h
      refine ⟨⟨_, rfl⟩, fun hq => ?_⟩
      have := f28_ok hx.choose.1 hx.choose.2 b (by omega) (by omega)
      rwa [hx.choose_spec.1, hx.choose_spec.2] at this
    · simp at h
  · simp at h

-- list.Versions
theorem f13_ok (b : BucL) (pre : ByteArray) (frm : SpotL) (most : Int) (hb : okBuc b) : PureOk Try.prog 13 [.d (dBuc b), S pre, .d (dSpot frm), I most] fun r => r = rowsR (versB (skO pre frm) (skV frm) most b.objs []) most := by
  refine PureOk_of (fn := Try.f13) (rs := [.tmp 8, .tmp 9, .tmp 10]) (n := 96) (hf := Try.func13) (hn := by kernel_rfl) (hb := rfl) (hr := rfl) (hN := rfl) (hargs := by simp) (ha := by simp [AV.bels, AV.bel]) (hrb := by rintro _ rfl; unfold rowsR; split <;> simp [AV.bel, AV.bels]) (h := fun Z0 w0 => ?_)
  simp only [enumA, Nat.zero_add]
  refine Wps_seq ?_
  refine Wps_reg (T := [(19, e19), (20, e20)]) ⟨e19_ok, e20_ok, trivial⟩ [1, 3, 4, 6] rfl (by simp) fun K hK => ?_
  repeat
    (first | refine X0 rfl fun K1 hK1 => ?_ | refine X1 rfl rfl fun K1 hK1 => ?_)
    simp only [↓EP, EQ, implies_true, forall_const, tys, zoks, zeros, Nat.reduceEqDiff, Nat.reduceAdd, Nat.reduceLT, Nat.reduceLeDiff, reduceIte, reduceCtorEq, e19, e20, List.length_map, verOf_map, Int.toNat_natCast, toNat_pred, ↓dBuc_size, ↓dBuc_isAg, ↓dBuc_nav, ↓dBuc_vp, dBuc_fold, ↓dObj_size, ↓dObj_isAg, ↓dObj_nav, ↓dObj_vp, dObj_fold, ↓dVer_size, ↓dVer_isAg, ↓dVer_nav, ↓dVer_vp, dVer_fold, ↓dLock_size, ↓dLock_isAg, ↓dLock_nav, ↓dLock_vp, dLock_fold, ↓dRow_size, ↓dRow_isAg, ↓dRow_nav, ↓dRow_vp, dRow_fold, ↓dSpot_size, ↓dSpot_isAg, ↓dSpot_nav, ↓dSpot_vp, dSpot_fold, ↓dFil_size, ↓dFil_isAg, ↓dFil_nav, ↓dFil_vp, dFil_fold]
    try simp (disch := omega) only [wrap64, wrapU64]
    repeat (first | refine And.intro cl ?_ | intro e)
    refine hK1 _ ?_
    clear hK1 K1
  refine XE ?_
  refine hK _ _ (by simp only [St.keep, keepL, at_cons, at_nil, Nat.reduceEqDiff, reduceIte, eq_self]; rfl) ?_
  clear hK K
  refine Wps_scope ?_
  refine Wps_seq ?_
  refine Wps_seq ?_
  refine Wps_reg (T := [(19, e19), (20, e20)]) ⟨e19_ok, e20_ok, trivial⟩ [1, 3, 4, 6, 21] rfl (by simp) fun K hK => ?_
  repeat
    (first | refine X0 rfl fun K1 hK1 => ?_ | refine X1 rfl rfl fun K1 hK1 => ?_)
    simp only [↓EP, EQ, implies_true, forall_const, tys, zoks, zeros, Nat.reduceEqDiff, Nat.reduceAdd, Nat.reduceLT, Nat.reduceLeDiff, reduceIte, reduceCtorEq, e19, e20, List.length_map, verOf_map, Int.toNat_natCast, toNat_pred, ↓dBuc_size, ↓dBuc_isAg, ↓dBuc_nav, ↓dBuc_vp, dBuc_fold, ↓dObj_size, ↓dObj_isAg, ↓dObj_nav, ↓dObj_vp, dObj_fold, ↓dVer_size, ↓dVer_isAg, ↓dVer_nav, ↓dVer_vp, dVer_fold, ↓dLock_size, ↓dLock_isAg, ↓dLock_nav, ↓dLock_vp, dLock_fold, ↓dRow_size, ↓dRow_isAg, ↓dRow_nav, ↓dRow_vp, dRow_fold, ↓dSpot_size, ↓dSpot_isAg, ↓dSpot_nav, ↓dSpot_vp, dSpot_fold, ↓dFil_size, ↓dFil_isAg, ↓dFil_nav, ↓dFil_vp, dFil_fold]
    try simp (disch := omega) only [wrap64, wrapU64]
    repeat (first | refine And.intro cl ?_ | intro e)
    refine hK1 _ ?_
    clear hK1 K1
  refine XE ?_
  refine hK _ _ (by simp only [St.keep, keepL, at_cons, at_nil, Nat.reduceEqDiff, reduceIte, eq_self]; rfl) ?_
  clear hK K
  refine Wps_cond rfl (fun hc1 => ?_) (fun hc1 => ?_)
  · have hr1 := hc1
    try simp only [decide_eq_true_eq, decide_eq_false_iff_not, Bool.not_eq_true', Bool.not_eq_false', Int.not_lt, Int.not_le, ge_iff_le, gt_iff_lt, Bool.or_eq_false_iff, Bool.or_eq_true, Bool.and_eq_true, Bool.and_eq_false_imp, beq_iff_eq, beq_eq_false_iff_ne, ne_eq, bne_iff_ne, bne_eq_false_iff_eq] at hc1
    refine Wps_seq ?_
    refine Wps_reg (T := [(19, e19), (20, e20)]) ⟨e19_ok, e20_ok, trivial⟩ [8, 9, 10] rfl (by simp) fun K hK => ?_
    repeat
      (first | refine X0 rfl fun K1 hK1 => ?_ | refine X1 rfl rfl fun K1 hK1 => ?_)
      simp only [↓EP, EQ, implies_true, forall_const, tys, zoks, zeros, Nat.reduceEqDiff, Nat.reduceAdd, Nat.reduceLT, Nat.reduceLeDiff, reduceIte, reduceCtorEq, e19, e20, List.length_map, verOf_map, Int.toNat_natCast, toNat_pred, ↓dBuc_size, ↓dBuc_isAg, ↓dBuc_nav, ↓dBuc_vp, dBuc_fold, ↓dObj_size, ↓dObj_isAg, ↓dObj_nav, ↓dObj_vp, dObj_fold, ↓dVer_size, ↓dVer_isAg, ↓dVer_nav, ↓dVer_vp, dVer_fold, ↓dLock_size, ↓dLock_isAg, ↓dLock_nav, ↓dLock_vp, dLock_fold, ↓dRow_size, ↓dRow_isAg, ↓dRow_nav, ↓dRow_vp, dRow_fold, ↓dSpot_size, ↓dSpot_isAg, ↓dSpot_nav, ↓dSpot_vp, dSpot_fold, ↓dFil_size, ↓dFil_isAg, ↓dFil_nav, ↓dFil_vp, dFil_fold]
      try simp (disch := omega) only [wrap64, wrapU64]
      repeat (first | refine And.intro cl ?_ | intro e)
      refine hK1 _ ?_
      clear hK1 K1
    refine XE ?_
    refine hK _ _ (by simp only [St.keep, keepL, at_cons, at_nil, Nat.reduceEqDiff, reduceIte, eq_self]; rfl) ?_
    clear hK K
    refine Wps_weak (Wk_slots (l' := [(8, .d (dRows [])), (9, B false), (10, I 1)]) ⟨Imp.nil _, Imp.refl _, Imp.refl _, trivial⟩) ?_ (by simp)
    refine Wps_ret ?_
    try simp only [Wps_nil, thenQ_normal, thenQ_exit, thenQ_ret, blkQ_normal, blkQ_ret, blkQ_if, blkQ_same, scQ_normal, scQ_ret, scQ_exit, Nat.reduceEqDiff, reduceIte, eq_self, reduceCtorEq, if_true, if_false]
    first | refine ret_pureQ rfl ?_ | refine ret_pureN rfl ?_
    simp only [retP, at_cons, at_nil, Nat.reduceEqDiff, reduceIte, eq_self, AV.use, retV, AV.bel, AV.bels, true_and, and_true]
    rw [rowsR, if_pos (by omega)]
  · have hr1 := hc1
    try simp only [decide_eq_true_eq, decide_eq_false_iff_not, Bool.not_eq_true', Bool.not_eq_false', Int.not_lt, Int.not_le, ge_iff_le, gt_iff_lt, Bool.or_eq_false_iff, Bool.or_eq_true, Bool.and_eq_true, Bool.and_eq_false_imp, beq_iff_eq, beq_eq_false_iff_ne, ne_eq, bne_iff_ne, bne_eq_false_iff_eq] at hc1
    refine Wps_skip ?_
    refine Wps_seq ?_
    refine Wps_reg (T := [(19, e19), (20, e20)]) ⟨e19_ok, e20_ok, trivial⟩ [1, 4, 6, 11] rfl (by simp) fun K hK => ?_
    repeat
      (first | refine X0 rfl fun K1 hK1 => ?_ | refine X1 rfl rfl fun K1 hK1 => ?_)
      simp only [↓EP, EQ, implies_true, forall_const, tys, zoks, zeros, Nat.reduceEqDiff, Nat.reduceAdd, Nat.reduceLT, Nat.reduceLeDiff, reduceIte, reduceCtorEq, e19, e20, List.length_map, verOf_map, Int.toNat_natCast, toNat_pred, ↓dBuc_size, ↓dBuc_isAg, ↓dBuc_nav, ↓dBuc_vp, dBuc_fold, ↓dObj_size, ↓dObj_isAg, ↓dObj_nav, ↓dObj_vp, dObj_fold, ↓dVer_size, ↓dVer_isAg, ↓dVer_nav, ↓dVer_vp, dVer_fold, ↓dLock_size, ↓dLock_isAg, ↓dLock_nav, ↓dLock_vp, dLock_fold, ↓dRow_size, ↓dRow_isAg, ↓dRow_nav, ↓dRow_vp, dRow_fold, ↓dSpot_size, ↓dSpot_isAg, ↓dSpot_nav, ↓dSpot_vp, dSpot_fold, ↓dFil_size, ↓dFil_isAg, ↓dFil_nav, ↓dFil_vp, dFil_fold]
      try simp (disch := omega) only [wrap64, wrapU64]
      repeat (first | refine And.intro cl ?_ | intro e)
      refine hK1 _ ?_
      clear hK1 K1
    refine XE ?_
    refine hK _ _ (by simp only [St.keep, keepL, at_cons, at_nil, Nat.reduceEqDiff, reduceIte, eq_self]; rfl) ?_
    clear hK K
    refine Wps_weak (Wk_nilbox (j := 2) rfl 55 44) ?_ (by simp)
    simp only [List.length_cons, List.length_nil, List.set_cons_succ, List.set_cons_zero, List.cons_append, List.nil_append, List.map_cons, List.map_nil]
    refine Wps_seq ?_
    refine Wps_label ?_
    refine Wps_seq ?_
    refine Wps_seq ?_
    refine Wps_reg (T := [(19, e19), (20, e20)]) ⟨e19_ok, e20_ok, trivial⟩ [1, 6, 11, 26, 27, 28] rfl (by simp) fun K hK => ?_
    repeat
      (first | refine X0 rfl fun K1 hK1 => ?_ | refine X1 rfl rfl fun K1 hK1 => ?_)
      simp only [↓EP, EQ, implies_true, forall_const, tys, zoks, zeros, Nat.reduceEqDiff, Nat.reduceAdd, Nat.reduceLT, Nat.reduceLeDiff, reduceIte, reduceCtorEq, e19, e20, List.length_map, verOf_map, Int.toNat_natCast, toNat_pred, ↓dBuc_size, ↓dBuc_isAg, ↓dBuc_nav, ↓dBuc_vp, dBuc_fold, ↓dObj_size, ↓dObj_isAg, ↓dObj_nav, ↓dObj_vp, dObj_fold, ↓dVer_size, ↓dVer_isAg, ↓dVer_nav, ↓dVer_vp, dVer_fold, ↓dLock_size, ↓dLock_isAg, ↓dLock_nav, ↓dLock_vp, dLock_fold, ↓dRow_size, ↓dRow_isAg, ↓dRow_nav, ↓dRow_vp, dRow_fold, ↓dSpot_size, ↓dSpot_isAg, ↓dSpot_nav, ↓dSpot_vp, dSpot_fold, ↓dFil_size, ↓dFil_isAg, ↓dFil_nav, ↓dFil_vp, dFil_fold]
      try simp (disch := omega) only [wrap64, wrapU64]
      repeat (first | refine And.intro cl ?_ | intro e)
      refine hK1 _ ?_
      clear hK1 K1
    refine XE ?_
    refine hK _ _ (by simp only [St.keep, keepL, at_cons, at_nil, Nat.reduceEqDiff, reduceIte, eq_self]; rfl) ?_
    clear hK K
    refine Wps_block ?_
    -- live at the head: [1, 6, 11, 26, 27, 28]
    refine Wps_loop (fun n_ st_ => ∃ (i : Nat), ∃ (rows : List RowL), n_ = b.objs.length - i ∧ (i ≤ b.objs.length) ∧ ((rows.length : Int) ≤ most) ∧ (versB (skO pre frm) (skV frm) most b.objs [] = versB (skO pre frm) (skV frm) most (b.objs.drop i) rows) ∧ st_ = ⟨[(1, S pre), (6, .ptr 1 0 []), (11, .ptr 2 0 []), (26, .d (.sl 2 (b.objs.map dObj))), (27, I (b.objs.length : Int)), (28, I i)], [.box (.d (dBuc b)), .box (.d (dSpot frm)), .box (pageV 3 rows most false), .tok 55 44 rows.length]⟩) _ ⟨0, [], rfl, (by simp), (by simp; omega), rfl, rfl⟩ (Wk.refl _) fun n_ st_ hI => ?_
    obtain ⟨i, rows, rfl, hi0, hi1, hi2, rfl⟩ := hI
    refine Wps_seq ?_
    refine Wps_reg (T := [(19, e19), (20, e20)]) ⟨e19_ok, e20_ok, trivial⟩ [1, 6, 11, 26, 27, 28, 29] rfl (by simp) fun K hK => ?_
    repeat
      (first | refine X0 rfl fun K1 hK1 => ?_ | refine X1 rfl rfl fun K1 hK1 => ?_)
      simp only [↓EP, EQ, implies_true, forall_const, tys, zoks, zeros, Nat.reduceEqDiff, Nat.reduceAdd, Nat.reduceLT, Nat.reduceLeDiff, reduceIte, reduceCtorEq, e19, e20, List.length_map, verOf_map, Int.toNat_natCast, toNat_pred, ↓dBuc_size, ↓dBuc_isAg, ↓dBuc_nav, ↓dBuc_vp, dBuc_fold, ↓dObj_size, ↓dObj_isAg, ↓dObj_nav, ↓dObj_vp, dObj_fold, ↓dVer_size, ↓dVer_isAg, ↓dVer_nav, ↓dVer_vp, dVer_fold, ↓dLock_size, ↓dLock_isAg, ↓dLock_nav, ↓dLock_vp, dLock_fold, ↓dRow_size, ↓dRow_isAg, ↓dRow_nav, ↓dRow_vp, dRow_fold, ↓dSpot_size, ↓dSpot_isAg, ↓dSpot_nav, ↓dSpot_vp, dSpot_fold, ↓dFil_size, ↓dFil_isAg, ↓dFil_nav, ↓dFil_vp, dFil_fold]
      try simp (disch := omega) only [wrap64, wrapU64]
      repeat (first | refine And.intro cl ?_ | intro e)
      refine hK1 _ ?_
      clear hK1 K1
    refine XE ?_
    refine hK _ _ (by simp only [St.keep, keepL, at_cons, at_nil, Nat.reduceEqDiff, reduceIte, eq_self]; rfl) ?_
    clear hK K
    refine Wps_seq ?_
    refine Wps_cond rfl (fun hc2 => ?_) (fun hc2 => ?_)
    · have hr2 := hc2
      try simp only [decide_eq_true_eq, decide_eq_false_iff_not, Bool.not_eq_true', Bool.not_eq_false', Int.not_lt, Int.not_le, ge_iff_le, gt_iff_lt, Bool.or_eq_false_iff, Bool.or_eq_true, Bool.and_eq_true, Bool.and_eq_false_imp, beq_iff_eq, beq_eq_false_iff_ne, ne_eq, bne_iff_ne, bne_eq_false_iff_eq] at hc2
      refine Wps_skip ?_
      refine Wps_seq ?_
      refine Wps_block ?_
      refine Wps_seq ?_
      have hi : i < b.objs.length := by omega
      have ho := okL_get hb.2.2.2.1 hi
      refine Wps_reg (T := [(19, e19), (20, e20)]) ⟨e19_ok, e20_ok, trivial⟩ [1, 6, 11, 13, 26, 27, 28] rfl (by simp) fun K hK => ?_
      repeat
        (first | refine X0 rfl fun K1 hK1 => ?_ | refine X1 rfl rfl fun K1 hK1 => ?_)
        simp only [↓EP, EQ, implies_true, forall_const, tys, zoks, zeros, Nat.reduceEqDiff, Nat.reduceAdd, Nat.reduceLT, Nat.reduceLeDiff, reduceIte, reduceCtorEq, e19, e20, List.length_map, verOf_map, Int.toNat_natCast, toNat_pred, ↓dBuc_size, ↓dBuc_isAg, ↓dBuc_nav, ↓dBuc_vp, dBuc_fold, ↓dObj_size, ↓dObj_isAg, ↓dObj_nav, ↓dObj_vp, dObj_fold, ↓dVer_size, ↓dVer_isAg, ↓dVer_nav, ↓dVer_vp, dVer_fold, ↓dLock_size, ↓dLock_isAg, ↓dLock_nav, ↓dLock_vp, dLock_fold, ↓dRow_size, ↓dRow_isAg, ↓dRow_nav, ↓dRow_vp, dRow_fold, ↓dSpot_size, ↓dSpot_isAg, ↓dSpot_nav, ↓dSpot_vp, dSpot_fold, ↓dFil_size, ↓dFil_isAg, ↓dFil_nav, ↓dFil_vp, dFil_fold, getD_map_lt hi]
        try simp (disch := omega) only [wrap64, wrapU64]
        repeat (first | refine And.intro cl ?_ | intro e)
        refine hK1 _ ?_
        clear hK1 K1
      refine XE ?_
      refine hK _ _ (by simp only [St.keep, keepL, at_cons, at_nil, Nat.reduceEqDiff, reduceIte, eq_self]; rfl) ?_
      clear hK K
      refine Wps_seq ?_
      refine Wps_seq ?_
      refine Wps_reg (T := [(19, e19), (20, e20)]) ⟨e19_ok, e20_ok, trivial⟩ [1, 6, 11, 13, 26, 27, 28, 43] rfl (by simp) fun K hK => ?_
      repeat
        (first | refine X0 rfl fun K1 hK1 => ?_ | refine X1 rfl rfl fun K1 hK1 => ?_)
        simp only [↓EP, EQ, implies_true, forall_const, tys, zoks, zeros, Nat.reduceEqDiff, Nat.reduceAdd, Nat.reduceLT, Nat.reduceLeDiff, reduceIte, reduceCtorEq, e19, e20, List.length_map, verOf_map, Int.toNat_natCast, toNat_pred, ↓dBuc_size, ↓dBuc_isAg, ↓dBuc_nav, ↓dBuc_vp, dBuc_fold, ↓dObj_size, ↓dObj_isAg, ↓dObj_nav, ↓dObj_vp, dObj_fold, ↓dVer_size, ↓dVer_isAg, ↓dVer_nav, ↓dVer_vp, dVer_fold, ↓dLock_size, ↓dLock_isAg, ↓dLock_nav, ↓dLock_vp, dLock_fold, ↓dRow_size, ↓dRow_isAg, ↓dRow_nav, ↓dRow_vp, dRow_fold, ↓dSpot_size, ↓dSpot_isAg, ↓dSpot_nav, ↓dSpot_vp, dSpot_fold, ↓dFil_size, ↓dFil_isAg, ↓dFil_nav, ↓dFil_vp, dFil_fold]
        try simp (disch := omega) only [wrap64, wrapU64]
        repeat (first | refine And.intro cl ?_ | intro e)
        refine hK1 _ ?_
        clear hK1 K1
      refine XE ?_
      refine hK _ _ (by simp only [St.keep, keepL, at_cons, at_nil, Nat.reduceEqDiff, reduceIte, eq_self]; rfl) ?_
      clear hK K
      refine Wps_cond rfl (fun hc3 => ?_) (fun hc3 => ?_)
      · have hr3 := hc3
        try simp only [decide_eq_true_eq, decide_eq_false_iff_not, Bool.not_eq_true', Bool.not_eq_false', Int.not_lt, Int.not_le, ge_iff_le, gt_iff_lt, Bool.or_eq_false_iff, Bool.or_eq_true, Bool.and_eq_true, Bool.and_eq_false_imp, beq_iff_eq, beq_eq_false_iff_ne, ne_eq, bne_iff_ne, bne_eq_false_iff_eq] at hc3
        refine Wps_exit ?_
        simp only [Wps_nil, thenQ_normal, thenQ_exit, thenQ_ret, blkQ_normal, blkQ_ret, blkQ_if, blkQ_same, scQ_normal, scQ_ret, scQ_exit, Nat.reduceEqDiff, reduceIte, eq_self, reduceCtorEq, if_true, if_false]
        refine Wps_regionX' (T := [(19, e19), (20, e20)]) ⟨e19_ok, e20_ok, trivial⟩ rfl fun K hK => ?_
        repeat
          (first | refine X0 rfl fun K1 hK1 => ?_ | refine X1 rfl rfl fun K1 hK1 => ?_)
          simp only [↓EP, EQ, implies_true, forall_const, tys, zoks, zeros, Nat.reduceEqDiff, Nat.reduceAdd, Nat.reduceLT, Nat.reduceLeDiff, reduceIte, reduceCtorEq, e19, e20, List.length_map, verOf_map, Int.toNat_natCast, toNat_pred, ↓dBuc_size, ↓dBuc_isAg, ↓dBuc_nav, ↓dBuc_vp, dBuc_fold, ↓dObj_size, ↓dObj_isAg, ↓dObj_nav, ↓dObj_vp, dObj_fold, ↓dVer_size, ↓dVer_isAg, ↓dVer_nav, ↓dVer_vp, dVer_fold, ↓dLock_size, ↓dLock_isAg, ↓dLock_nav, ↓dLock_vp, dLock_fold, ↓dRow_size, ↓dRow_isAg, ↓dRow_nav, ↓dRow_vp, dRow_fold, ↓dSpot_size, ↓dSpot_isAg, ↓dSpot_nav, ↓dSpot_vp, dSpot_fold, ↓dFil_size, ↓dFil_isAg, ↓dFil_nav, ↓dFil_vp, dFil_fold]
          try simp (disch := omega) only [wrap64, wrapU64]
          repeat (first | refine And.intro cl ?_ | intro e)
          refine hK1 _ ?_
          clear hK1 K1
        refine XE ?_
        refine hK _ ?_
        clear hK K
        simp only [Wps_nil, thenQ_normal, thenQ_exit, thenQ_ret, blkQ_normal, blkQ_ret, blkQ_if, blkQ_same, scQ_normal, scQ_ret, scQ_exit, Nat.reduceEqDiff, reduceIte, eq_self, reduceCtorEq, if_true, if_false]
        refine ⟨_, _, ?h1, ⟨i + 1, rows, rfl, (by omega), hi1, (by rw [hi2, drop_getD hi, versB, if_pos hr3]), ?h2⟩, Wk_cut (L' := [.box (.d (dBuc b)), .box (.d (dSpot frm)), .box (pageV 3 rows most false), .tok 55 44 rows.length]) rfl [1, 6, 11, 26, 27, 28] rfl (by simp [belS, keepL, at_cons, at_nil, AV.bel, AV.bels]) (by simp [BelL, Res.bel, AV.bel, AV.bels]) (by simp) rfl⟩
        case h2 =>
          simp only [St.keep, keepL, at_cons, at_nil, Nat.reduceEqDiff, reduceIte, eq_self]
          first | rfl | (apply St_eq <;> first | rfl | (simp; done)) | (rw [wrapS (i := i) (by omega)]; first | rfl | (apply St_eq <;> first | rfl | (simp; done)))
        case h1 => omega
      · have hr3 := hc3
        try simp only [decide_eq_true_eq, decide_eq_false_iff_not, Bool.not_eq_true', Bool.not_eq_false', Int.not_lt, Int.not_le, ge_iff_le, gt_iff_lt, Bool.or_eq_false_iff, Bool.or_eq_true, Bool.and_eq_true, Bool.and_eq_false_imp, beq_iff_eq, beq_eq_false_iff_ne, ne_eq, bne_iff_ne, bne_eq_false_iff_eq] at hc3
        refine Wps_skip ?_
        refine Wps_seq ?_
        refine Wps_reg (T := [(19, e19), (20, e20)]) ⟨e19_ok, e20_ok, trivial⟩ [1, 6, 11, 13, 14, 26, 27, 28] rfl (by simp) fun K hK => ?_
        repeat
          (first | refine X0 rfl fun K1 hK1 => ?_ | refine X1 rfl rfl fun K1 hK1 => ?_)
          simp only [↓EP, EQ, implies_true, forall_const, tys, zoks, zeros, Nat.reduceEqDiff, Nat.reduceAdd, Nat.reduceLT, Nat.reduceLeDiff, reduceIte, reduceCtorEq, e19, e20, List.length_map, verOf_map, Int.toNat_natCast, toNat_pred, ↓dBuc_size, ↓dBuc_isAg, ↓dBuc_nav, ↓dBuc_vp, dBuc_fold, ↓dObj_size, ↓dObj_isAg, ↓dObj_nav, ↓dObj_vp, dObj_fold, ↓dVer_size, ↓dVer_isAg, ↓dVer_nav, ↓dVer_vp, dVer_fold, ↓dLock_size, ↓dLock_isAg, ↓dLock_nav, ↓dLock_vp, dLock_fold, ↓dRow_size, ↓dRow_isAg, ↓dRow_nav, ↓dRow_vp, dRow_fold, ↓dSpot_size, ↓dSpot_isAg, ↓dSpot_nav, ↓dSpot_vp, dSpot_fold, ↓dFil_size, ↓dFil_isAg, ↓dFil_nav, ↓dFil_vp, dFil_fold]
          try simp (disch := omega) only [wrap64, wrapU64]
          repeat (first | refine And.intro cl ?_ | intro e)
          refine hK1 _ ?_
          clear hK1 K1
        refine XE ?_
        refine hK _ _ (by simp only [St.keep, keepL, at_cons, at_nil, Nat.reduceEqDiff, reduceIte, eq_self]; rfl) ?_
        clear hK K
        refine Wps_block ?_
        -- live at the head: [1, 6, 11, 13, 14, 26, 27, 28]
        refine Wps_loop (fun n_ st_ => ∃ (n : Nat), ∃ (rs : List RowL), n_ = 2 * n ∧ (n ≤ (b.objs.getD i default).vers.length) ∧ ((rs.length : Int) ≤ most) ∧ (versIn (skV frm (b.objs.getD i default).key) (b.objs.getD i default).key (b.objs.getD i default).vers most (b.objs.getD i default).vers.length rows = versIn (skV frm (b.objs.getD i default).key) (b.objs.getD i default).key (b.objs.getD i default).vers most n rs) ∧ st_ = ⟨[(1, S pre), (6, .ptr 1 0 []), (11, .ptr 2 0 []), (13, .ptr 4 0 []), (14, I ((n : Int) - 1)), (26, .d (.sl 2 (b.objs.map dObj))), (27, I (b.objs.length : Int)), (28, I i)], [.box (.d (dBuc b)), .box (.d (dSpot frm)), .box (pageV 3 rs most false), .tok 55 44 rs.length, .box (.d (dObj (b.objs.getD i default)))]⟩) _ ⟨(b.objs.getD i default).vers.length, rows, rfl, (Nat.le_refl _), hi1, rfl, rfl⟩ (Wk.refl _) fun n_ st_ hI => ?_
        obtain ⟨n, rs, rfl, hn0, hn1, hn2, rfl⟩ := hI
        refine Wps_seq ?_
        refine Wps_seq ?_
        refine Wps_reg (T := [(19, e19), (20, e20)]) ⟨e19_ok, e20_ok, trivial⟩ [1, 6, 11, 13, 14, 26, 27, 28, 49] rfl (by simp) fun K hK => ?_
        repeat
          (first | refine X0 rfl fun K1 hK1 => ?_ | refine X1 rfl rfl fun K1 hK1 => ?_)
          simp only [↓EP, EQ, implies_true, forall_const, tys, zoks, zeros, Nat.reduceEqDiff, Nat.reduceAdd, Nat.reduceLT, Nat.reduceLeDiff, reduceIte, reduceCtorEq, e19, e20, List.length_map, verOf_map, Int.toNat_natCast, toNat_pred, ↓dBuc_size, ↓dBuc_isAg, ↓dBuc_nav, ↓dBuc_vp, dBuc_fold, ↓dObj_size, ↓dObj_isAg, ↓dObj_nav, ↓dObj_vp, dObj_fold, ↓dVer_size, ↓dVer_isAg, ↓dVer_nav, ↓dVer_vp, dVer_fold, ↓dLock_size, ↓dLock_isAg, ↓dLock_nav, ↓dLock_vp, dLock_fold, ↓dRow_size, ↓dRow_isAg, ↓dRow_nav, ↓dRow_vp, dRow_fold, ↓dSpot_size, ↓dSpot_isAg, ↓dSpot_nav, ↓dSpot_vp, dSpot_fold, ↓dFil_size, ↓dFil_isAg, ↓dFil_nav, ↓dFil_vp, dFil_fold]
          try simp (disch := omega) only [wrap64, wrapU64]
          repeat (first | refine And.intro cl ?_ | intro e)
          refine hK1 _ ?_
          clear hK1 K1
        refine XE ?_
        refine hK _ _ (by simp only [St.keep, keepL, at_cons, at_nil, Nat.reduceEqDiff, reduceIte, eq_self]; rfl) ?_
        clear hK K
        refine Wps_cond rfl (fun hc4 => ?_) (fun hc4 => ?_)
        · have hr4 := hc4
          try simp only [decide_eq_true_eq, decide_eq_false_iff_not, Bool.not_eq_true', Bool.not_eq_false', Int.not_lt, Int.not_le, ge_iff_le, gt_iff_lt, Bool.or_eq_false_iff, Bool.or_eq_true, Bool.and_eq_true, Bool.and_eq_false_imp, beq_iff_eq, beq_eq_false_iff_ne, ne_eq, bne_iff_ne, bne_eq_false_iff_eq] at hc4
          refine Wps_skip ?_
          refine Wps_seq ?_
          refine Wps_block ?_
          refine Wps_seq ?_
          have hn : 0 < n := by omega
          have hv : n - 1 < (b.objs.getD i default).vers.length := by omega
          have hw := okL_get ho.2 hv
          refine Wps_reg (T := [(19, e19), (20, e20)]) ⟨e19_ok, e20_ok, trivial⟩ [1, 6, 11, 13, 14, 15, 26, 27, 28] rfl (by simp) fun K hK => ?_
          repeat
            (first | refine X0 rfl fun K1 hK1 => ?_ | refine X1 rfl rfl fun K1 hK1 => ?_)
            simp only [↓EP, EQ, implies_true, forall_const, tys, zoks, zeros, Nat.reduceEqDiff, Nat.reduceAdd, Nat.reduceLT, Nat.reduceLeDiff, reduceIte, reduceCtorEq, e19, e20, List.length_map, verOf_map, Int.toNat_natCast, toNat_pred, ↓dBuc_size, ↓dBuc_isAg, ↓dBuc_nav, ↓dBuc_vp, dBuc_fold, ↓dObj_size, ↓dObj_isAg, ↓dObj_nav, ↓dObj_vp, dObj_fold, ↓dVer_size, ↓dVer_isAg, ↓dVer_nav, ↓dVer_vp, dVer_fold, ↓dLock_size, ↓dLock_isAg, ↓dLock_nav, ↓dLock_vp, dLock_fold, ↓dRow_size, ↓dRow_isAg, ↓dRow_nav, ↓dRow_vp, dRow_fold, ↓dSpot_size, ↓dSpot_isAg, ↓dSpot_nav, ↓dSpot_vp, dSpot_fold, ↓dFil_size, ↓dFil_isAg, ↓dFil_nav, ↓dFil_vp, dFil_fold, getD_map_lt hv]
            try simp (disch := omega) only [wrap64, wrapU64]
            repeat (first | refine And.intro cl ?_ | intro e)
            refine hK1 _ ?_
            clear hK1 K1
          refine XE ?_
          refine hK _ _ (by simp only [St.keep, keepL, at_cons, at_nil, Nat.reduceEqDiff, reduceIte, eq_self]; rfl) ?_
          clear hK K
          refine Wps_seq ?_
          refine Wps_seq ?_
          refine Wps_reg (T := [(19, e19), (20, e20)]) ⟨e19_ok, e20_ok, trivial⟩ [1, 6, 11, 13, 14, 15, 26, 27, 28, 73] rfl (by simp) fun K hK => ?_
          repeat
            (first | refine X0 rfl fun K1 hK1 => ?_ | refine X1 rfl rfl fun K1 hK1 => ?_)
            simp only [↓EP, EQ, implies_true, forall_const, tys, zoks, zeros, Nat.reduceEqDiff, Nat.reduceAdd, Nat.reduceLT, Nat.reduceLeDiff, reduceIte, reduceCtorEq, e19, e20, List.length_map, verOf_map, Int.toNat_natCast, toNat_pred, ↓dBuc_size, ↓dBuc_isAg, ↓dBuc_nav, ↓dBuc_vp, dBuc_fold, ↓dObj_size, ↓dObj_isAg, ↓dObj_nav, ↓dObj_vp, dObj_fold, ↓dVer_size, ↓dVer_isAg, ↓dVer_nav, ↓dVer_vp, dVer_fold, ↓dLock_size, ↓dLock_isAg, ↓dLock_nav, ↓dLock_vp, dLock_fold, ↓dRow_size, ↓dRow_isAg, ↓dRow_nav, ↓dRow_vp, dRow_fold, ↓dSpot_size, ↓dSpot_isAg, ↓dSpot_nav, ↓dSpot_vp, dSpot_fold, ↓dFil_size, ↓dFil_isAg, ↓dFil_nav, ↓dFil_vp, dFil_fold]
            try simp (disch := omega) only [wrap64, wrapU64]
            repeat (first | refine And.intro cl ?_ | intro e)
            refine hK1 _ ?_
            clear hK1 K1
          refine XE ?_
          refine hK _ _ (by simp only [St.keep, keepL, at_cons, at_nil, Nat.reduceEqDiff, reduceIte, eq_self]; rfl) ?_
          clear hK K
          refine Wps_cond rfl (fun hc5 => ?_) (fun hc5 => ?_)
          · have hr5 := hc5
            try simp only [decide_eq_true_eq, decide_eq_false_iff_not, Bool.not_eq_true', Bool.not_eq_false', Int.not_lt, Int.not_le, ge_iff_le, gt_iff_lt, Bool.or_eq_false_iff, Bool.or_eq_true, Bool.and_eq_true, Bool.and_eq_false_imp, beq_iff_eq, beq_eq_false_iff_ne, ne_eq, bne_iff_ne, bne_eq_false_iff_eq] at hc5
            refine Wps_exit ?_
            simp only [Wps_nil, thenQ_normal, thenQ_exit, thenQ_ret, blkQ_normal, blkQ_ret, blkQ_if, blkQ_same, scQ_normal, scQ_ret, scQ_exit, Nat.reduceEqDiff, reduceIte, eq_self, reduceCtorEq, if_true, if_false]
            refine Wps_regionX' (T := [(19, e19), (20, e20)]) ⟨e19_ok, e20_ok, trivial⟩ rfl fun K hK => ?_
            repeat
              (first | refine X0 rfl fun K1 hK1 => ?_ | refine X1 rfl rfl fun K1 hK1 => ?_)
              simp only [↓EP, EQ, implies_true, forall_const, tys, zoks, zeros, Nat.reduceEqDiff, Nat.reduceAdd, Nat.reduceLT, Nat.reduceLeDiff, reduceIte, reduceCtorEq, e19, e20, List.length_map, verOf_map, Int.toNat_natCast, toNat_pred, ↓dBuc_size, ↓dBuc_isAg, ↓dBuc_nav, ↓dBuc_vp, dBuc_fold, ↓dObj_size, ↓dObj_isAg, ↓dObj_nav, ↓dObj_vp, dObj_fold, ↓dVer_size, ↓dVer_isAg, ↓dVer_nav, ↓dVer_vp, dVer_fold, ↓dLock_size, ↓dLock_isAg, ↓dLock_nav, ↓dLock_vp, dLock_fold, ↓dRow_size, ↓dRow_isAg, ↓dRow_nav, ↓dRow_vp, dRow_fold, ↓dSpot_size, ↓dSpot_isAg, ↓dSpot_nav, ↓dSpot_vp, dSpot_fold, ↓dFil_size, ↓dFil_isAg, ↓dFil_nav, ↓dFil_vp, dFil_fold]
              try simp (disch := omega) only [wrap64, wrapU64]
              repeat (first | refine And.intro cl ?_ | intro e)
              refine hK1 _ ?_
              clear hK1 K1
            refine XE ?_
            refine hK _ ?_
            clear hK K
            simp only [Wps_nil, thenQ_normal, thenQ_exit, thenQ_ret, blkQ_normal, blkQ_ret, blkQ_if, blkQ_same, scQ_normal, scQ_ret, scQ_exit, Nat.reduceEqDiff, reduceIte, eq_self, reduceCtorEq, if_true, if_false]
            refine ⟨_, _, ?h1, ⟨n - 1, rs, rfl, (by omega), hn1, (by rw [hn2, versIn_succ _ _ _ _ hn, if_pos hr5]), ?h2⟩, Wk_cut (L' := [.box (.d (dBuc b)), .box (.d (dSpot frm)), .box (pageV 3 rs most false), .tok 55 44 rs.length, .box (.d (dObj (b.objs.getD i default)))]) rfl [1, 6, 11, 13, 14, 26, 27, 28] rfl (by simp [belS, keepL, at_cons, at_nil, AV.bel, AV.bels]) (by simp [BelL, Res.bel, AV.bel, AV.bels]) (by simp) rfl⟩
            case h2 =>
              simp only [St.keep, keepL, at_cons, at_nil, Nat.reduceEqDiff, reduceIte, eq_self]
              rw [show ((n : Int) - 1 - 1) = ((n - 1 : Nat) : Int) - 1 by omega] <;> first | rfl | (apply St_eq <;> first | rfl | (simp; done))
            case h1 => omega
          · have hr5 := hc5
            try simp only [decide_eq_true_eq, decide_eq_false_iff_not, Bool.not_eq_true', Bool.not_eq_false', Int.not_lt, Int.not_le, ge_iff_le, gt_iff_lt, Bool.or_eq_false_iff, Bool.or_eq_true, Bool.and_eq_true, Bool.and_eq_false_imp, beq_iff_eq, beq_eq_false_iff_ne, ne_eq, bne_iff_ne, bne_eq_false_iff_eq] at hc5
            refine Wps_skip ?_
            refine Wps_seq ?_
            refine Wps_reg (T := [(19, e19), (20, e20)]) ⟨e19_ok, e20_ok, trivial⟩ [1, 6, 11, 13, 14, 26, 27, 28, 86] rfl (by simp) fun K hK => ?_
            repeat
              (first | refine X0 rfl fun K1 hK1 => ?_ | refine X1 rfl rfl fun K1 hK1 => ?_)
              simp only [↓EP, EQ, implies_true, forall_const, tys, zoks, zeros, Nat.reduceEqDiff, Nat.reduceAdd, Nat.reduceLT, Nat.reduceLeDiff, reduceIte, reduceCtorEq, e19, e20, List.length_map, verOf_map, Int.toNat_natCast, toNat_pred, ↓dBuc_size, ↓dBuc_isAg, ↓dBuc_nav, ↓dBuc_vp, dBuc_fold, ↓dObj_size, ↓dObj_isAg, ↓dObj_nav, ↓dObj_vp, dObj_fold, ↓dVer_size, ↓dVer_isAg, ↓dVer_nav, ↓dVer_vp, dVer_fold, ↓dLock_size, ↓dLock_isAg, ↓dLock_nav, ↓dLock_vp, dLock_fold, ↓dRow_size, ↓dRow_isAg, ↓dRow_nav, ↓dRow_vp, dRow_fold, ↓dSpot_size, ↓dSpot_isAg, ↓dSpot_nav, ↓dSpot_vp, dSpot_fold, ↓dFil_size, ↓dFil_isAg, ↓dFil_nav, ↓dFil_vp, dFil_fold]
              try simp (disch := omega) only [wrap64, wrapU64]
              try (refine (f22_ok' _ 2 3 rs most false _ rfl rfl (by omega)).mono ?_; rintro r' L' ⟨rfl, rfl⟩)
              repeat (first | refine And.intro cl ?_ | intro e)
              refine hK1 _ ?_
              clear hK1 K1
            refine XE ?_
            refine hK _ _ (by simp only [St.keep, keepL, at_cons, at_nil, Nat.reduceEqDiff, reduceIte, eq_self]; rfl) ?_
            clear hK K
            refine Wps_cond rfl (fun hc6 => ?_) (fun hc6 => ?_)
            · have hr6 := hc6
              try simp only [decide_eq_true_eq, decide_eq_false_iff_not, Bool.not_eq_true', Bool.not_eq_false', Int.not_lt, Int.not_le, ge_iff_le, gt_iff_lt, Bool.or_eq_false_iff, Bool.or_eq_true, Bool.and_eq_true, Bool.and_eq_false_imp, beq_iff_eq, beq_eq_false_iff_ne, ne_eq, bne_iff_ne, bne_eq_false_iff_eq] at hc6
              have he : (rs.length : Int) = most := by simpa using hr6
              rw [if_pos he]
              refine Wps_exit ?_
              simp only [Wps_nil, thenQ_normal, thenQ_exit, thenQ_ret, blkQ_normal, blkQ_ret, blkQ_if, blkQ_same, scQ_normal, scQ_ret, scQ_exit, Nat.reduceEqDiff, reduceIte, eq_self, reduceCtorEq, if_true, if_false]
              refine Wps_seq ?_
              refine Wps_drw (T := [(19, e19), (20, e20)]) ⟨e19_ok, e20_ok, trivial⟩ (by kernel_rfl) [(0, true), (1, true), (2, true), (3, true), (4, true), (5, true), (6, true), (7, true), (8, true), (9, true), (10, true)] (by kernel_rfl) [8, 9, 10] rfl (by simp) fun K hK => ?_
              repeat
                (first | refine R0 rfl rfl fun K1 hK1 => ?_ | refine R1 rfl rfl rfl fun K1 hK1 => ?_ | refine Q0 rfl rfl fun K1 hK1 => ?_ | refine Q1 rfl rfl rfl fun K1 hK1 => ?_)
                simp only [↓EP, EQ, implies_true, forall_const, tys, zoks, zeros, Nat.reduceEqDiff, Nat.reduceAdd, Nat.reduceLT, Nat.reduceLeDiff, reduceIte, reduceCtorEq, e19, e20, List.length_map, verOf_map, Int.toNat_natCast, toNat_pred, ↓dBuc_size, ↓dBuc_isAg, ↓dBuc_nav, ↓dBuc_vp, dBuc_fold, ↓dObj_size, ↓dObj_isAg, ↓dObj_nav, ↓dObj_vp, dObj_fold, ↓dVer_size, ↓dVer_isAg, ↓dVer_nav, ↓dVer_vp, dVer_fold, ↓dLock_size, ↓dLock_isAg, ↓dLock_nav, ↓dLock_vp, dLock_fold, ↓dRow_size, ↓dRow_isAg, ↓dRow_nav, ↓dRow_vp, dRow_fold, ↓dSpot_size, ↓dSpot_isAg, ↓dSpot_nav, ↓dSpot_vp, dSpot_fold, ↓dFil_size, ↓dFil_isAg, ↓dFil_nav, ↓dFil_vp, dFil_fold]
                try simp (disch := omega) only [wrap64, wrapU64]
                repeat (first | refine And.intro cl ?_ | intro e)
                refine hK1 _ ?_
                clear hK1 K1
              refine OE ?_
              refine hK _ _ (by simp only [St.keep, keepL, at_cons, at_nil, Nat.reduceEqDiff, reduceIte, eq_self]; rfl) ?_
              clear hK K
              refine Wps_weak (Wk_slots (l' := [(8, .d (dRows _)), (9, _), (10, _)]) ⟨Imp.own _ _ _, Imp.refl _, Imp.refl _, trivial⟩) ?_ (by simp)
              refine Wps_ret ?_
              try simp only [Wps_nil, thenQ_normal, thenQ_exit, thenQ_ret, blkQ_normal, blkQ_ret, blkQ_if, blkQ_same, scQ_normal, scQ_ret, scQ_exit, Nat.reduceEqDiff, reduceIte, eq_self, reduceCtorEq, if_true, if_false]
              first | refine ret_pureQ rfl ?_ | refine ret_pureN rfl ?_
              simp only [retP, at_cons, at_nil, Nat.reduceEqDiff, reduceIte, eq_self, AV.use, retV, AV.bel, AV.bels, true_and, and_true]
              rw [rowsR, if_neg (by omega), hi2, drop_getD hi, versB, if_neg (Bool.eq_false_iff.1 hr3), hn2, versIn_succ _ _ _ _ hn, if_neg (Bool.eq_false_iff.1 hr5), if_pos he]
              simp
            · have hr6 := hc6
              try simp only [decide_eq_true_eq, decide_eq_false_iff_not, Bool.not_eq_true', Bool.not_eq_false', Int.not_lt, Int.not_le, ge_iff_le, gt_iff_lt, Bool.or_eq_false_iff, Bool.or_eq_true, Bool.and_eq_true, Bool.and_eq_false_imp, beq_iff_eq, beq_eq_false_iff_ne, ne_eq, bne_iff_ne, bne_eq_false_iff_eq] at hc6
              have hne : ¬ (rs.length : Int) = most := by simpa using hr6
              rw [if_neg hne]
              refine Wps_skip ?_
              simp only [Wps_nil, thenQ_normal, thenQ_exit, thenQ_ret, blkQ_normal, blkQ_ret, blkQ_if, blkQ_same, scQ_normal, scQ_ret, scQ_exit, Nat.reduceEqDiff, reduceIte, eq_self, reduceCtorEq, if_true, if_false]
              refine Wps_regionX' (T := [(19, e19), (20, e20)]) ⟨e19_ok, e20_ok, trivial⟩ rfl fun K hK => ?_
              repeat
                (first | refine X0 rfl fun K1 hK1 => ?_ | refine X1 rfl rfl fun K1 hK1 => ?_)
                simp only [↓EP, EQ, implies_true, forall_const, tys, zoks, zeros, Nat.reduceEqDiff, Nat.reduceAdd, Nat.reduceLT, Nat.reduceLeDiff, reduceIte, reduceCtorEq, e19, e20, List.length_map, verOf_map, Int.toNat_natCast, toNat_pred, ↓dBuc_size, ↓dBuc_isAg, ↓dBuc_nav, ↓dBuc_vp, dBuc_fold, ↓dObj_size, ↓dObj_isAg, ↓dObj_nav, ↓dObj_vp, dObj_fold, ↓dVer_size, ↓dVer_isAg, ↓dVer_nav, ↓dVer_vp, dVer_fold, ↓dLock_size, ↓dLock_isAg, ↓dLock_nav, ↓dLock_vp, dLock_fold, ↓dRow_size, ↓dRow_isAg, ↓dRow_nav, ↓dRow_vp, dRow_fold, ↓dSpot_size, ↓dSpot_isAg, ↓dSpot_nav, ↓dSpot_vp, dSpot_fold, ↓dFil_size, ↓dFil_isAg, ↓dFil_nav, ↓dFil_vp, dFil_fold]
                try simp (disch := omega) only [wrap64, wrapU64]
                repeat (first | refine And.intro cl ?_ | intro e)
                refine hK1 _ ?_
                clear hK1 K1
              refine XE ?_
              refine hK _ ?_
              clear hK K
              simp only [Wps_nil, thenQ_normal, thenQ_exit, thenQ_ret, blkQ_normal, blkQ_ret, blkQ_if, blkQ_same, scQ_normal, scQ_ret, scQ_exit, Nat.reduceEqDiff, reduceIte, eq_self, reduceCtorEq, if_true, if_false]
              refine ⟨_, _, ?h1, ⟨n - 1, rs ++ [⟨(b.objs.getD i default).key, false, ((b.objs.getD i default).vers.getD (n - 1) default), ((n : Int) - 1 == ((b.objs.getD i default).vers.length : Int) - 1)⟩], rfl, (by omega), (by simp; omega), (by rw [hn2, versIn_succ _ _ _ _ hn, if_neg (Bool.eq_false_iff.1 hr5), if_neg hne]), ?h2⟩, Wk_cut (L' := [.box (.d (dBuc b)), .box (.d (dSpot frm)), .box (pageV 3 (rs ++ [⟨(b.objs.getD i default).key, false, ((b.objs.getD i default).vers.getD (n - 1) default), ((n : Int) - 1 == ((b.objs.getD i default).vers.length : Int) - 1)⟩]) most false), .tok 55 44 (rs.length + 1), .box (.d (dObj (b.objs.getD i default)))]) rfl [1, 6, 11, 13, 14, 26, 27, 28] rfl (by simp [belS, keepL, at_cons, at_nil, AV.bel, AV.bels]) (by simp [BelL, Res.bel, AV.bel, AV.bels]) (by simp) rfl⟩
              case h2 =>
                simp only [St.keep, keepL, at_cons, at_nil, Nat.reduceEqDiff, reduceIte, eq_self]
                rw [show ((n : Int) - 1 - 1) = ((n - 1 : Nat) : Int) - 1 by omega] <;> first | rfl | (apply St_eq <;> first | rfl | (simp; done))
              case h1 => omega
        · have hr4 := hc4
          try simp only [decide_eq_true_eq, decide_eq_false_iff_not, Bool.not_eq_true', Bool.not_eq_false', Int.not_lt, Int.not_le, ge_iff_le, gt_iff_lt, Bool.or_eq_false_iff, Bool.or_eq_true, Bool.and_eq_true, Bool.and_eq_false_imp, beq_iff_eq, beq_eq_false_iff_ne, ne_eq, bne_iff_ne, bne_eq_false_iff_eq] at hc4
          refine Wps_exit ?_
          simp only [Wps_nil, thenQ_normal, thenQ_exit, thenQ_ret, blkQ_normal, blkQ_ret, blkQ_if, blkQ_same, scQ_normal, scQ_ret, scQ_exit, Nat.reduceEqDiff, reduceIte, eq_self, reduceCtorEq, if_true, if_false]
          try simp only [Wps_nil, thenQ_normal, thenQ_exit, thenQ_ret, blkQ_normal, blkQ_ret, blkQ_if, blkQ_same, scQ_normal, scQ_ret, scQ_exit, Nat.reduceEqDiff, reduceIte, eq_self, reduceCtorEq, if_true, if_false]
          refine Wps_regionX' (T := [(19, e19), (20, e20)]) ⟨e19_ok, e20_ok, trivial⟩ rfl fun K hK => ?_
          repeat
            (first | refine X0 rfl fun K1 hK1 => ?_ | refine X1 rfl rfl fun K1 hK1 => ?_)
            simp only [↓EP, EQ, implies_true, forall_const, tys, zoks, zeros, Nat.reduceEqDiff, Nat.reduceAdd, Nat.reduceLT, Nat.reduceLeDiff, reduceIte, reduceCtorEq, e19, e20, List.length_map, verOf_map, Int.toNat_natCast, toNat_pred, ↓dBuc_size, ↓dBuc_isAg, ↓dBuc_nav, ↓dBuc_vp, dBuc_fold, ↓dObj_size, ↓dObj_isAg, ↓dObj_nav, ↓dObj_vp, dObj_fold, ↓dVer_size, ↓dVer_isAg, ↓dVer_nav, ↓dVer_vp, dVer_fold, ↓dLock_size, ↓dLock_isAg, ↓dLock_nav, ↓dLock_vp, dLock_fold, ↓dRow_size, ↓dRow_isAg, ↓dRow_nav, ↓dRow_vp, dRow_fold, ↓dSpot_size, ↓dSpot_isAg, ↓dSpot_nav, ↓dSpot_vp, dSpot_fold, ↓dFil_size, ↓dFil_isAg, ↓dFil_nav, ↓dFil_vp, dFil_fold]
            try simp (disch := omega) only [wrap64, wrapU64]
            repeat (first | refine And.intro cl ?_ | intro e)
            refine hK1 _ ?_
            clear hK1 K1
          refine XE ?_
          refine hK _ ?_
          clear hK K
          simp only [Wps_nil, thenQ_normal, thenQ_exit, thenQ_ret, blkQ_normal, blkQ_ret, blkQ_if, blkQ_same, scQ_normal, scQ_ret, scQ_exit, Nat.reduceEqDiff, reduceIte, eq_self, reduceCtorEq, if_true, if_false]
          refine ⟨_, _, ?h1, ⟨i + 1, rs, rfl, (by omega), hn1, (by rw [hi2, drop_getD hi, versB, if_neg (Bool.eq_false_iff.1 hr3), hn2, show n = 0 by omega, versIn] <;> simp), ?h2⟩, Wk_cut (L' := [.box (.d (dBuc b)), .box (.d (dSpot frm)), .box (pageV 3 rs most false), .tok 55 44 rs.length]) rfl [1, 6, 11, 26, 27, 28] rfl (by simp [belS, keepL, at_cons, at_nil, AV.bel, AV.bels]) (by simp [BelL, Res.bel, AV.bel, AV.bels]) (by simp) rfl⟩
          case h2 =>
            simp only [St.keep, keepL, at_cons, at_nil, Nat.reduceEqDiff, reduceIte, eq_self]
            first | rfl | (apply St_eq <;> first | rfl | (simp; done)) | (rw [wrapS (i := i) (by omega)]; first | rfl | (apply St_eq <;> first | rfl | (simp; done)))
          case h1 => omega
    · have hr2 := hc2
      try simp only [decide_eq_true_eq, decide_eq_false_iff_not, Bool.not_eq_true', Bool.not_eq_false', Int.not_lt, Int.not_le, ge_iff_le, gt_iff_lt, Bool.or_eq_false_iff, Bool.or_eq_true, Bool.and_eq_true, Bool.and_eq_false_imp, beq_iff_eq, beq_eq_false_iff_ne, ne_eq, bne_iff_ne, bne_eq_false_iff_eq] at hc2
      refine Wps_exit ?_
      simp only [Wps_nil, thenQ_normal, thenQ_exit, thenQ_ret, blkQ_normal, blkQ_ret, blkQ_if, blkQ_same, scQ_normal, scQ_ret, scQ_exit, Nat.reduceEqDiff, reduceIte, eq_self, reduceCtorEq, if_true, if_false]
      refine Wps_seq ?_
      refine Wps_drw (T := [(19, e19), (20, e20)]) ⟨e19_ok, e20_ok, trivial⟩ (by kernel_rfl) [(0, true), (1, true), (2, true), (3, true), (4, true), (5, true), (6, true), (7, true), (8, true), (9, true), (10, true)] (by kernel_rfl) [8, 9, 10] rfl (by simp) fun K hK => ?_
      repeat
        (first | refine R0 rfl rfl fun K1 hK1 => ?_ | refine R1 rfl rfl rfl fun K1 hK1 => ?_ | refine Q0 rfl rfl fun K1 hK1 => ?_ | refine Q1 rfl rfl rfl fun K1 hK1 => ?_)
        simp only [↓EP, EQ, implies_true, forall_const, tys, zoks, zeros, Nat.reduceEqDiff, Nat.reduceAdd, Nat.reduceLT, Nat.reduceLeDiff, reduceIte, reduceCtorEq, e19, e20, List.length_map, verOf_map, Int.toNat_natCast, toNat_pred, ↓dBuc_size, ↓dBuc_isAg, ↓dBuc_nav, ↓dBuc_vp, dBuc_fold, ↓dObj_size, ↓dObj_isAg, ↓dObj_nav, ↓dObj_vp, dObj_fold, ↓dVer_size, ↓dVer_isAg, ↓dVer_nav, ↓dVer_vp, dVer_fold, ↓dLock_size, ↓dLock_isAg, ↓dLock_nav, ↓dLock_vp, dLock_fold, ↓dRow_size, ↓dRow_isAg, ↓dRow_nav, ↓dRow_vp, dRow_fold, ↓dSpot_size, ↓dSpot_isAg, ↓dSpot_nav, ↓dSpot_vp, dSpot_fold, ↓dFil_size, ↓dFil_isAg, ↓dFil_nav, ↓dFil_vp, dFil_fold]
        try simp (disch := omega) only [wrap64, wrapU64]
        repeat (first | refine And.intro cl ?_ | intro e)
        refine hK1 _ ?_
        clear hK1 K1
      refine OE ?_
      refine hK _ _ (by simp only [St.keep, keepL, at_cons, at_nil, Nat.reduceEqDiff, reduceIte, eq_self]; rfl) ?_
      clear hK K
      refine Wps_weak (Wk_slots (l' := [(8, .d (dRows _)), (9, _), (10, _)]) ⟨Imp.own _ _ _, Imp.refl _, Imp.refl _, trivial⟩) ?_ (by simp)
      refine Wps_ret ?_
      try simp only [Wps_nil, thenQ_normal, thenQ_exit, thenQ_ret, blkQ_normal, blkQ_ret, blkQ_if, blkQ_same, scQ_normal, scQ_ret, scQ_exit, Nat.reduceEqDiff, reduceIte, eq_self, reduceCtorEq, if_true, if_false]
      first | refine ret_pureQ rfl ?_ | refine ret_pureN rfl ?_
      simp only [retP, at_cons, at_nil, Nat.reduceEqDiff, reduceIte, eq_self, AV.use, retV, AV.bel, AV.bels, true_and, and_true]
      rw [rowsR, if_neg (by omega), hi2, List.drop_of_length_le (by omega), versB]

end Go.Proofs.Ytolplbfonlhbhaa
