/- Contracts, second part: versions, objects, rows. -/
import Derived.Test.YtolplbfonlhbhaaC1
set_option maxRecDepth 20000
set_option linter.unusedVariables false
set_option linter.unusedSectionVars false
set_option linter.unusedSimpArgs false
namespace Go.Proofs.Ytolplbfonlhbhaa
open Go Go.Eng
variable [Globs]

structure LockL where
  mode : Int
  til : Int
  hold : Bool
  deriving Inhabited
def dLock (l : LockL) : D := .ag [.raw (.int .i64 l.mode), .raw (.int .i64 l.til), .raw (.bool l.hold)]
def dByte (b : UInt8) : D := .raw (.int .u8 b.toNat)
structure VerL where
  id : Int
  marker : Bool
  size : Int
  blob : Int
  digest : List UInt8
  created : Int
  lock : LockL
  tags : List TagL
  deriving Inhabited
def dVer (v : VerL) : D := .ag [.raw (.int .u64 v.id), .raw (.bool v.marker), .raw (.int .i64 v.size), .raw (.int .u64 v.blob), .arr 32 1 (v.digest.map dByte), .raw (.int .i64 v.created), dLock v.lock, dTags v.tags]
structure ObjL where
  key : ByteArray
  vers : List VerL
  deriving Inhabited
def dObj (o : ObjL) : D := .ag [.raw (.string o.key), .sl 41 (o.vers.map dVer)]
structure RowL where
  key : ByteArray
  group : Bool
  ver : VerL
  latest : Bool
  deriving Inhabited
def dRow (r : RowL) : D := .ag [.raw (.string r.key), .raw (.bool r.group), dVer r.ver, .raw (.bool r.latest)]
abbrev dRows (l : List RowL) : D := .sl 44 (l.map dRow)
structure SpotL where
  bucket : ByteArray
  key : ByteArray
  id : Int
def dSpot (s : SpotL) : D := .ag [.raw (.string s.bucket), .raw (.string s.key), .raw (.int .u64 s.id)]
structure FilL where
  pre : ByteArray
  tags : List TagL
  frm : Int
  til : Int
  least : Int
  most : Int
  latest : Bool
def dFil (f : FilL) : D := .ag [.raw (.string f.pre), dTags f.tags, .raw (.int .i64 f.frm), .raw (.int .i64 f.til), .raw (.int .i64 f.least), .raw (.int .i64 f.most), .raw (.bool f.latest)]
abbrev U (n : Int) : AV := .d (.raw (.int .u64 n))
abbrev nil0 : ByteArray := ⟨#[]⟩
def isAhead (key : ByteArray) (id : Int) (s : SpotL) : Bool := !strEq s.key nil0 && (strLt key s.key || strEq key s.key && decide (id ≥ s.id))
def isWanted (f : FilL) (v : VerL) (latest : Bool) : Bool :=
  !v.marker && !(f.latest && !latest) && !decide (v.created < f.frm) && !decide (v.created > f.til) && !decide (v.size < f.least) && !decide (v.size > f.most) && within f.tags v.tags

-- list.ahead
theorem f27_ok (k : ByteArray) (id : Int) (s : SpotL) : PureOk Try.prog 27 [S k, U id, .d (dSpot s)] fun r => r = B (isAhead k id s) := by
  refine PureOk_of (fn := Try.f27) (rs := [.tmp 6]) (n := 28) (hf := Try.func27) (hn := by kernel_rfl) (hb := rfl) (hr := rfl) (hN := rfl) (hargs := by simp) (ha := by simp [AV.bels, AV.bel]) (hrb := by rintro _ rfl; simp [AV.bel, AV.bels]) (h := fun Z0 w0 => ?_)
  simp only [enumA, Nat.zero_add]
  refine Wps_seq ?_
  refine Wps_reg (T := []) trivial [0, 1, 5] rfl (by simp) fun K hK => ?_
  repeat
    (first | refine X0 rfl fun K1 hK1 => ?_ | refine X1 rfl rfl fun K1 hK1 => ?_)
    simp only [↓EP, EQ, implies_true, forall_const, tys, zoks, zeros, Nat.reduceEqDiff, Nat.reduceAdd, Nat.reduceLT, Nat.reduceLeDiff, reduceIte, reduceCtorEq, dSpot]
    try simp (disch := omega) only [wrap64, wrapU64]
    repeat (first | refine And.intro (by clear hK1 hK; first | omega | (simp; done) | (simp_all; done)) ?_ | intro e)
    refine hK1 _ ?_
    clear hK1 K1
  refine XE ?_
  refine hK _ _ (by simp only [St.keep, keepL, at_cons, at_nil, Nat.reduceEqDiff, reduceIte, eq_self]; rfl) ?_
  clear hK K
  refine Wps_seq ?_
  refine Wps_reg (T := []) trivial [6] rfl (by simp) fun K hK => ?_
  repeat
    (first | refine X0 rfl fun K1 hK1 => ?_ | refine X1 rfl rfl fun K1 hK1 => ?_)
    simp only [↓EP, EQ, implies_true, forall_const, tys, zoks, zeros, Nat.reduceEqDiff, Nat.reduceAdd, Nat.reduceLT, Nat.reduceLeDiff, reduceIte, reduceCtorEq, dSpot]
    try simp (disch := omega) only [wrap64, wrapU64]
    repeat (first | refine And.intro (by clear hK1 hK; first | omega | (simp; done) | (simp_all; done)) ?_ | intro e)
    refine hK1 _ ?_
    clear hK1 K1
  refine XE ?_
  refine hK _ _ (by simp only [St.keep, keepL, at_cons, at_nil, Nat.reduceEqDiff, reduceIte, eq_self]; rfl) ?_
  clear hK K
  refine Wps_ret ?_
  try simp only [Wps_nil, thenQ_normal, thenQ_exit, thenQ_ret, blkQ_normal, blkQ_ret, blkQ_if, blkQ_same, scQ_normal, scQ_ret, scQ_exit, Nat.reduceEqDiff, reduceIte, eq_self, reduceCtorEq, if_true, if_false]
  first | refine ret_pureQ rfl ?_ | refine ret_pureN rfl ?_
  simp only [retP, at_cons, at_nil, Nat.reduceEqDiff, reduceIte, eq_self, AV.use, retV, AV.bel, AV.bels, true_and, and_true]
  simp only [isAhead]
  all_goals cases strEq s.key nil0 <;> cases strLt k s.key <;> cases strEq k s.key <;> cases h : decide (id ≥ s.id) <;> simp_all

-- list.Filter).wants
theorem f28_ok (f : FilL) (v : VerL) (latest : Bool) (hf : f.tags.length ≤ 4611686018427387904) (hv : v.tags.length ≤ 4611686018427387904) : PureOk Try.prog 28 [.d (dFil f), .d (dVer v), B latest] fun r => r = B (isWanted f v latest) := by
  refine PureOk_of (fn := Try.f28) (rs := [.tmp 6]) (n := 42) (hf := Try.func28) (hn := by kernel_rfl) (hb := rfl) (hr := rfl) (hN := rfl) (hargs := by simp) (ha := by simp [AV.bels, AV.bel]) (hrb := by rintro _ rfl; simp [AV.bel, AV.bels]) (h := fun Z0 w0 => ?_)
  simp only [enumA, Nat.zero_add]
  refine Wps_seq ?_
  refine Wps_reg (T := [(42, eWithin)]) ⟨e42_ok, trivial⟩ [2, 3, 4] rfl (by simp) fun K hK => ?_
  repeat
    (first | refine X0 rfl fun K1 hK1 => ?_ | refine X1 rfl rfl fun K1 hK1 => ?_)
    simp only [↓EP, EQ, implies_true, forall_const, tys, zoks, zeros, Nat.reduceEqDiff, Nat.reduceAdd, Nat.reduceLT, Nat.reduceLeDiff, reduceIte, reduceCtorEq, dFil, dVer, dLock, eWithin, tagsOf_map]
    try simp (disch := omega) only [wrap64, wrapU64]
    repeat (first | refine And.intro cl ?_ | intro e)
    refine hK1 _ ?_
    clear hK1 K1
  refine XE ?_
  refine hK _ _ (by simp only [St.keep, keepL, at_cons, at_nil, Nat.reduceEqDiff, reduceIte, eq_self]; rfl) ?_
  clear hK K
  refine Wps_seq ?_
  refine Wps_block ?_
  refine Wps_seq ?_
  refine Wps_seq ?_
  refine Wps_reg (T := [(42, eWithin)]) ⟨e42_ok, trivial⟩ [2, 3, 4, 7] rfl (by simp) fun K hK => ?_
  repeat
    (first | refine X0 rfl fun K1 hK1 => ?_ | refine X1 rfl rfl fun K1 hK1 => ?_)
    simp only [↓EP, EQ, implies_true, forall_const, tys, zoks, zeros, Nat.reduceEqDiff, Nat.reduceAdd, Nat.reduceLT, Nat.reduceLeDiff, reduceIte, reduceCtorEq, dFil, dVer, dLock, eWithin, tagsOf_map]
    try simp (disch := omega) only [wrap64, wrapU64]
    repeat (first | refine And.intro cl ?_ | intro e)
    refine hK1 _ ?_
    clear hK1 K1
  refine XE ?_
  refine hK _ _ (by simp only [St.keep, keepL, at_cons, at_nil, Nat.reduceEqDiff, reduceIte, eq_self]; rfl) ?_
  clear hK K
  refine Wps_cond rfl (fun hc1 => ?_) (fun hc1 => ?_)
  · try simp only [decide_eq_true_eq, decide_eq_false_iff_not, Bool.not_eq_true', Bool.not_eq_false', Int.not_lt, Int.not_le, ge_iff_le, gt_iff_lt, Bool.or_eq_false_iff, Bool.or_eq_true, Bool.and_eq_true, Bool.and_eq_false_imp, beq_iff_eq, beq_eq_false_iff_ne, ne_eq, bne_iff_ne, bne_eq_false_iff_eq] at hc1
    refine Wps_skip ?_
    refine Wps_cond rfl (fun hc2 => ?_) (fun hc2 => ?_)
    · try simp only [decide_eq_true_eq, decide_eq_false_iff_not, Bool.not_eq_true', Bool.not_eq_false', Int.not_lt, Int.not_le, ge_iff_le, gt_iff_lt, Bool.or_eq_false_iff, Bool.or_eq_true, Bool.and_eq_true, Bool.and_eq_false_imp, beq_iff_eq, beq_eq_false_iff_ne, ne_eq, bne_iff_ne, bne_eq_false_iff_eq] at hc2
      refine Wps_seq ?_
      refine Wps_reg (T := [(42, eWithin)]) ⟨e42_ok, trivial⟩ [6] rfl (by simp) fun K hK => ?_
      repeat
        (first | refine X0 rfl fun K1 hK1 => ?_ | refine X1 rfl rfl fun K1 hK1 => ?_)
        simp only [↓EP, EQ, implies_true, forall_const, tys, zoks, zeros, Nat.reduceEqDiff, Nat.reduceAdd, Nat.reduceLT, Nat.reduceLeDiff, reduceIte, reduceCtorEq, dFil, dVer, dLock, eWithin, tagsOf_map]
        try simp (disch := omega) only [wrap64, wrapU64]
        repeat (first | refine And.intro cl ?_ | intro e)
        refine hK1 _ ?_
        clear hK1 K1
      refine XE ?_
      refine hK _ _ (by simp only [St.keep, keepL, at_cons, at_nil, Nat.reduceEqDiff, reduceIte, eq_self]; rfl) ?_
      clear hK K
      refine Wps_ret ?_
      try simp only [Wps_nil, thenQ_normal, thenQ_exit, thenQ_ret, blkQ_normal, blkQ_ret, blkQ_if, blkQ_same, scQ_normal, scQ_ret, scQ_exit, Nat.reduceEqDiff, reduceIte, eq_self, reduceCtorEq, if_true, if_false]
      first | refine ret_pureQ rfl ?_ | refine ret_pureN rfl ?_
      simp only [retP, at_cons, at_nil, Nat.reduceEqDiff, reduceIte, eq_self, AV.use, retV, AV.bel, AV.bels, true_and, and_true]
      first | (exfalso; omega) | (exfalso; simp_all; done) | (simp [isWanted, *]; done) | (simp_all [isWanted]; done) | (simp_all [isWanted]; omega) | (cases hl : f.latest <;> cases latest <;> simp_all [isWanted, ← Int.not_le])
    · try simp only [decide_eq_true_eq, decide_eq_false_iff_not, Bool.not_eq_true', Bool.not_eq_false', Int.not_lt, Int.not_le, ge_iff_le, gt_iff_lt, Bool.or_eq_false_iff, Bool.or_eq_true, Bool.and_eq_true, Bool.and_eq_false_imp, beq_iff_eq, beq_eq_false_iff_ne, ne_eq, bne_iff_ne, bne_eq_false_iff_eq] at hc2
      refine Wps_seq ?_
      refine Wps_seq ?_
      refine Wps_reg (T := [(42, eWithin)]) ⟨e42_ok, trivial⟩ [3, 4, 16] rfl (by simp) fun K hK => ?_
      repeat
        (first | refine X0 rfl fun K1 hK1 => ?_ | refine X1 rfl rfl fun K1 hK1 => ?_)
        simp only [↓EP, EQ, implies_true, forall_const, tys, zoks, zeros, Nat.reduceEqDiff, Nat.reduceAdd, Nat.reduceLT, Nat.reduceLeDiff, reduceIte, reduceCtorEq, dFil, dVer, dLock, eWithin, tagsOf_map]
        try simp (disch := omega) only [wrap64, wrapU64]
        repeat (first | refine And.intro cl ?_ | intro e)
        refine hK1 _ ?_
        clear hK1 K1
      refine XE ?_
      refine hK _ _ (by simp only [St.keep, keepL, at_cons, at_nil, Nat.reduceEqDiff, reduceIte, eq_self]; rfl) ?_
      clear hK K
      refine Wps_cond rfl (fun hc3 => ?_) (fun hc3 => ?_)
      · try simp only [decide_eq_true_eq, decide_eq_false_iff_not, Bool.not_eq_true', Bool.not_eq_false', Int.not_lt, Int.not_le, ge_iff_le, gt_iff_lt, Bool.or_eq_false_iff, Bool.or_eq_true, Bool.and_eq_true, Bool.and_eq_false_imp, beq_iff_eq, beq_eq_false_iff_ne, ne_eq, bne_iff_ne, bne_eq_false_iff_eq] at hc3
        refine Wps_skip ?_
        refine Wps_cond rfl (fun hc4 => ?_) (fun hc4 => ?_)
        · try simp only [decide_eq_true_eq, decide_eq_false_iff_not, Bool.not_eq_true', Bool.not_eq_false', Int.not_lt, Int.not_le, ge_iff_le, gt_iff_lt, Bool.or_eq_false_iff, Bool.or_eq_true, Bool.and_eq_true, Bool.and_eq_false_imp, beq_iff_eq, beq_eq_false_iff_ne, ne_eq, bne_iff_ne, bne_eq_false_iff_eq] at hc4
          refine Wps_seq ?_
          refine Wps_reg (T := [(42, eWithin)]) ⟨e42_ok, trivial⟩ [6] rfl (by simp) fun K hK => ?_
          repeat
            (first | refine X0 rfl fun K1 hK1 => ?_ | refine X1 rfl rfl fun K1 hK1 => ?_)
            simp only [↓EP, EQ, implies_true, forall_const, tys, zoks, zeros, Nat.reduceEqDiff, Nat.reduceAdd, Nat.reduceLT, Nat.reduceLeDiff, reduceIte, reduceCtorEq, dFil, dVer, dLock, eWithin, tagsOf_map]
            try simp (disch := omega) only [wrap64, wrapU64]
            repeat (first | refine And.intro cl ?_ | intro e)
            refine hK1 _ ?_
            clear hK1 K1
          refine XE ?_
          refine hK _ _ (by simp only [St.keep, keepL, at_cons, at_nil, Nat.reduceEqDiff, reduceIte, eq_self]; rfl) ?_
          clear hK K
          refine Wps_ret ?_
          try simp only [Wps_nil, thenQ_normal, thenQ_exit, thenQ_ret, blkQ_normal, blkQ_ret, blkQ_if, blkQ_same, scQ_normal, scQ_ret, scQ_exit, Nat.reduceEqDiff, reduceIte, eq_self, reduceCtorEq, if_true, if_false]
          first | refine ret_pureQ rfl ?_ | refine ret_pureN rfl ?_
          simp only [retP, at_cons, at_nil, Nat.reduceEqDiff, reduceIte, eq_self, AV.use, retV, AV.bel, AV.bels, true_and, and_true]
          first | (exfalso; omega) | (exfalso; simp_all; done) | (simp [isWanted, *]; done) | (simp_all [isWanted]; done) | (simp_all [isWanted]; omega) | (cases hl : f.latest <;> cases latest <;> simp_all [isWanted, ← Int.not_le])
        · try simp only [decide_eq_true_eq, decide_eq_false_iff_not, Bool.not_eq_true', Bool.not_eq_false', Int.not_lt, Int.not_le, ge_iff_le, gt_iff_lt, Bool.or_eq_false_iff, Bool.or_eq_true, Bool.and_eq_true, Bool.and_eq_false_imp, beq_iff_eq, beq_eq_false_iff_ne, ne_eq, bne_iff_ne, bne_eq_false_iff_eq] at hc4
          refine Wps_skip ?_
          simp only [Wps_nil, thenQ_normal, thenQ_exit, thenQ_ret, blkQ_normal, blkQ_ret, blkQ_if, blkQ_same, scQ_normal, scQ_ret, scQ_exit, Nat.reduceEqDiff, reduceIte, eq_self, reduceCtorEq, if_true, if_false]
          refine Wps_seq ?_
          refine Wps_reg (T := [(42, eWithin)]) ⟨e42_ok, trivial⟩ [6] rfl (by simp) fun K hK => ?_
          repeat
            (first | refine X0 rfl fun K1 hK1 => ?_ | refine X1 rfl rfl fun K1 hK1 => ?_)
            simp only [↓EP, EQ, implies_true, forall_const, tys, zoks, zeros, Nat.reduceEqDiff, Nat.reduceAdd, Nat.reduceLT, Nat.reduceLeDiff, reduceIte, reduceCtorEq, dFil, dVer, dLock, eWithin, tagsOf_map]
            try simp (disch := omega) only [wrap64, wrapU64]
            repeat (first | refine And.intro cl ?_ | intro e)
            refine hK1 _ ?_
            clear hK1 K1
          refine XE ?_
          refine hK _ _ (by simp only [St.keep, keepL, at_cons, at_nil, Nat.reduceEqDiff, reduceIte, eq_self]; rfl) ?_
          clear hK K
          refine Wps_ret ?_
          try simp only [Wps_nil, thenQ_normal, thenQ_exit, thenQ_ret, blkQ_normal, blkQ_ret, blkQ_if, blkQ_same, scQ_normal, scQ_ret, scQ_exit, Nat.reduceEqDiff, reduceIte, eq_self, reduceCtorEq, if_true, if_false]
          first | refine ret_pureQ rfl ?_ | refine ret_pureN rfl ?_
          simp only [retP, at_cons, at_nil, Nat.reduceEqDiff, reduceIte, eq_self, AV.use, retV, AV.bel, AV.bels, true_and, and_true]
          first | (exfalso; omega) | (exfalso; simp_all; done) | (simp [isWanted, *]; done) | (simp_all [isWanted]; done) | (simp_all [isWanted]; omega) | (cases hl : f.latest <;> cases latest <;> simp_all [isWanted, ← Int.not_le])
      · try simp only [decide_eq_true_eq, decide_eq_false_iff_not, Bool.not_eq_true', Bool.not_eq_false', Int.not_lt, Int.not_le, ge_iff_le, gt_iff_lt, Bool.or_eq_false_iff, Bool.or_eq_true, Bool.and_eq_true, Bool.and_eq_false_imp, beq_iff_eq, beq_eq_false_iff_ne, ne_eq, bne_iff_ne, bne_eq_false_iff_eq] at hc3
        refine Wps_seq ?_
        refine Wps_reg (T := [(42, eWithin)]) ⟨e42_ok, trivial⟩ [3, 4, 16] rfl (by simp) fun K hK => ?_
        repeat
          (first | refine X0 rfl fun K1 hK1 => ?_ | refine X1 rfl rfl fun K1 hK1 => ?_)
          simp only [↓EP, EQ, implies_true, forall_const, tys, zoks, zeros, Nat.reduceEqDiff, Nat.reduceAdd, Nat.reduceLT, Nat.reduceLeDiff, reduceIte, reduceCtorEq, dFil, dVer, dLock, eWithin, tagsOf_map]
          try simp (disch := omega) only [wrap64, wrapU64]
          repeat (first | refine And.intro cl ?_ | intro e)
          refine hK1 _ ?_
          clear hK1 K1
        refine XE ?_
        refine hK _ _ (by simp only [St.keep, keepL, at_cons, at_nil, Nat.reduceEqDiff, reduceIte, eq_self]; rfl) ?_
        clear hK K
        refine Wps_cond rfl (fun hc5 => ?_) (fun hc5 => ?_)
        · try simp only [decide_eq_true_eq, decide_eq_false_iff_not, Bool.not_eq_true', Bool.not_eq_false', Int.not_lt, Int.not_le, ge_iff_le, gt_iff_lt, Bool.or_eq_false_iff, Bool.or_eq_true, Bool.and_eq_true, Bool.and_eq_false_imp, beq_iff_eq, beq_eq_false_iff_ne, ne_eq, bne_iff_ne, bne_eq_false_iff_eq] at hc5
          refine Wps_skip ?_
          refine Wps_cond rfl (fun hc6 => ?_) (fun hc6 => ?_)
          · try simp only [decide_eq_true_eq, decide_eq_false_iff_not, Bool.not_eq_true', Bool.not_eq_false', Int.not_lt, Int.not_le, ge_iff_le, gt_iff_lt, Bool.or_eq_false_iff, Bool.or_eq_true, Bool.and_eq_true, Bool.and_eq_false_imp, beq_iff_eq, beq_eq_false_iff_ne, ne_eq, bne_iff_ne, bne_eq_false_iff_eq] at hc6
            refine Wps_seq ?_
            refine Wps_reg (T := [(42, eWithin)]) ⟨e42_ok, trivial⟩ [6] rfl (by simp) fun K hK => ?_
            repeat
              (first | refine X0 rfl fun K1 hK1 => ?_ | refine X1 rfl rfl fun K1 hK1 => ?_)
              simp only [↓EP, EQ, implies_true, forall_const, tys, zoks, zeros, Nat.reduceEqDiff, Nat.reduceAdd, Nat.reduceLT, Nat.reduceLeDiff, reduceIte, reduceCtorEq, dFil, dVer, dLock, eWithin, tagsOf_map]
              try simp (disch := omega) only [wrap64, wrapU64]
              repeat (first | refine And.intro cl ?_ | intro e)
              refine hK1 _ ?_
              clear hK1 K1
            refine XE ?_
            refine hK _ _ (by simp only [St.keep, keepL, at_cons, at_nil, Nat.reduceEqDiff, reduceIte, eq_self]; rfl) ?_
            clear hK K
            refine Wps_ret ?_
            try simp only [Wps_nil, thenQ_normal, thenQ_exit, thenQ_ret, blkQ_normal, blkQ_ret, blkQ_if, blkQ_same, scQ_normal, scQ_ret, scQ_exit, Nat.reduceEqDiff, reduceIte, eq_self, reduceCtorEq, if_true, if_false]
            first | refine ret_pureQ rfl ?_ | refine ret_pureN rfl ?_
            simp only [retP, at_cons, at_nil, Nat.reduceEqDiff, reduceIte, eq_self, AV.use, retV, AV.bel, AV.bels, true_and, and_true]
            first | (exfalso; omega) | (exfalso; simp_all; done) | (simp [isWanted, *]; done) | (simp_all [isWanted]; done) | (simp_all [isWanted]; omega) | (cases hl : f.latest <;> cases latest <;> simp_all [isWanted, ← Int.not_le])
          · try simp only [decide_eq_true_eq, decide_eq_false_iff_not, Bool.not_eq_true', Bool.not_eq_false', Int.not_lt, Int.not_le, ge_iff_le, gt_iff_lt, Bool.or_eq_false_iff, Bool.or_eq_true, Bool.and_eq_true, Bool.and_eq_false_imp, beq_iff_eq, beq_eq_false_iff_ne, ne_eq, bne_iff_ne, bne_eq_false_iff_eq] at hc6
            refine Wps_skip ?_
            simp only [Wps_nil, thenQ_normal, thenQ_exit, thenQ_ret, blkQ_normal, blkQ_ret, blkQ_if, blkQ_same, scQ_normal, scQ_ret, scQ_exit, Nat.reduceEqDiff, reduceIte, eq_self, reduceCtorEq, if_true, if_false]
            refine Wps_seq ?_
            refine Wps_reg (T := [(42, eWithin)]) ⟨e42_ok, trivial⟩ [6] rfl (by simp) fun K hK => ?_
            repeat
              (first | refine X0 rfl fun K1 hK1 => ?_ | refine X1 rfl rfl fun K1 hK1 => ?_)
              simp only [↓EP, EQ, implies_true, forall_const, tys, zoks, zeros, Nat.reduceEqDiff, Nat.reduceAdd, Nat.reduceLT, Nat.reduceLeDiff, reduceIte, reduceCtorEq, dFil, dVer, dLock, eWithin, tagsOf_map]
              try simp (disch := omega) only [wrap64, wrapU64]
              repeat (first | refine And.intro cl ?_ | intro e)
              refine hK1 _ ?_
              clear hK1 K1
            refine XE ?_
            refine hK _ _ (by simp only [St.keep, keepL, at_cons, at_nil, Nat.reduceEqDiff, reduceIte, eq_self]; rfl) ?_
            clear hK K
            refine Wps_ret ?_
            try simp only [Wps_nil, thenQ_normal, thenQ_exit, thenQ_ret, blkQ_normal, blkQ_ret, blkQ_if, blkQ_same, scQ_normal, scQ_ret, scQ_exit, Nat.reduceEqDiff, reduceIte, eq_self, reduceCtorEq, if_true, if_false]
            first | refine ret_pureQ rfl ?_ | refine ret_pureN rfl ?_
            simp only [retP, at_cons, at_nil, Nat.reduceEqDiff, reduceIte, eq_self, AV.use, retV, AV.bel, AV.bels, true_and, and_true]
            first | (exfalso; omega) | (exfalso; simp_all; done) | (simp [isWanted, *]; done) | (simp_all [isWanted]; done) | (simp_all [isWanted]; omega) | (cases hl : f.latest <;> cases latest <;> simp_all [isWanted, ← Int.not_le])
        · try simp only [decide_eq_true_eq, decide_eq_false_iff_not, Bool.not_eq_true', Bool.not_eq_false', Int.not_lt, Int.not_le, ge_iff_le, gt_iff_lt, Bool.or_eq_false_iff, Bool.or_eq_true, Bool.and_eq_true, Bool.and_eq_false_imp, beq_iff_eq, beq_eq_false_iff_ne, ne_eq, bne_iff_ne, bne_eq_false_iff_eq] at hc5
          refine Wps_seq ?_
          refine Wps_reg (T := [(42, eWithin)]) ⟨e42_ok, trivial⟩ [3, 4, 16] rfl (by simp) fun K hK => ?_
          repeat
            (first | refine X0 rfl fun K1 hK1 => ?_ | refine X1 rfl rfl fun K1 hK1 => ?_)
            simp only [↓EP, EQ, implies_true, forall_const, tys, zoks, zeros, Nat.reduceEqDiff, Nat.reduceAdd, Nat.reduceLT, Nat.reduceLeDiff, reduceIte, reduceCtorEq, dFil, dVer, dLock, eWithin, tagsOf_map]
            try simp (disch := omega) only [wrap64, wrapU64]
            repeat (first | refine And.intro cl ?_ | intro e)
            refine hK1 _ ?_
            clear hK1 K1
          refine XE ?_
          refine hK _ _ (by simp only [St.keep, keepL, at_cons, at_nil, Nat.reduceEqDiff, reduceIte, eq_self]; rfl) ?_
          clear hK K
          refine Wps_cond rfl (fun hc7 => ?_) (fun hc7 => ?_)
          · try simp only [decide_eq_true_eq, decide_eq_false_iff_not, Bool.not_eq_true', Bool.not_eq_false', Int.not_lt, Int.not_le, ge_iff_le, gt_iff_lt, Bool.or_eq_false_iff, Bool.or_eq_true, Bool.and_eq_true, Bool.and_eq_false_imp, beq_iff_eq, beq_eq_false_iff_ne, ne_eq, bne_iff_ne, bne_eq_false_iff_eq] at hc7
            refine Wps_skip ?_
            refine Wps_cond rfl (fun hc8 => ?_) (fun hc8 => ?_)
            · try simp only [decide_eq_true_eq, decide_eq_false_iff_not, Bool.not_eq_true', Bool.not_eq_false', Int.not_lt, Int.not_le, ge_iff_le, gt_iff_lt, Bool.or_eq_false_iff, Bool.or_eq_true, Bool.and_eq_true, Bool.and_eq_false_imp, beq_iff_eq, beq_eq_false_iff_ne, ne_eq, bne_iff_ne, bne_eq_false_iff_eq] at hc8
              refine Wps_seq ?_
              refine Wps_reg (T := [(42, eWithin)]) ⟨e42_ok, trivial⟩ [6] rfl (by simp) fun K hK => ?_
              repeat
                (first | refine X0 rfl fun K1 hK1 => ?_ | refine X1 rfl rfl fun K1 hK1 => ?_)
                simp only [↓EP, EQ, implies_true, forall_const, tys, zoks, zeros, Nat.reduceEqDiff, Nat.reduceAdd, Nat.reduceLT, Nat.reduceLeDiff, reduceIte, reduceCtorEq, dFil, dVer, dLock, eWithin, tagsOf_map]
                try simp (disch := omega) only [wrap64, wrapU64]
                repeat (first | refine And.intro cl ?_ | intro e)
                refine hK1 _ ?_
                clear hK1 K1
              refine XE ?_
              refine hK _ _ (by simp only [St.keep, keepL, at_cons, at_nil, Nat.reduceEqDiff, reduceIte, eq_self]; rfl) ?_
              clear hK K
              refine Wps_ret ?_
              try simp only [Wps_nil, thenQ_normal, thenQ_exit, thenQ_ret, blkQ_normal, blkQ_ret, blkQ_if, blkQ_same, scQ_normal, scQ_ret, scQ_exit, Nat.reduceEqDiff, reduceIte, eq_self, reduceCtorEq, if_true, if_false]
              first | refine ret_pureQ rfl ?_ | refine ret_pureN rfl ?_
              simp only [retP, at_cons, at_nil, Nat.reduceEqDiff, reduceIte, eq_self, AV.use, retV, AV.bel, AV.bels, true_and, and_true]
              first | (exfalso; omega) | (exfalso; simp_all; done) | (simp [isWanted, *]; done) | (simp_all [isWanted]; done) | (simp_all [isWanted]; omega) | (cases hl : f.latest <;> cases latest <;> simp_all [isWanted, ← Int.not_le])
            · try simp only [decide_eq_true_eq, decide_eq_false_iff_not, Bool.not_eq_true', Bool.not_eq_false', Int.not_lt, Int.not_le, ge_iff_le, gt_iff_lt, Bool.or_eq_false_iff, Bool.or_eq_true, Bool.and_eq_true, Bool.and_eq_false_imp, beq_iff_eq, beq_eq_false_iff_ne, ne_eq, bne_iff_ne, bne_eq_false_iff_eq] at hc8
              refine Wps_skip ?_
              simp only [Wps_nil, thenQ_normal, thenQ_exit, thenQ_ret, blkQ_normal, blkQ_ret, blkQ_if, blkQ_same, scQ_normal, scQ_ret, scQ_exit, Nat.reduceEqDiff, reduceIte, eq_self, reduceCtorEq, if_true, if_false]
              refine Wps_seq ?_
              refine Wps_reg (T := [(42, eWithin)]) ⟨e42_ok, trivial⟩ [6] rfl (by simp) fun K hK => ?_
              repeat
                (first | refine X0 rfl fun K1 hK1 => ?_ | refine X1 rfl rfl fun K1 hK1 => ?_)
                simp only [↓EP, EQ, implies_true, forall_const, tys, zoks, zeros, Nat.reduceEqDiff, Nat.reduceAdd, Nat.reduceLT, Nat.reduceLeDiff, reduceIte, reduceCtorEq, dFil, dVer, dLock, eWithin, tagsOf_map]
                try simp (disch := omega) only [wrap64, wrapU64]
                repeat (first | refine And.intro cl ?_ | intro e)
                refine hK1 _ ?_
                clear hK1 K1
              refine XE ?_
              refine hK _ _ (by simp only [St.keep, keepL, at_cons, at_nil, Nat.reduceEqDiff, reduceIte, eq_self]; rfl) ?_
              clear hK K
              refine Wps_ret ?_
              try simp only [Wps_nil, thenQ_normal, thenQ_exit, thenQ_ret, blkQ_normal, blkQ_ret, blkQ_if, blkQ_same, scQ_normal, scQ_ret, scQ_exit, Nat.reduceEqDiff, reduceIte, eq_self, reduceCtorEq, if_true, if_false]
              first | refine ret_pureQ rfl ?_ | refine ret_pureN rfl ?_
              simp only [retP, at_cons, at_nil, Nat.reduceEqDiff, reduceIte, eq_self, AV.use, retV, AV.bel, AV.bels, true_and, and_true]
              first | (exfalso; omega) | (exfalso; simp_all; done) | (simp [isWanted, *]; done) | (simp_all [isWanted]; done) | (simp_all [isWanted]; omega) | (cases hl : f.latest <;> cases latest <;> simp_all [isWanted, ← Int.not_le])
          · try simp only [decide_eq_true_eq, decide_eq_false_iff_not, Bool.not_eq_true', Bool.not_eq_false', Int.not_lt, Int.not_le, ge_iff_le, gt_iff_lt, Bool.or_eq_false_iff, Bool.or_eq_true, Bool.and_eq_true, Bool.and_eq_false_imp, beq_iff_eq, beq_eq_false_iff_ne, ne_eq, bne_iff_ne, bne_eq_false_iff_eq] at hc7
            refine Wps_reg (T := [(42, eWithin)]) ⟨e42_ok, trivial⟩ [3, 4, 16] rfl (by simp) fun K hK => ?_
            repeat
              (first | refine X0 rfl fun K1 hK1 => ?_ | refine X1 rfl rfl fun K1 hK1 => ?_)
              simp only [↓EP, EQ, implies_true, forall_const, tys, zoks, zeros, Nat.reduceEqDiff, Nat.reduceAdd, Nat.reduceLT, Nat.reduceLeDiff, reduceIte, reduceCtorEq, dFil, dVer, dLock, eWithin, tagsOf_map]
              try simp (disch := omega) only [wrap64, wrapU64]
              repeat (first | refine And.intro cl ?_ | intro e)
              refine hK1 _ ?_
              clear hK1 K1
            refine XE ?_
            refine hK _ _ (by simp only [St.keep, keepL, at_cons, at_nil, Nat.reduceEqDiff, reduceIte, eq_self]; rfl) ?_
            clear hK K
            refine Wps_cond rfl (fun hc9 => ?_) (fun hc9 => ?_)
            · try simp only [decide_eq_true_eq, decide_eq_false_iff_not, Bool.not_eq_true', Bool.not_eq_false', Int.not_lt, Int.not_le, ge_iff_le, gt_iff_lt, Bool.or_eq_false_iff, Bool.or_eq_true, Bool.and_eq_true, Bool.and_eq_false_imp, beq_iff_eq, beq_eq_false_iff_ne, ne_eq, bne_iff_ne, bne_eq_false_iff_eq] at hc9
              refine Wps_seq ?_
              refine Wps_reg (T := [(42, eWithin)]) ⟨e42_ok, trivial⟩ [6] rfl (by simp) fun K hK => ?_
              repeat
                (first | refine X0 rfl fun K1 hK1 => ?_ | refine X1 rfl rfl fun K1 hK1 => ?_)
                simp only [↓EP, EQ, implies_true, forall_const, tys, zoks, zeros, Nat.reduceEqDiff, Nat.reduceAdd, Nat.reduceLT, Nat.reduceLeDiff, reduceIte, reduceCtorEq, dFil, dVer, dLock, eWithin, tagsOf_map]
                try simp (disch := omega) only [wrap64, wrapU64]
                repeat (first | refine And.intro cl ?_ | intro e)
                refine hK1 _ ?_
                clear hK1 K1
              refine XE ?_
              refine hK _ _ (by simp only [St.keep, keepL, at_cons, at_nil, Nat.reduceEqDiff, reduceIte, eq_self]; rfl) ?_
              clear hK K
              refine Wps_ret ?_
              try simp only [Wps_nil, thenQ_normal, thenQ_exit, thenQ_ret, blkQ_normal, blkQ_ret, blkQ_if, blkQ_same, scQ_normal, scQ_ret, scQ_exit, Nat.reduceEqDiff, reduceIte, eq_self, reduceCtorEq, if_true, if_false]
              first | refine ret_pureQ rfl ?_ | refine ret_pureN rfl ?_
              simp only [retP, at_cons, at_nil, Nat.reduceEqDiff, reduceIte, eq_self, AV.use, retV, AV.bel, AV.bels, true_and, and_true]
              first | (exfalso; omega) | (exfalso; simp_all; done) | (simp [isWanted, *]; done) | (simp_all [isWanted]; done) | (simp_all [isWanted]; omega) | (cases hl : f.latest <;> cases latest <;> simp_all [isWanted, ← Int.not_le])
            · try simp only [decide_eq_true_eq, decide_eq_false_iff_not, Bool.not_eq_true', Bool.not_eq_false', Int.not_lt, Int.not_le, ge_iff_le, gt_iff_lt, Bool.or_eq_false_iff, Bool.or_eq_true, Bool.and_eq_true, Bool.and_eq_false_imp, beq_iff_eq, beq_eq_false_iff_ne, ne_eq, bne_iff_ne, bne_eq_false_iff_eq] at hc9
              refine Wps_skip ?_
              simp only [Wps_nil, thenQ_normal, thenQ_exit, thenQ_ret, blkQ_normal, blkQ_ret, blkQ_if, blkQ_same, scQ_normal, scQ_ret, scQ_exit, Nat.reduceEqDiff, reduceIte, eq_self, reduceCtorEq, if_true, if_false]
              refine Wps_seq ?_
              refine Wps_reg (T := [(42, eWithin)]) ⟨e42_ok, trivial⟩ [6] rfl (by simp) fun K hK => ?_
              repeat
                (first | refine X0 rfl fun K1 hK1 => ?_ | refine X1 rfl rfl fun K1 hK1 => ?_)
                simp only [↓EP, EQ, implies_true, forall_const, tys, zoks, zeros, Nat.reduceEqDiff, Nat.reduceAdd, Nat.reduceLT, Nat.reduceLeDiff, reduceIte, reduceCtorEq, dFil, dVer, dLock, eWithin, tagsOf_map]
                try simp (disch := omega) only [wrap64, wrapU64]
                repeat (first | refine And.intro cl ?_ | intro e)
                refine hK1 _ ?_
                clear hK1 K1
              refine XE ?_
              refine hK _ _ (by simp only [St.keep, keepL, at_cons, at_nil, Nat.reduceEqDiff, reduceIte, eq_self]; rfl) ?_
              clear hK K
              refine Wps_ret ?_
              try simp only [Wps_nil, thenQ_normal, thenQ_exit, thenQ_ret, blkQ_normal, blkQ_ret, blkQ_if, blkQ_same, scQ_normal, scQ_ret, scQ_exit, Nat.reduceEqDiff, reduceIte, eq_self, reduceCtorEq, if_true, if_false]
              first | refine ret_pureQ rfl ?_ | refine ret_pureN rfl ?_
              simp only [retP, at_cons, at_nil, Nat.reduceEqDiff, reduceIte, eq_self, AV.use, retV, AV.bel, AV.bels, true_and, and_true]
              first | (exfalso; omega) | (exfalso; simp_all; done) | (simp [isWanted, *]; done) | (simp_all [isWanted]; done) | (simp_all [isWanted]; omega) | (cases hl : f.latest <;> cases latest <;> simp_all [isWanted, ← Int.not_le])
  · try simp only [decide_eq_true_eq, decide_eq_false_iff_not, Bool.not_eq_true', Bool.not_eq_false', Int.not_lt, Int.not_le, ge_iff_le, gt_iff_lt, Bool.or_eq_false_iff, Bool.or_eq_true, Bool.and_eq_true, Bool.and_eq_false_imp, beq_iff_eq, beq_eq_false_iff_ne, ne_eq, bne_iff_ne, bne_eq_false_iff_eq] at hc1
    refine Wps_reg (T := [(42, eWithin)]) ⟨e42_ok, trivial⟩ [3, 4, 7] rfl (by simp) fun K hK => ?_
    repeat
      (first | refine X0 rfl fun K1 hK1 => ?_ | refine X1 rfl rfl fun K1 hK1 => ?_)
      simp only [↓EP, EQ, implies_true, forall_const, tys, zoks, zeros, Nat.reduceEqDiff, Nat.reduceAdd, Nat.reduceLT, Nat.reduceLeDiff, reduceIte, reduceCtorEq, dFil, dVer, dLock, eWithin, tagsOf_map]
      try simp (disch := omega) only [wrap64, wrapU64]
      repeat (first | refine And.intro cl ?_ | intro e)
      refine hK1 _ ?_
      clear hK1 K1
    refine XE ?_
    refine hK _ _ (by simp only [St.keep, keepL, at_cons, at_nil, Nat.reduceEqDiff, reduceIte, eq_self]; rfl) ?_
    clear hK K
    refine Wps_cond rfl (fun hc10 => ?_) (fun hc10 => ?_)
    · try simp only [decide_eq_true_eq, decide_eq_false_iff_not, Bool.not_eq_true', Bool.not_eq_false', Int.not_lt, Int.not_le, ge_iff_le, gt_iff_lt, Bool.or_eq_false_iff, Bool.or_eq_true, Bool.and_eq_true, Bool.and_eq_false_imp, beq_iff_eq, beq_eq_false_iff_ne, ne_eq, bne_iff_ne, bne_eq_false_iff_eq] at hc10
      refine Wps_seq ?_
      refine Wps_reg (T := [(42, eWithin)]) ⟨e42_ok, trivial⟩ [6] rfl (by simp) fun K hK => ?_
      repeat
        (first | refine X0 rfl fun K1 hK1 => ?_ | refine X1 rfl rfl fun K1 hK1 => ?_)
        simp only [↓EP, EQ, implies_true, forall_const, tys, zoks, zeros, Nat.reduceEqDiff, Nat.reduceAdd, Nat.reduceLT, Nat.reduceLeDiff, reduceIte, reduceCtorEq, dFil, dVer, dLock, eWithin, tagsOf_map]
        try simp (disch := omega) only [wrap64, wrapU64]
        repeat (first | refine And.intro cl ?_ | intro e)
        refine hK1 _ ?_
        clear hK1 K1
      refine XE ?_
      refine hK _ _ (by simp only [St.keep, keepL, at_cons, at_nil, Nat.reduceEqDiff, reduceIte, eq_self]; rfl) ?_
      clear hK K
      refine Wps_ret ?_
      try simp only [Wps_nil, thenQ_normal, thenQ_exit, thenQ_ret, blkQ_normal, blkQ_ret, blkQ_if, blkQ_same, scQ_normal, scQ_ret, scQ_exit, Nat.reduceEqDiff, reduceIte, eq_self, reduceCtorEq, if_true, if_false]
      first | refine ret_pureQ rfl ?_ | refine ret_pureN rfl ?_
      simp only [retP, at_cons, at_nil, Nat.reduceEqDiff, reduceIte, eq_self, AV.use, retV, AV.bel, AV.bels, true_and, and_true]
      first | (exfalso; omega) | (exfalso; simp_all; done) | (simp [isWanted, *]; done) | (simp_all [isWanted]; done) | (simp_all [isWanted]; omega) | (cases hl : f.latest <;> cases latest <;> simp_all [isWanted, ← Int.not_le])
    · try simp only [decide_eq_true_eq, decide_eq_false_iff_not, Bool.not_eq_true', Bool.not_eq_false', Int.not_lt, Int.not_le, ge_iff_le, gt_iff_lt, Bool.or_eq_false_iff, Bool.or_eq_true, Bool.and_eq_true, Bool.and_eq_false_imp, beq_iff_eq, beq_eq_false_iff_ne, ne_eq, bne_iff_ne, bne_eq_false_iff_eq] at hc10
      refine Wps_seq ?_
      refine Wps_seq ?_
      refine Wps_reg (T := [(42, eWithin)]) ⟨e42_ok, trivial⟩ [3, 4, 16] rfl (by simp) fun K hK => ?_
      repeat
        (first | refine X0 rfl fun K1 hK1 => ?_ | refine X1 rfl rfl fun K1 hK1 => ?_)
        simp only [↓EP, EQ, implies_true, forall_const, tys, zoks, zeros, Nat.reduceEqDiff, Nat.reduceAdd, Nat.reduceLT, Nat.reduceLeDiff, reduceIte, reduceCtorEq, dFil, dVer, dLock, eWithin, tagsOf_map]
        try simp (disch := omega) only [wrap64, wrapU64]
        repeat (first | refine And.intro cl ?_ | intro e)
        refine hK1 _ ?_
        clear hK1 K1
      refine XE ?_
      refine hK _ _ (by simp only [St.keep, keepL, at_cons, at_nil, Nat.reduceEqDiff, reduceIte, eq_self]; rfl) ?_
      clear hK K
      refine Wps_cond rfl (fun hc11 => ?_) (fun hc11 => ?_)
      · try simp only [decide_eq_true_eq, decide_eq_false_iff_not, Bool.not_eq_true', Bool.not_eq_false', Int.not_lt, Int.not_le, ge_iff_le, gt_iff_lt, Bool.or_eq_false_iff, Bool.or_eq_true, Bool.and_eq_true, Bool.and_eq_false_imp, beq_iff_eq, beq_eq_false_iff_ne, ne_eq, bne_iff_ne, bne_eq_false_iff_eq] at hc11
        refine Wps_skip ?_
        refine Wps_cond rfl (fun hc12 => ?_) (fun hc12 => ?_)
        · try simp only [decide_eq_true_eq, decide_eq_false_iff_not, Bool.not_eq_true', Bool.not_eq_false', Int.not_lt, Int.not_le, ge_iff_le, gt_iff_lt, Bool.or_eq_false_iff, Bool.or_eq_true, Bool.and_eq_true, Bool.and_eq_false_imp, beq_iff_eq, beq_eq_false_iff_ne, ne_eq, bne_iff_ne, bne_eq_false_iff_eq] at hc12
          refine Wps_seq ?_
          refine Wps_reg (T := [(42, eWithin)]) ⟨e42_ok, trivial⟩ [6] rfl (by simp) fun K hK => ?_
          repeat
            (first | refine X0 rfl fun K1 hK1 => ?_ | refine X1 rfl rfl fun K1 hK1 => ?_)
            simp only [↓EP, EQ, implies_true, forall_const, tys, zoks, zeros, Nat.reduceEqDiff, Nat.reduceAdd, Nat.reduceLT, Nat.reduceLeDiff, reduceIte, reduceCtorEq, dFil, dVer, dLock, eWithin, tagsOf_map]
            try simp (disch := omega) only [wrap64, wrapU64]
            repeat (first | refine And.intro cl ?_ | intro e)
            refine hK1 _ ?_
            clear hK1 K1
          refine XE ?_
          refine hK _ _ (by simp only [St.keep, keepL, at_cons, at_nil, Nat.reduceEqDiff, reduceIte, eq_self]; rfl) ?_
          clear hK K
          refine Wps_ret ?_
          try simp only [Wps_nil, thenQ_normal, thenQ_exit, thenQ_ret, blkQ_normal, blkQ_ret, blkQ_if, blkQ_same, scQ_normal, scQ_ret, scQ_exit, Nat.reduceEqDiff, reduceIte, eq_self, reduceCtorEq, if_true, if_false]
          first | refine ret_pureQ rfl ?_ | refine ret_pureN rfl ?_
          simp only [retP, at_cons, at_nil, Nat.reduceEqDiff, reduceIte, eq_self, AV.use, retV, AV.bel, AV.bels, true_and, and_true]
          first | (exfalso; omega) | (exfalso; simp_all; done) | (simp [isWanted, *]; done) | (simp_all [isWanted]; done) | (simp_all [isWanted]; omega) | (cases hl : f.latest <;> cases latest <;> simp_all [isWanted, ← Int.not_le])
        · try simp only [decide_eq_true_eq, decide_eq_false_iff_not, Bool.not_eq_true', Bool.not_eq_false', Int.not_lt, Int.not_le, ge_iff_le, gt_iff_lt, Bool.or_eq_false_iff, Bool.or_eq_true, Bool.and_eq_true, Bool.and_eq_false_imp, beq_iff_eq, beq_eq_false_iff_ne, ne_eq, bne_iff_ne, bne_eq_false_iff_eq] at hc12
          refine Wps_skip ?_
          simp only [Wps_nil, thenQ_normal, thenQ_exit, thenQ_ret, blkQ_normal, blkQ_ret, blkQ_if, blkQ_same, scQ_normal, scQ_ret, scQ_exit, Nat.reduceEqDiff, reduceIte, eq_self, reduceCtorEq, if_true, if_false]
          refine Wps_seq ?_
          refine Wps_reg (T := [(42, eWithin)]) ⟨e42_ok, trivial⟩ [6] rfl (by simp) fun K hK => ?_
          repeat
            (first | refine X0 rfl fun K1 hK1 => ?_ | refine X1 rfl rfl fun K1 hK1 => ?_)
            simp only [↓EP, EQ, implies_true, forall_const, tys, zoks, zeros, Nat.reduceEqDiff, Nat.reduceAdd, Nat.reduceLT, Nat.reduceLeDiff, reduceIte, reduceCtorEq, dFil, dVer, dLock, eWithin, tagsOf_map]
            try simp (disch := omega) only [wrap64, wrapU64]
            repeat (first | refine And.intro cl ?_ | intro e)
            refine hK1 _ ?_
            clear hK1 K1
          refine XE ?_
          refine hK _ _ (by simp only [St.keep, keepL, at_cons, at_nil, Nat.reduceEqDiff, reduceIte, eq_self]; rfl) ?_
          clear hK K
          refine Wps_ret ?_
          try simp only [Wps_nil, thenQ_normal, thenQ_exit, thenQ_ret, blkQ_normal, blkQ_ret, blkQ_if, blkQ_same, scQ_normal, scQ_ret, scQ_exit, Nat.reduceEqDiff, reduceIte, eq_self, reduceCtorEq, if_true, if_false]
          first | refine ret_pureQ rfl ?_ | refine ret_pureN rfl ?_
          simp only [retP, at_cons, at_nil, Nat.reduceEqDiff, reduceIte, eq_self, AV.use, retV, AV.bel, AV.bels, true_and, and_true]
          first | (exfalso; omega) | (exfalso; simp_all; done) | (simp [isWanted, *]; done) | (simp_all [isWanted]; done) | (simp_all [isWanted]; omega) | (cases hl : f.latest <;> cases latest <;> simp_all [isWanted, ← Int.not_le])
      · try simp only [decide_eq_true_eq, decide_eq_false_iff_not, Bool.not_eq_true', Bool.not_eq_false', Int.not_lt, Int.not_le, ge_iff_le, gt_iff_lt, Bool.or_eq_false_iff, Bool.or_eq_true, Bool.and_eq_true, Bool.and_eq_false_imp, beq_iff_eq, beq_eq_false_iff_ne, ne_eq, bne_iff_ne, bne_eq_false_iff_eq] at hc11
        refine Wps_seq ?_
        refine Wps_reg (T := [(42, eWithin)]) ⟨e42_ok, trivial⟩ [3, 4, 16] rfl (by simp) fun K hK => ?_
        repeat
          (first | refine X0 rfl fun K1 hK1 => ?_ | refine X1 rfl rfl fun K1 hK1 => ?_)
          simp only [↓EP, EQ, implies_true, forall_const, tys, zoks, zeros, Nat.reduceEqDiff, Nat.reduceAdd, Nat.reduceLT, Nat.reduceLeDiff, reduceIte, reduceCtorEq, dFil, dVer, dLock, eWithin, tagsOf_map]
          try simp (disch := omega) only [wrap64, wrapU64]
          repeat (first | refine And.intro cl ?_ | intro e)
          refine hK1 _ ?_
          clear hK1 K1
        refine XE ?_
        refine hK _ _ (by simp only [St.keep, keepL, at_cons, at_nil, Nat.reduceEqDiff, reduceIte, eq_self]; rfl) ?_
        clear hK K
        refine Wps_cond rfl (fun hc13 => ?_) (fun hc13 => ?_)
        · try simp only [decide_eq_true_eq, decide_eq_false_iff_not, Bool.not_eq_true', Bool.not_eq_false', Int.not_lt, Int.not_le, ge_iff_le, gt_iff_lt, Bool.or_eq_false_iff, Bool.or_eq_true, Bool.and_eq_true, Bool.and_eq_false_imp, beq_iff_eq, beq_eq_false_iff_ne, ne_eq, bne_iff_ne, bne_eq_false_iff_eq] at hc13
          refine Wps_skip ?_
          refine Wps_cond rfl (fun hc14 => ?_) (fun hc14 => ?_)
          · try simp only [decide_eq_true_eq, decide_eq_false_iff_not, Bool.not_eq_true', Bool.not_eq_false', Int.not_lt, Int.not_le, ge_iff_le, gt_iff_lt, Bool.or_eq_false_iff, Bool.or_eq_true, Bool.and_eq_true, Bool.and_eq_false_imp, beq_iff_eq, beq_eq_false_iff_ne, ne_eq, bne_iff_ne, bne_eq_false_iff_eq] at hc14
            refine Wps_seq ?_
            refine Wps_reg (T := [(42, eWithin)]) ⟨e42_ok, trivial⟩ [6] rfl (by simp) fun K hK => ?_
            repeat
              (first | refine X0 rfl fun K1 hK1 => ?_ | refine X1 rfl rfl fun K1 hK1 => ?_)
              simp only [↓EP, EQ, implies_true, forall_const, tys, zoks, zeros, Nat.reduceEqDiff, Nat.reduceAdd, Nat.reduceLT, Nat.reduceLeDiff, reduceIte, reduceCtorEq, dFil, dVer, dLock, eWithin, tagsOf_map]
              try simp (disch := omega) only [wrap64, wrapU64]
              repeat (first | refine And.intro cl ?_ | intro e)
              refine hK1 _ ?_
              clear hK1 K1
            refine XE ?_
            refine hK _ _ (by simp only [St.keep, keepL, at_cons, at_nil, Nat.reduceEqDiff, reduceIte, eq_self]; rfl) ?_
            clear hK K
            refine Wps_ret ?_
            try simp only [Wps_nil, thenQ_normal, thenQ_exit, thenQ_ret, blkQ_normal, blkQ_ret, blkQ_if, blkQ_same, scQ_normal, scQ_ret, scQ_exit, Nat.reduceEqDiff, reduceIte, eq_self, reduceCtorEq, if_true, if_false]
            first | refine ret_pureQ rfl ?_ | refine ret_pureN rfl ?_
            simp only [retP, at_cons, at_nil, Nat.reduceEqDiff, reduceIte, eq_self, AV.use, retV, AV.bel, AV.bels, true_and, and_true]
            first | (exfalso; omega) | (exfalso; simp_all; done) | (simp [isWanted, *]; done) | (simp_all [isWanted]; done) | (simp_all [isWanted]; omega) | (cases hl : f.latest <;> cases latest <;> simp_all [isWanted, ← Int.not_le])
          · try simp only [decide_eq_true_eq, decide_eq_false_iff_not, Bool.not_eq_true', Bool.not_eq_false', Int.not_lt, Int.not_le, ge_iff_le, gt_iff_lt, Bool.or_eq_false_iff, Bool.or_eq_true, Bool.and_eq_true, Bool.and_eq_false_imp, beq_iff_eq, beq_eq_false_iff_ne, ne_eq, bne_iff_ne, bne_eq_false_iff_eq] at hc14
            refine Wps_skip ?_
            simp only [Wps_nil, thenQ_normal, thenQ_exit, thenQ_ret, blkQ_normal, blkQ_ret, blkQ_if, blkQ_same, scQ_normal, scQ_ret, scQ_exit, Nat.reduceEqDiff, reduceIte, eq_self, reduceCtorEq, if_true, if_false]
            refine Wps_seq ?_
            refine Wps_reg (T := [(42, eWithin)]) ⟨e42_ok, trivial⟩ [6] rfl (by simp) fun K hK => ?_
            repeat
              (first | refine X0 rfl fun K1 hK1 => ?_ | refine X1 rfl rfl fun K1 hK1 => ?_)
              simp only [↓EP, EQ, implies_true, forall_const, tys, zoks, zeros, Nat.reduceEqDiff, Nat.reduceAdd, Nat.reduceLT, Nat.reduceLeDiff, reduceIte, reduceCtorEq, dFil, dVer, dLock, eWithin, tagsOf_map]
              try simp (disch := omega) only [wrap64, wrapU64]
              repeat (first | refine And.intro cl ?_ | intro e)
              refine hK1 _ ?_
              clear hK1 K1
            refine XE ?_
            refine hK _ _ (by simp only [St.keep, keepL, at_cons, at_nil, Nat.reduceEqDiff, reduceIte, eq_self]; rfl) ?_
            clear hK K
            refine Wps_ret ?_
            try simp only [Wps_nil, thenQ_normal, thenQ_exit, thenQ_ret, blkQ_normal, blkQ_ret, blkQ_if, blkQ_same, scQ_normal, scQ_ret, scQ_exit, Nat.reduceEqDiff, reduceIte, eq_self, reduceCtorEq, if_true, if_false]
            first | refine ret_pureQ rfl ?_ | refine ret_pureN rfl ?_
            simp only [retP, at_cons, at_nil, Nat.reduceEqDiff, reduceIte, eq_self, AV.use, retV, AV.bel, AV.bels, true_and, and_true]
            first | (exfalso; omega) | (exfalso; simp_all; done) | (simp [isWanted, *]; done) | (simp_all [isWanted]; done) | (simp_all [isWanted]; omega) | (cases hl : f.latest <;> cases latest <;> simp_all [isWanted, ← Int.not_le])
        · try simp only [decide_eq_true_eq, decide_eq_false_iff_not, Bool.not_eq_true', Bool.not_eq_false', Int.not_lt, Int.not_le, ge_iff_le, gt_iff_lt, Bool.or_eq_false_iff, Bool.or_eq_true, Bool.and_eq_true, Bool.and_eq_false_imp, beq_iff_eq, beq_eq_false_iff_ne, ne_eq, bne_iff_ne, bne_eq_false_iff_eq] at hc13
          refine Wps_seq ?_
          refine Wps_reg (T := [(42, eWithin)]) ⟨e42_ok, trivial⟩ [3, 4, 16] rfl (by simp) fun K hK => ?_
          repeat
            (first | refine X0 rfl fun K1 hK1 => ?_ | refine X1 rfl rfl fun K1 hK1 => ?_)
            simp only [↓EP, EQ, implies_true, forall_const, tys, zoks, zeros, Nat.reduceEqDiff, Nat.reduceAdd, Nat.reduceLT, Nat.reduceLeDiff, reduceIte, reduceCtorEq, dFil, dVer, dLock, eWithin, tagsOf_map]
            try simp (disch := omega) only [wrap64, wrapU64]
            repeat (first | refine And.intro cl ?_ | intro e)
            refine hK1 _ ?_
            clear hK1 K1
          refine XE ?_
          refine hK _ _ (by simp only [St.keep, keepL, at_cons, at_nil, Nat.reduceEqDiff, reduceIte, eq_self]; rfl) ?_
          clear hK K
          refine Wps_cond rfl (fun hc15 => ?_) (fun hc15 => ?_)
          · try simp only [decide_eq_true_eq, decide_eq_false_iff_not, Bool.not_eq_true', Bool.not_eq_false', Int.not_lt, Int.not_le, ge_iff_le, gt_iff_lt, Bool.or_eq_false_iff, Bool.or_eq_true, Bool.and_eq_true, Bool.and_eq_false_imp, beq_iff_eq, beq_eq_false_iff_ne, ne_eq, bne_iff_ne, bne_eq_false_iff_eq] at hc15
            refine Wps_skip ?_
            refine Wps_cond rfl (fun hc16 => ?_) (fun hc16 => ?_)
            · try simp only [decide_eq_true_eq, decide_eq_false_iff_not, Bool.not_eq_true', Bool.not_eq_false', Int.not_lt, Int.not_le, ge_iff_le, gt_iff_lt, Bool.or_eq_false_iff, Bool.or_eq_true, Bool.and_eq_true, Bool.and_eq_false_imp, beq_iff_eq, beq_eq_false_iff_ne, ne_eq, bne_iff_ne, bne_eq_false_iff_eq] at hc16
              refine Wps_seq ?_
              refine Wps_reg (T := [(42, eWithin)]) ⟨e42_ok, trivial⟩ [6] rfl (by simp) fun K hK => ?_
              repeat
                (first | refine X0 rfl fun K1 hK1 => ?_ | refine X1 rfl rfl fun K1 hK1 => ?_)
                simp only [↓EP, EQ, implies_true, forall_const, tys, zoks, zeros, Nat.reduceEqDiff, Nat.reduceAdd, Nat.reduceLT, Nat.reduceLeDiff, reduceIte, reduceCtorEq, dFil, dVer, dLock, eWithin, tagsOf_map]
                try simp (disch := omega) only [wrap64, wrapU64]
                repeat (first | refine And.intro cl ?_ | intro e)
                refine hK1 _ ?_
                clear hK1 K1
              refine XE ?_
              refine hK _ _ (by simp only [St.keep, keepL, at_cons, at_nil, Nat.reduceEqDiff, reduceIte, eq_self]; rfl) ?_
              clear hK K
              refine Wps_ret ?_
              try simp only [Wps_nil, thenQ_normal, thenQ_exit, thenQ_ret, blkQ_normal, blkQ_ret, blkQ_if, blkQ_same, scQ_normal, scQ_ret, scQ_exit, Nat.reduceEqDiff, reduceIte, eq_self, reduceCtorEq, if_true, if_false]
              first | refine ret_pureQ rfl ?_ | refine ret_pureN rfl ?_
              simp only [retP, at_cons, at_nil, Nat.reduceEqDiff, reduceIte, eq_self, AV.use, retV, AV.bel, AV.bels, true_and, and_true]
              first | (exfalso; omega) | (exfalso; simp_all; done) | (simp [isWanted, *]; done) | (simp_all [isWanted]; done) | (simp_all [isWanted]; omega) | (cases hl : f.latest <;> cases latest <;> simp_all [isWanted, ← Int.not_le])
            · try simp only [decide_eq_true_eq, decide_eq_false_iff_not, Bool.not_eq_true', Bool.not_eq_false', Int.not_lt, Int.not_le, ge_iff_le, gt_iff_lt, Bool.or_eq_false_iff, Bool.or_eq_true, Bool.and_eq_true, Bool.and_eq_false_imp, beq_iff_eq, beq_eq_false_iff_ne, ne_eq, bne_iff_ne, bne_eq_false_iff_eq] at hc16
              refine Wps_skip ?_
              simp only [Wps_nil, thenQ_normal, thenQ_exit, thenQ_ret, blkQ_normal, blkQ_ret, blkQ_if, blkQ_same, scQ_normal, scQ_ret, scQ_exit, Nat.reduceEqDiff, reduceIte, eq_self, reduceCtorEq, if_true, if_false]
              refine Wps_seq ?_
              refine Wps_reg (T := [(42, eWithin)]) ⟨e42_ok, trivial⟩ [6] rfl (by simp) fun K hK => ?_
              repeat
                (first | refine X0 rfl fun K1 hK1 => ?_ | refine X1 rfl rfl fun K1 hK1 => ?_)
                simp only [↓EP, EQ, implies_true, forall_const, tys, zoks, zeros, Nat.reduceEqDiff, Nat.reduceAdd, Nat.reduceLT, Nat.reduceLeDiff, reduceIte, reduceCtorEq, dFil, dVer, dLock, eWithin, tagsOf_map]
                try simp (disch := omega) only [wrap64, wrapU64]
                repeat (first | refine And.intro cl ?_ | intro e)
                refine hK1 _ ?_
                clear hK1 K1
              refine XE ?_
              refine hK _ _ (by simp only [St.keep, keepL, at_cons, at_nil, Nat.reduceEqDiff, reduceIte, eq_self]; rfl) ?_
              clear hK K
              refine Wps_ret ?_
              try simp only [Wps_nil, thenQ_normal, thenQ_exit, thenQ_ret, blkQ_normal, blkQ_ret, blkQ_if, blkQ_same, scQ_normal, scQ_ret, scQ_exit, Nat.reduceEqDiff, reduceIte, eq_self, reduceCtorEq, if_true, if_false]
              first | refine ret_pureQ rfl ?_ | refine ret_pureN rfl ?_
              simp only [retP, at_cons, at_nil, Nat.reduceEqDiff, reduceIte, eq_self, AV.use, retV, AV.bel, AV.bels, true_and, and_true]
              first | (exfalso; omega) | (exfalso; simp_all; done) | (simp [isWanted, *]; done) | (simp_all [isWanted]; done) | (simp_all [isWanted]; omega) | (cases hl : f.latest <;> cases latest <;> simp_all [isWanted, ← Int.not_le])
          · try simp only [decide_eq_true_eq, decide_eq_false_iff_not, Bool.not_eq_true', Bool.not_eq_false', Int.not_lt, Int.not_le, ge_iff_le, gt_iff_lt, Bool.or_eq_false_iff, Bool.or_eq_true, Bool.and_eq_true, Bool.and_eq_false_imp, beq_iff_eq, beq_eq_false_iff_ne, ne_eq, bne_iff_ne, bne_eq_false_iff_eq] at hc15
            refine Wps_reg (T := [(42, eWithin)]) ⟨e42_ok, trivial⟩ [3, 4, 16] rfl (by simp) fun K hK => ?_
            repeat
              (first | refine X0 rfl fun K1 hK1 => ?_ | refine X1 rfl rfl fun K1 hK1 => ?_)
              simp only [↓EP, EQ, implies_true, forall_const, tys, zoks, zeros, Nat.reduceEqDiff, Nat.reduceAdd, Nat.reduceLT, Nat.reduceLeDiff, reduceIte, reduceCtorEq, dFil, dVer, dLock, eWithin, tagsOf_map]
              try simp (disch := omega) only [wrap64, wrapU64]
              repeat (first | refine And.intro cl ?_ | intro e)
              refine hK1 _ ?_
              clear hK1 K1
            refine XE ?_
            refine hK _ _ (by simp only [St.keep, keepL, at_cons, at_nil, Nat.reduceEqDiff, reduceIte, eq_self]; rfl) ?_
            clear hK K
            refine Wps_cond rfl (fun hc17 => ?_) (fun hc17 => ?_)
            · try simp only [decide_eq_true_eq, decide_eq_false_iff_not, Bool.not_eq_true', Bool.not_eq_false', Int.not_lt, Int.not_le, ge_iff_le, gt_iff_lt, Bool.or_eq_false_iff, Bool.or_eq_true, Bool.and_eq_true, Bool.and_eq_false_imp, beq_iff_eq, beq_eq_false_iff_ne, ne_eq, bne_iff_ne, bne_eq_false_iff_eq] at hc17
              refine Wps_seq ?_
              refine Wps_reg (T := [(42, eWithin)]) ⟨e42_ok, trivial⟩ [6] rfl (by simp) fun K hK => ?_
              repeat
                (first | refine X0 rfl fun K1 hK1 => ?_ | refine X1 rfl rfl fun K1 hK1 => ?_)
                simp only [↓EP, EQ, implies_true, forall_const, tys, zoks, zeros, Nat.reduceEqDiff, Nat.reduceAdd, Nat.reduceLT, Nat.reduceLeDiff, reduceIte, reduceCtorEq, dFil, dVer, dLock, eWithin, tagsOf_map]
                try simp (disch := omega) only [wrap64, wrapU64]
                repeat (first | refine And.intro cl ?_ | intro e)
                refine hK1 _ ?_
                clear hK1 K1
              refine XE ?_
              refine hK _ _ (by simp only [St.keep, keepL, at_cons, at_nil, Nat.reduceEqDiff, reduceIte, eq_self]; rfl) ?_
              clear hK K
              refine Wps_ret ?_
              try simp only [Wps_nil, thenQ_normal, thenQ_exit, thenQ_ret, blkQ_normal, blkQ_ret, blkQ_if, blkQ_same, scQ_normal, scQ_ret, scQ_exit, Nat.reduceEqDiff, reduceIte, eq_self, reduceCtorEq, if_true, if_false]
              first | refine ret_pureQ rfl ?_ | refine ret_pureN rfl ?_
              simp only [retP, at_cons, at_nil, Nat.reduceEqDiff, reduceIte, eq_self, AV.use, retV, AV.bel, AV.bels, true_and, and_true]
              first | (exfalso; omega) | (exfalso; simp_all; done) | (simp [isWanted, *]; done) | (simp_all [isWanted]; done) | (simp_all [isWanted]; omega) | (cases hl : f.latest <;> cases latest <;> simp_all [isWanted, ← Int.not_le])
            · try simp only [decide_eq_true_eq, decide_eq_false_iff_not, Bool.not_eq_true', Bool.not_eq_false', Int.not_lt, Int.not_le, ge_iff_le, gt_iff_lt, Bool.or_eq_false_iff, Bool.or_eq_true, Bool.and_eq_true, Bool.and_eq_false_imp, beq_iff_eq, beq_eq_false_iff_ne, ne_eq, bne_iff_ne, bne_eq_false_iff_eq] at hc17
              refine Wps_skip ?_
              simp only [Wps_nil, thenQ_normal, thenQ_exit, thenQ_ret, blkQ_normal, blkQ_ret, blkQ_if, blkQ_same, scQ_normal, scQ_ret, scQ_exit, Nat.reduceEqDiff, reduceIte, eq_self, reduceCtorEq, if_true, if_false]
              refine Wps_seq ?_
              refine Wps_reg (T := [(42, eWithin)]) ⟨e42_ok, trivial⟩ [6] rfl (by simp) fun K hK => ?_
              repeat
                (first | refine X0 rfl fun K1 hK1 => ?_ | refine X1 rfl rfl fun K1 hK1 => ?_)
                simp only [↓EP, EQ, implies_true, forall_const, tys, zoks, zeros, Nat.reduceEqDiff, Nat.reduceAdd, Nat.reduceLT, Nat.reduceLeDiff, reduceIte, reduceCtorEq, dFil, dVer, dLock, eWithin, tagsOf_map]
                try simp (disch := omega) only [wrap64, wrapU64]
                repeat (first | refine And.intro cl ?_ | intro e)
                refine hK1 _ ?_
                clear hK1 K1
              refine XE ?_
              refine hK _ _ (by simp only [St.keep, keepL, at_cons, at_nil, Nat.reduceEqDiff, reduceIte, eq_self]; rfl) ?_
              clear hK K
              refine Wps_ret ?_
              try simp only [Wps_nil, thenQ_normal, thenQ_exit, thenQ_ret, blkQ_normal, blkQ_ret, blkQ_if, blkQ_same, scQ_normal, scQ_ret, scQ_exit, Nat.reduceEqDiff, reduceIte, eq_self, reduceCtorEq, if_true, if_false]
              first | refine ret_pureQ rfl ?_ | refine ret_pureN rfl ?_
              simp only [retP, at_cons, at_nil, Nat.reduceEqDiff, reduceIte, eq_self, AV.use, retV, AV.bel, AV.bels, true_and, and_true]
              first | (exfalso; omega) | (exfalso; simp_all; done) | (simp [isWanted, *]; done) | (simp_all [isWanted]; done) | (simp_all [isWanted]; omega) | (cases hl : f.latest <;> cases latest <;> simp_all [isWanted, ← Int.not_le])

end Go.Proofs.Ytolplbfonlhbhaa
