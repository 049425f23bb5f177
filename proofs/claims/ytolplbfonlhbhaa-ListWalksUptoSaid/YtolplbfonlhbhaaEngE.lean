/- The engine, part E: operations that leave memory alone come to what part D says. -/
import Derived.Test.YtolplbfonlhbhaaEngD
set_option linter.unusedVariables false
set_option linter.unusedSectionVars false
set_option linter.unusedSimpArgs false
namespace Go.Eng
open Go
section
variable {P : Program} {Z : Zone} {w : World} {γ : List Value} {L : List Res}

theorem rep_raw {u v : Value} : RepV Z w γ L (.d (.raw u)) v ↔ v = u ∧ u.oneCell' = true := by
  simp only [RepV, RepC, AV.isAg, D.isAg, RepA, RepD, if_neg, Bool.false_eq_true, not_false_eq_true, List.cons.injEq, and_true]
theorem use_sound {X : AV} {v : Value} (h : RepV Z w γ L X v) : X.use.1 → RepV Z w γ L X.use.2 v := by
  cases X <;> simp only [AV.use] <;> intro h' <;> first | exact h | (simp only [RepV] at h; exact h.1 h')
theorem rep_d {x : D} {v : Value} : RepV Z w γ L (.d x) v ↔ RepC Z w γ L (.d x) v := by simp only [RepV]
theorem rep_dag {x : D} {v : Value} (hx : x.isAg = true) : RepV Z w γ L (.d x) v ↔ ∃ cs : Array Value, v = .agg cs ∧ RepD Z w x cs.toList := by
  simp only [RepV, RepC, AV.isAg, hx, if_true, RepA]
theorem rep_dna {x : D} {v : Value} (hx : x.isAg = false) : RepV Z w γ L (.d x) v ↔ RepD Z w x [v] := by
  simp only [RepV, RepC, AV.isAg, hx, Bool.false_eq_true, if_false, RepA]
theorem RepV_of_C {x : AV} {v : Value} (h : RepC Z w γ L x v) : RepV Z w γ L x v := by
  cases x with
  | gd b x => simp [RepC, AV.isAg, RepA] at h
  | tup l => simp [RepC, AV.isAg, RepA] at h
  | undef => simp only [RepV]
  | _ => simpa only [RepV] using h

theorem withC_sound {c : Prop} {r : Option (Prop × Value)} {q : Prop} {z : AV} (h : withC c r = some (q, z)) (hq : q) : c ∧ ∃ q' v, r = some (q', v) ∧ q' ∧ z = .d (.raw v) := by
  unfold withC at h
  split at h
  · rename_i q' v
    simp only [Option.some.injEq, Prod.mk.injEq] at h
    obtain ⟨rfl, rfl⟩ := h
    exact ⟨hq.1, q', v, rfl, hq.2, rfl⟩
  · simp at h

theorem intBin_sound {op : BinOp} {k : IntKind} {a b : Int} {q : Prop} {v : Value} {t : TypeId} (hs : isShift op = false) (h : intBin op k a b = some (q, v)) (hq : q) :
    (binOp op t (.int k a) (.int k b)).run P w = .ok v w ∧ v.oneCell' = true := by
  cases op <;> simp only [isShift, Bool.true_eq_false] at hs <;> simp only [intBin, Option.some.injEq, Prod.mk.injEq, reduceCtorEq] at h <;> obtain ⟨rfl, rfl⟩ := h <;>
    first
    | (simp [binOp, Op.intArith, Op.intBits, Op.intCmp, Value.oneCell']; done)
    | (simp [binOp, Op.intDiv, hq, Value.oneCell']; done)

theorem shiftBin_sound {op : BinOp} {k k' : IntKind} {a b : Int} {q : Prop} {v : Value} {t : TypeId} (h : shiftBin op k a b = some (q, v)) (hq : q) :
    (binOp op t (.int k a) (.int k' b)).run P w = .ok v w ∧ v.oneCell' = true := by
  cases op <;> simp only [shiftBin, Option.some.injEq, Prod.mk.injEq, reduceCtorEq] at h <;> obtain ⟨rfl, rfl⟩ := h <;>
    (have : ¬ b < 0 := by omega) <;> simp [binOp, Op.shift, this, Value.oneCell']

theorem strBin_sound {op : BinOp} {a b : ByteArray} {q : Prop} {v : Value} {t : TypeId} (h : strBin op a b = some (q, v)) (hq : q) :
    (binOp op t (.string a) (.string b)).run P w = .ok v w ∧ v.oneCell' = true := by
  cases op <;> simp only [strBin, Option.some.injEq, Prod.mk.injEq, reduceCtorEq] at h <;> obtain ⟨rfl, rfl⟩ := h <;>
    first
    | (have hm : ¬ (IntKind.i64.max < ((a.size + b.size : Nat) : Int)) := by
        have : IntKind.i64.max = 9223372036854775807 := by decide
        omega
       simp only [binOp, Op.stringOp, gt_iff_lt, hm, if_false, Sem.run_pure, Value.oneCell', and_self]; done)
    | (simp [binOp, Op.stringOp, strEq, strLt, Value.oneCell']; done)

theorem eqGuard_int {op : BinOp} {t : TypeId} {x y : Operand} {k k' : IntKind} {a b : Int} : (eqGuard op t x y (.int k a) (.int k' b)).run P w = .ok () w := by
  unfold eqGuard; split <;> simp
theorem eqGuard_str {op : BinOp} {t : TypeId} {x y : Operand} {a b : ByteArray} : (eqGuard op t x y (.string a) (.string b)).run P w = .ok () w := by
  unfold eqGuard; split <;> simp
theorem eqGuard_bool {op : BinOp} {t : TypeId} {x y : Operand} {a b : Bool} : (eqGuard op t x y (.bool a) (.bool b)).run P w = .ok () w := by
  unfold eqGuard; split <;> simp
theorem eqGuard_ptr {op : BinOp} {t : TypeId} {x y : Operand} {a b : Option Addr} : (eqGuard op t x y (.pointer a) (.pointer b)).run P w = .ok () w := by
  unfold eqGuard; split <;> simp

theorem run_under {t : Nat} {d : TypeDesc} (h : P.underlying t = some d) (w : World) : (underlying t).run P w = .ok d w := by
  simp [underlying, h]

theorem equal_bool {t : Nat} {a b : Bool} (h : kindT P t = .bool) : (Op.equal t (.bool a) (.bool b)).run P w = .ok (a == b) w := by
  obtain ⟨d, hd⟩ : ∃ d, Op.maxDepth = d + 1 := ⟨9999, rfl⟩
  simp [Op.equal, hd, Op.equalIn, run_under (kindT_bool h)]
theorem equal_ptr_nil {t : Nat} {a : Addr} (h : kindT P t = .ptr) : (Op.equal t (.pointer (some a)) (.pointer none)).run P w = .ok false w := by
  obtain ⟨e, he⟩ := kindT_ptr h
  obtain ⟨d, hd⟩ : ∃ d, Op.maxDepth = d + 1 := ⟨9999, rfl⟩
  simp [Op.equal, hd, Op.equalIn, run_under he]
theorem equal_nil_nil {t : Nat} (h : kindT P t = .ptr) : (Op.equal t (.pointer none) (.pointer none)).run P w = .ok true w := by
  obtain ⟨e, he⟩ := kindT_ptr h
  obtain ⟨d, hd⟩ : ∃ d, Op.maxDepth = d + 1 := ⟨9999, rfl⟩
  simp [Op.equal, hd, Op.equalIn, run_under he]

theorem rep_ptr {j off : Nat} {p : List Nat} {v : Value} (h : RepV Z w γ L (.ptr j off p) v) : ∃ b, γ[j]? = some (.pointer (some ⟨b, 0, none⟩)) ∧ v = .pointer (some ⟨b, off, none⟩) := by
  simpa [RepV, RepC, AV.isAg, RepA] using h
theorem rep_ptr_mk {j off b : Nat} {p : List Nat} (h : γ[j]? = some (.pointer (some ⟨b, 0, none⟩))) : RepV Z w γ L (.ptr j off p) (.pointer (some ⟨b, off, none⟩)) := by
  simpa [RepV, RepC, AV.isAg, RepA] using h
theorem rep_vp {x : D} {v : Value} (h : RepV Z w γ L (.vp x) v) : ∃ b o c, v = .pointer (some ⟨b, o, none⟩) ∧ cellsAt Z w b o c ∧ RepD Z w x c := by
  simpa [RepV, RepC, AV.isAg, RepA] using h
theorem rep_vp_mk {x : D} {b o : Nat} {c : List Value} (h : cellsAt Z w b o c) (h' : RepD Z w x c) : RepV Z w γ L (.vp x) (.pointer (some ⟨b, o, none⟩)) := by
  simp only [RepV, RepC, AV.isAg, RepA, Bool.false_eq_true, if_false]
  exact ⟨b, o, c, rfl, h, h'⟩

theorem pvBin_sound {op : BinOp} {t : TypeId} {xo yo : Operand} {x y : Prop × AV} {v1 v2 : Value} {c : Prop} {r : AV} (hx : x.1 → RepV Z w γ L x.2 v1) (hy : y.1 → RepV Z w γ L y.2 v2)
    (h : pvBin P op t x y = some (c, r)) (hc : c) : ∃ v, (∀ w1, (do eqGuard op t xo yo v1 v2; binOp op t v1 v2 : Sem Value).run P w1 = .ok v w1) ∧ RepV Z w γ L r v := by
  unfold pvBin at h
  split at h
  · rename_i k a k' b e1 e2
    rw [e1] at hx; rw [e2] at hy
    split at h
    · rename_i hs
      obtain ⟨hxy, q', v, hv, hq', rfl⟩ := withC_sound h hc
      obtain ⟨rfl, _⟩ := rep_raw.1 (hx hxy.1)
      obtain ⟨rfl, _⟩ := rep_raw.1 (hy hxy.2)
      have := fun w1 => shiftBin_sound (P := P) (w := w1) (k' := k') (t := t) hv hq'
      exact ⟨v, fun w1 => by simp [eqGuard_int, (this w1).1], rep_raw.2 ⟨rfl, (this w).2⟩⟩
    · rename_i hs
      obtain ⟨hxy, q', v, hv, hq', rfl⟩ := withC_sound h hc
      obtain ⟨rfl, _⟩ := rep_raw.1 (hx hxy.1)
      obtain ⟨rfl, _⟩ := rep_raw.1 (hy hxy.2.1)
      obtain rfl := hxy.2.2
      have := fun w1 => intBin_sound (P := P) (w := w1) (t := t) (by simpa using hs) hv hq'
      exact ⟨v, fun w1 => by simp [eqGuard_int, (this w1).1], rep_raw.2 ⟨rfl, (this w).2⟩⟩
  · rename_i a b e1 e2
    rw [e1] at hx; rw [e2] at hy
    obtain ⟨hxy, q', v, hv, hq', rfl⟩ := withC_sound h hc
    obtain ⟨rfl, _⟩ := rep_raw.1 (hx hxy.1)
    obtain ⟨rfl, _⟩ := rep_raw.1 (hy hxy.2)
    have := fun w1 => strBin_sound (P := P) (w := w1) (t := t) hv hq'
    exact ⟨v, fun w1 => by simp [eqGuard_str, (this w1).1], rep_raw.2 ⟨rfl, (this w).2⟩⟩
  · rename_i a b e1 e2
    rw [e1] at hx; rw [e2] at hy
    cases op <;> simp only [Option.some.injEq, Prod.mk.injEq, reduceCtorEq] at h <;> obtain ⟨rfl, rfl⟩ := h <;>
      (obtain ⟨rfl, _⟩ := rep_raw.1 (hx hc.1)) <;> (obtain ⟨rfl, _⟩ := rep_raw.1 (hy hc.2.1)) <;>
      exact ⟨_, fun w1 => by simp [eqGuard_bool, binOp, equal_bool hc.2.2]; done, rep_raw.2 ⟨rfl, rfl⟩⟩
  · rename_i e1 e2
    rw [e1] at hx; rw [e2] at hy
    cases op <;> simp only [Option.some.injEq, Prod.mk.injEq, reduceCtorEq] at h <;> obtain ⟨rfl, rfl⟩ := h <;>
      (obtain ⟨b, _, rfl⟩ := rep_ptr (hx hc.1)) <;> (obtain ⟨rfl, _⟩ := rep_raw.1 (hy hc.2.1)) <;>
      exact ⟨_, fun w1 => by simp [eqGuard_ptr, binOp, equal_ptr_nil hc.2.2]; done, rep_raw.2 ⟨rfl, rfl⟩⟩
  · rename_i e1 e2
    rw [e1] at hx; rw [e2] at hy
    cases op <;> simp only [Option.some.injEq, Prod.mk.injEq, reduceCtorEq] at h <;> obtain ⟨rfl, rfl⟩ := h <;>
      (obtain ⟨b, o, cs, rfl, _⟩ := rep_vp (hx hc.1)) <;> (obtain ⟨rfl, _⟩ := rep_raw.1 (hy hc.2.1)) <;>
      exact ⟨_, fun w1 => by simp [eqGuard_ptr, binOp, equal_ptr_nil hc.2.2]; done, rep_raw.2 ⟨rfl, rfl⟩⟩
  · rename_i e1 e2
    rw [e1] at hx; rw [e2] at hy
    cases op <;> simp only [Option.some.injEq, Prod.mk.injEq, reduceCtorEq] at h <;> obtain ⟨rfl, rfl⟩ := h <;>
      (obtain ⟨rfl, _⟩ := rep_raw.1 (hx hc.1)) <;> (obtain ⟨rfl, _⟩ := rep_raw.1 (hy hc.2.1)) <;>
      exact ⟨_, fun w1 => by simp [eqGuard_ptr, binOp, equal_nil_nil hc.2.2]; done, rep_raw.2 ⟨rfl, rfl⟩⟩
  · simp at h

theorem pvUn_sound {op : UnOp} {x : Prop × AV} {v1 : Value} {c : Prop} {r : AV} (hx : x.1 → RepV Z w γ L x.2 v1)
    (h : pvUn op x = some (c, r)) (hc : c) : ∃ v, (∀ w1, (Op.unary op v1).run P w1 = .ok v w1) ∧ RepV Z w γ L r v := by
  unfold pvUn at h
  split at h
  · rename_i b e1
    rw [e1] at hx
    simp only [Option.some.injEq, Prod.mk.injEq] at h
    obtain ⟨rfl, rfl⟩ := h
    obtain ⟨rfl, _⟩ := rep_raw.1 (hx hc)
    exact ⟨_, fun w1 => by simp [Op.unary]; done, rep_raw.2 ⟨rfl, rfl⟩⟩
  · rename_i k n e1
    rw [e1] at hx
    simp only [Option.some.injEq, Prod.mk.injEq] at h
    obtain ⟨rfl, rfl⟩ := h
    obtain ⟨rfl, _⟩ := rep_raw.1 (hx hc)
    exact ⟨_, fun w1 => by simp only [Op.unary, Op.intArith, Sem.run_pure]; done, rep_raw.2 ⟨rfl, rfl⟩⟩
  · rename_i k n e1
    rw [e1] at hx
    simp only [Option.some.injEq, Prod.mk.injEq] at h
    obtain ⟨rfl, rfl⟩ := h
    obtain ⟨rfl, _⟩ := rep_raw.1 (hx hc)
    exact ⟨_, fun w1 => by simp only [Op.unary, Op.intBits, Sem.run_pure]; done, rep_raw.2 ⟨rfl, rfl⟩⟩
  · simp at h

theorem pvConv_sound {src dst : TypeId} {x : Prop × AV} {v1 : Value} {c : Prop} {r : AV} (hx : x.1 → RepV Z w γ L x.2 v1)
    (h : pvConv P src dst x = some (c, r)) (hc : c) : ∃ v, (∀ w1, (convert src dst v1).run P w1 = .ok v w1) ∧ RepV Z w γ L r v := by
  unfold pvConv at h
  split at h
  · rename_i k n e1
    rw [e1] at hx
    split at h
    · rename_i k' hk
      simp only [Option.some.injEq, Prod.mk.injEq] at h
      obtain ⟨rfl, rfl⟩ := h
      obtain ⟨rfl, _⟩ := rep_raw.1 (hx hc.1)
      exact ⟨_, fun w1 => by simp [convert, run_under (kindT_int hc.2), run_under (kindT_int hk), Conv.intToInt]; done, rep_raw.2 ⟨rfl, rfl⟩⟩
    · simp at h
  · rename_i s e1
    split at h
    · rename_i hk
      simp only [Option.some.injEq, Prod.mk.injEq] at h
      obtain ⟨rfl, rfl⟩ := h
      have hx' := hx hc.1
      rw [e1] at hx'
      obtain ⟨rfl, h1⟩ := rep_raw.1 hx'
      exact ⟨.string s, fun w1 => by simp [convert, run_under (kindT_str hc.2), run_under (kindT_str hk)], by rw [e1]; exact rep_raw.2 ⟨rfl, h1⟩⟩
    · simp at h
  · simp at h

theorem intOf_sound {x : AV} {k : IntKind} {n : Int} {v : Value} (h : intOf x = some (k, n)) (hx : RepV Z w γ L x v) : v = .int k n := by
  unfold intOf at h
  split at h
  · rename_i k' n'
    simp only [Option.some.injEq, Prod.mk.injEq] at h
    obtain ⟨rfl, rfl⟩ := h
    exact (rep_raw.1 hx).1
  · simp at h

theorem els_sound {x : AV} {k : Nat} {ds : List D} {v : Value} (h : x.els = some (k, ds)) (hx : RepV Z w γ L x v) :
    (∃ ad, v = .slice ad 0 0 ∧ ds = []) ∨ ∃ b o cap, v = .slice (some ⟨b, o, none⟩) ds.length cap ∧ ds.length ≤ cap ∧ RepEls Z w k b o ds := by
  unfold AV.els at h
  split at h
  · simp only [Option.some.injEq, Prod.mk.injEq] at h
    obtain ⟨rfl, rfl⟩ := h
    simpa [RepV, RepC, AV.isAg, D.isAg, RepA, RepD] using hx
  · simp only [Option.some.injEq, Prod.mk.injEq] at h
    obtain ⟨rfl, rfl⟩ := h
    simp only [RepV, RepC, AV.isAg, RepA, RepD, Bool.false_eq_true, if_false] at hx
    simpa using hx.2.1
  · simp at h

theorem getD_some {α : Type} [Inhabited α] {l : List α} {i : Nat} (h : i < l.length) : l[i]? = some (l.getD i default) := by
  simp [List.getD, h]

theorem toNat_lt {n : Int} {m : Nat} (h0 : 0 ≤ n) (h : n < (m : Int)) : n.toNat < m := by omega

theorem cellsAt_sub {b o : Nat} {cs : List Value} (h : cellsAt Z w b o cs) (i n : Nat) : cellsAt Z w b (o + i) ((cs.drop i).take n) := by
  intro j v hj
  have : cs[i + j]? = some v := by
    rw [List.getElem?_take] at hj
    split at hj
    · rwa [List.getElem?_drop] at hj
    · simp at hj
  rw [Nat.add_assoc]
  exact h (i + j) v this

theorem rep_bsl {j off k lo len : Nat} {p : List Nat} {v : Value} (h : RepV Z w γ L (.bsl j off k lo len p) v) :
    ∃ b a cap, γ[j]? = some (.pointer (some ⟨b, 0, none⟩)) ∧ v = .slice (some a) len cap ∧ len ≤ cap ∧ (0 < len → a = ⟨b, off + lo * k, none⟩) := by
  simpa [RepV, RepC, AV.isAg, RepA] using h
theorem rep_bsl_mk {j off k lo len b cap : Nat} {a : Addr} {p : List Nat} (h1 : γ[j]? = some (.pointer (some ⟨b, 0, none⟩))) (h2 : len ≤ cap) (h3 : 0 < len → a = ⟨b, off + lo * k, none⟩) :
    RepV Z w γ L (.bsl j off k lo len p) (.slice (some a) len cap) := by
  simp only [RepV, RepC, AV.isAg, RepA, Bool.false_eq_true, if_false]
  exact ⟨b, a, cap, h1, rfl, h2, h3⟩

theorem pvIdxAddr_sound {t : TypeId} {x i : Prop × AV} {v1 v2 : Value} {c : Prop} {r : AV} (hx : x.1 → RepV Z w γ L x.2 v1) (hi : i.1 → RepV Z w γ L i.2 v2)
    (h : pvIdxAddr P t x i = some (c, r)) (hc : c) : ∃ v, (∀ w1, (Instr.indexAt t v1 v2).run P w1 = .ok v w1) ∧ RepV Z w γ L r v := by
  unfold pvIdxAddr at h
  split at h
  · simp at h
  rename_i kd n hn
  split at h
  · rename_i j off p e1
    split at h
    · rename_i m k a hm
      simp only [Option.some.injEq, Prod.mk.injEq] at h
      obtain ⟨rfl, rfl⟩ := h
      obtain ⟨c1, c2, c3, c4⟩ := hc
      have hx := hx c1; rw [e1] at hx
      obtain ⟨b, hb, rfl⟩ := rep_ptr hx
      obtain rfl := intOf_sound hn (hi c2)
      obtain ⟨e, hu, hs, _⟩ := arrT_some hm
      refine ⟨_, ?_, rep_ptr_mk hb⟩
      intro w1
      simp [Instr.indexAt, asIntOf, run_under hu, Instr.sureAddr, c3, c4, run_sizeOf' hs, add_eq]
    · simp at h
  · rename_i m k ds e1
    split at h
    · rename_i m' k' a hm
      simp only [Option.some.injEq, Prod.mk.injEq] at h
      obtain ⟨rfl, rfl⟩ := h
      obtain ⟨c1, c2, rfl, rfl, c3, c4⟩ := hc
      have hx := hx c1; rw [e1] at hx
      obtain ⟨b, o, cs, rfl, h1, h2⟩ := rep_vp hx
      obtain rfl := intOf_sound hn (hi c2)
      obtain ⟨e, hu, hs, _⟩ := arrT_some hm
      simp only [RepD] at h2
      obtain ⟨g1, g2, g3⟩ := h2
      have hlt : n.toNat < ds.length := by omega
      obtain ⟨f1, f2⟩ := RepDs_nth g3 (getD_some hlt)
      have hsz := g2 (ds.getD n.toNat default) (List.mem_of_getElem? (getD_some hlt))
      rw [sizes_take_const g2 (by omega)] at f1
      refine ⟨_, ?_, rep_vp_mk (cellsAt_sub h1 (n.toNat * k') _) f1⟩
      intro w1
      simp [Instr.indexAt, asIntOf, run_under hu, Instr.sureAddr, c3, c4, run_sizeOf' hs, add_eq]
    · simp at h
  · rename_i j off k lo len p e1
    split at h
    · rename_i e k' by_ a hm
      simp only [Option.some.injEq, Prod.mk.injEq] at h
      obtain ⟨rfl, rfl⟩ := h
      obtain ⟨c1, c2, rfl, c3, c4⟩ := hc
      have hx := hx c1; rw [e1] at hx
      obtain ⟨b, ad, cap, hb, rfl, hle, had⟩ := rep_bsl hx
      obtain rfl := intOf_sound hn (hi c2)
      obtain ⟨hu, hs, _⟩ := sliceT_some hm
      obtain rfl := had (by omega)
      refine ⟨.pointer (some ⟨b, off + (lo + n.toNat) * k', none⟩), ?_, rep_ptr_mk hb⟩
      have e2 : off + lo * k' + n.toNat * k' = off + (lo + n.toNat) * k' := by rw [Nat.add_mul]; omega
      intro w1
      simp [Instr.indexAt, asIntOf, run_under hu, c3, c4, run_sizeOf' hs, add_eq, e2]
    · simp at h
  · split at h
    · rename_i k ds e k' by_ a he hm
      simp only [Option.some.injEq, Prod.mk.injEq] at h
      obtain ⟨rfl, rfl⟩ := h
      obtain ⟨c1, c2, rfl, c3, c4⟩ := hc
      obtain rfl := intOf_sound hn (hi c2)
      obtain ⟨hu, hs, _⟩ := sliceT_some hm
      have hlt : n.toNat < ds.length := by omega
      rcases els_sound he (hx c1) with ⟨_, _, rfl⟩ | ⟨b, o, cap, rfl, hle, hels⟩
      · simp at hlt
      · obtain ⟨cs, f1, f2, f3⟩ := RepEls_nth hels (getD_some hlt)
        refine ⟨_, ?_, rep_vp_mk f2 f3⟩
        intro w1
        simp [Instr.indexAt, asIntOf, run_under hu, c3, c4, run_sizeOf' hs, add_eq]
    · simp at h
end
end Go.Eng
