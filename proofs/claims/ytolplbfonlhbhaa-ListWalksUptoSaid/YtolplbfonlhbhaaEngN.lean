/- The engine, part N: rules for walks: a list of codes, one behind the other. -/
import Derived.Test.YtolplbfonlhbhaaEngM
set_option linter.unusedVariables false
set_option linter.unusedSectionVars false
set_option linter.unusedSimpArgs false
namespace Go.Eng
open Go
variable [Globs]

def keepL (s : St) : List Nat → List (Nat × AV)
  | [] => []
  | t :: r => (t, s.at t) :: keepL s r
def St.keep (s : St) (ts : List Nat) : St := ⟨keepL s ts, s.L⟩

/-- codes, one behind the other -/
def Wps (P : Program) (c : Ctx) : List Code → St → (Exit → St → Prop) → Prop
  | [], s, Q => Q .normal s
  | x :: l, s, Q => Wp P c x s (thenQ (fun s' => Wps P c l s' Q) Q)

def blkQ (id : Nat) (R : St → Prop) (Q : Exit → St → Prop) : Exit → St → Prop
  | .normal, s => R s
  | .exit id', s => if id' = id then R s else Q (.exit id') s
  | e, s => Q e s

section
variable {P : Program} {c : Ctx} {s : St} {Q : Exit → St → Prop} {l : List Code}

theorem impL_keep : ∀ ts : List Nat, impL s (keepL s ts)
  | [] => by simp only [keepL, impL]
  | t :: r => by simp only [keepL, impL]; exact ⟨Imp.refl _, impL_keep r⟩
theorem Wk_keep (ts : List Nat) : Wk c s (s.keep ts) := Wk_slots (impL_keep ts)

theorem Wps_one {x : Code} (h : Wps P c [x] s Q) : Wp P c x s Q := by
  refine Wp_mono h fun e s' h => ?_
  cases e <;> exact h

theorem Wps_weak {s' : St} (hw : Wk c s s') (h : Wps P c l s' Q) (hl : l ≠ []) : Wps P c l s Q := by
  cases l with
  | nil => exact (hl rfl).elim
  | cons x l => exact Wp_weak hw h

theorem Wps_seq {x y : Code} (h : Wps P c (x :: y :: l) s Q) : Wps P c (.seq x y :: l) s Q := by
  refine Wp_seq (Wp_mono h fun e s' h => ?_)
  cases e <;> exact h

theorem Wps_region {id : Nat} {ops : Array Oper} (ts : List Nat) (hd : dstOk c.N ops.toList = true) (hl : l ≠ []) (h : ∀ K : St → Prop, (∀ s', Wps P c l (s'.keep ts) Q → K s') → wpl P ops.toList ops.toList s K) :
    Wps P c (.region id ops false :: l) s Q :=
  Wp_region hd (h _ fun s' h' => Wps_weak (Wk_keep ts) h' hl)
theorem Wps_region' {id : Nat} {ops : Array Oper} (hd : dstOk c.N ops.toList = true) (h : ∀ K : St → Prop, (∀ s', Wps P c l s' Q → K s') → wpl P ops.toList ops.toList s K) :
    Wps P c (.region id ops false :: l) s Q :=
  Wp_region hd (h _ fun s' h' => h')

theorem Wps_cond {x : Operand} {thn els : Code} {b : Bool} (hx : s.ev x = .d (.raw (.bool b))) (ht : b = true → Wps P c (thn :: l) s Q) (hf : b = false → Wps P c (els :: l) s Q) : Wps P c (.cond x thn els :: l) s Q :=
  Wp_cond hx ht hf
theorem Wps_skip (h : Wps P c l s Q) : Wps P c (.skip :: l) s Q := Wp_skip h
theorem Wps_ret (h : Q .ret s) : Wps P c (.ret :: l) s Q := Wp_ret h
theorem Wps_exit {id : Nat} (h : Q (.exit id) s) : Wps P c (.exit id :: l) s Q := Wp_exit h
theorem Wps_block {id : Nat} {body : Code} (h : Wps P c [body] s (blkQ id (fun s' => Wps P c l s' Q) Q)) : Wps P c (.block id body :: l) s Q := by
  refine Wp_block (Wp_mono (Wps_one h) fun e s' h => ?_)
  cases e with
  | exit id' => simp only [blkQ, blockQ] at h ⊢; split <;> simp_all [thenQ]
  | _ => exact h
theorem Wps_loop {body : Code} (I : Nat → St → Prop) (n0 : Nat) {s0 : St} (h0 : I n0 s0) (hw : Wk c s s0)
    (round : ∀ n s, I n s → Wps P c [body] s (thenQ (fun s' => ∃ m s'', m < n ∧ I m s'' ∧ Wk c s' s'') Q)) : Wps P c (.loop body :: l) s Q := by
  refine Wp_loop I n0 h0 hw fun n s hI => Wp_mono (Wps_one (round n s hI)) fun e s' h => ?_
  cases e <;> exact h
/-- the ways of x meet again at J -/
theorem Wps_join {x : Code} (J : St → Prop) (h : Wps P c [x] s (thenQ J Q)) (hj : ∀ s', J s' → Wps P c l s' Q) : Wps P c (x :: l) s Q := by
  refine Wp_mono (Wps_one h) fun e s' h => ?_
  cases e with
  | normal => exact hj s' h
  | _ => exact h

theorem thenQ_normal (R : St → Prop) (Q : Exit → St → Prop) (s : St) : thenQ R Q .normal s = R s := rfl
theorem thenQ_ret (R : St → Prop) (Q : Exit → St → Prop) (s : St) : thenQ R Q .ret s = Q .ret s := rfl
theorem thenQ_exit (R : St → Prop) (Q : Exit → St → Prop) (id : Nat) (s : St) : thenQ R Q (.exit id) s = Q (.exit id) s := rfl
theorem blkQ_normal (id : Nat) (R : St → Prop) (Q : Exit → St → Prop) (s : St) : blkQ id R Q .normal s = R s := rfl
theorem blkQ_ret (id : Nat) (R : St → Prop) (Q : Exit → St → Prop) (s : St) : blkQ id R Q .ret s = Q .ret s := rfl
theorem blkQ_same (id : Nat) (R : St → Prop) (Q : Exit → St → Prop) (s : St) : blkQ id R Q (.exit id) s = R s := by simp [blkQ]
theorem blkQ_exit {id id' : Nat} (R : St → Prop) (Q : Exit → St → Prop) (s : St) (h : id' ≠ id) : blkQ id R Q (.exit id') s = Q (.exit id') s := by simp [blkQ, h]
theorem retQ_ret (rs : List ResultVar) (post : AV → List Res → Prop) : retQ P c rs post .ret s = retP P s rs fun l => ∃ L' G, s.L = L' ++ G ∧ (retV l).bel L'.length ∧ BelL L'.length L' ∧ c.L0.length ≤ L'.length ∧ post (retV l) L' := rfl
theorem retQ_normal (rs : List ResultVar) (post : AV → List Res → Prop) : retQ P c rs post .normal s = retP P s rs fun l => ∃ L' G, s.L = L' ++ G ∧ (retV l).bel L'.length ∧ BelL L'.length L' ∧ c.L0.length ≤ L'.length ∧ post (retV l) L' := rfl

/-- A FUNCTION's CONTRACT, out of its body (the frame written out) -/
theorem Ok_of {L : List Res} {f : FuncId} {fn : Func} {code : Code} {args : List AV} {post : AV → List Res → Prop} (hf : P.funcs[f]? = some fn) (hn : (fn.name == "runtime.NumGoroutine") = false) (hb : fn.body = some code) {rs : List ResultVar} (hr : fn.results.toList = rs) {n : Nat} (hN : fn.ntmps = n) (hargs : args.length ≤ n)
    (h : ∀ (Z0 : Zone) (γ0 : List Value) (w0 : World), γ0.length = L.length → BelL L.length L → Wps P ⟨n, L, Z0, γ0, w0⟩ [code] ⟨enumA 0 args, L⟩ (retQ P ⟨n, L, Z0, γ0, w0⟩ rs post)) : Ok P f args L post := by
  subst hr hN
  refine Ok_intro hf hn hb hargs ?_
  rintro ⟨N, L0, Z0, γ0, w0⟩ hN hL hγ hb
  simp only at hN hL hγ
  subst hN hL
  exact Wps_one (h Z0 γ0 w0 hγ hb)

/-! ### places in a list that is known from some place on -/
theorem getL {α : Type} (L G : List α) (i : Nat) : (L ++ G)[L.length + i]? = G[i]? := by
  rw [List.getElem?_append_right (by omega)]; congr 1; omega
theorem getL0 {α : Type} (L G : List α) : (L ++ G)[L.length]? = G[0]? := by
  rw [List.getElem?_append_right (by omega)]; congr 1; omega
theorem setL {α : Type} (L G : List α) (i : Nat) (x : α) : (L ++ G).set (L.length + i) x = L ++ G.set i x := by
  rw [List.set_append_right _ _ (by omega)]; congr 2; omega
theorem setL0 {α : Type} (L G : List α) (x : α) : (L ++ G).set L.length x = L ++ G.set 0 x := by
  rw [List.set_append_right _ _ (by omega)]; congr 2; omega
theorem getLlt {α : Type} {L : List α} {j : Nat} {x : α} (h : L[j]? = some x) (G : List α) : (L ++ G)[j]? = some x := by
  rw [List.getElem?_append_left (List.getElem?_eq_some_iff.1 h).1]; exact h
theorem setLlt {α : Type} {L : List α} {j : Nat} {x : α} (h : L[j]? = some x) (G : List α) (y : α) : (L ++ G).set j y = L.set j y ++ G := by
  rw [List.set_append_left _ _ (List.getElem?_eq_some_iff.1 h).1]
theorem BelL_le {n m : Nat} (h : n ≤ m) : ∀ {l : List Res}, BelL n l → BelL m l
  | [], _ => trivial
  | r :: l, hb => ⟨by
      have : ∀ x : AV, x.bel n → x.bel m := AV_bel_le h
      cases r with
      | box x => exact this x hb.1
      | _ => trivial, BelL_le h hb.2⟩
where
  AV_bel_le {n m : Nat} (h : n ≤ m) : ∀ x : AV, x.bel n → x.bel m
  | .d _, _ => trivial
  | .ag xs, hb => AVs_bel_le h xs hb
  | .ptr _ _ _, hb => Nat.lt_of_lt_of_le hb h
  | .vp _, _ => trivial
  | .own _ _ _, hb => Nat.lt_of_lt_of_le hb h
  | .bsl _ _ _ _ _ _, hb => Nat.lt_of_lt_of_le hb h
  | .gd _ x, hb => AV_bel_le h x hb
  | .tup xs, hb => AVs_bel_le h xs hb
  | .undef, _ => trivial
  AVs_bel_le {n m : Nat} (h : n ≤ m) : ∀ xs : List AV, AV.bels n xs → AV.bels m xs
  | [], _ => trivial
  | x :: r, hb => ⟨AV_bel_le h x hb.1, AVs_bel_le h r hb.2⟩
theorem BelL_append {n : Nat} : ∀ {l l' : List Res}, BelL n (l ++ l') ↔ BelL n l ∧ BelL n l'
  | [], l' => by simp [BelL]
  | r :: l, l' => by simp only [List.cons_append, BelL, BelL_append (l := l)]; constructor <;> (intro h; simp_all)
end
end Go.Eng
