/- The engine, part L: whole regions, control, functions. -/
import Derived.Test.YtolplbfonlhbhaaEngK
set_option linter.unusedVariables false
set_option linter.unusedSectionVars false
set_option linter.unusedSimpArgs false
namespace Go.Eng
open Go
variable [Globs]
section
variable {P : Program} {Z : Zone} {w : World} {γ : List Value} {c : Ctx} {s : St} {a : Act}
variable {next : Act → World → Prop} {Q : Exit → Act → World → Prop} {K : St → Prop}

theorem reps_map (hR : RelZ c s Z γ a w) : ∀ l : List Operand, usAll s l → RepVs Z w γ s.L (usVals s l) (l.map a.eval)
  | [], _ => by simp only [usVals, List.map_nil, RepVs]
  | x :: l, h => by
    simp only [usVals, List.map_cons, RepVs]
    exact ⟨_, _, rfl, us_sound hR x h.1, reps_map hR l h.2⟩

theorem exec_call {o : Oper} {cl : Call} {f : FuncId} {fn : Func} (ho : o.op = .call cl) (hc : cl.callee = .value (.func f)) (hf : P.funcs[f]? = some fn) (hn : (fn.name == "runtime.NumGoroutine") = false) (hb : fn.body.isSome = true) :
    (execOp a.eval o).run P w = .ok (.enter f (cl.args.map a.eval)) w := by
  have hb' : ¬ fn.body = none := by cases h : fn.body <;> simp_all
  have hn' : ¬ fn.name = "runtime.NumGoroutine" := by simpa using hn
  simp [execOp, ho, resolve, hc, Act.eval, Deferred.ofValue, invoke, callFunc, hf, hn', hb']

theorem call_sound (hR : RelZ c s Z γ a w) {o : Oper} {cl : Call} {f : FuncId} (ho : o.op = .call cl) (hc : cl.callee = .value (.func f)) (hargs : usAll s cl.args.toList) {post : AV → List Res → Prop}
    (hok : Ok P f (usVals s cl.args.toList) s.L post)
    (hK : ∀ (v : Value) (r : AV) (L' : List Res) (Z' : Zone) (γ' : List Value) (w' : World), post r L' → RepV Z' w' γ' L' r v → RelZ c ⟨s.sl, L'⟩ Z' γ' a w' → next (a.put o.dst v) w') : o.wp P a w next Q := by
  obtain ⟨⟨fn, hf, hn, hb⟩, hok⟩ := hok
  unfold Oper.wp
  rw [exec_call ho hc hf hn hb, Oper.upon_enter]
  refine (hok w Z γ (cl.args.map a.eval) hR.env (by simpa using reps_map hR cl.args.toList hargs)).mono ?_
  rintro e w' ⟨v, r, L', Z', γ', rfl, hp, hr, he, ha⟩
  exact hK v r L' Z' γ' w' hp hr (hR.go he ha)

theorem wpCall_sound (hR : RelZ c s Z γ a w) {o : Oper} {cl : Call} (ho : o.op = .call cl) (hd : ∀ d, o.dst = some d → d < c.N)
    (h : wpCall P s o.dst cl K) (hK : ∀ s' a' w', K s' → Rel c s' a' w' → next a' w') : o.wp P a w next Q := by
  unfold wpCall at h
  split at h
  · rename_i hc
    split at h
    · rename_i x y t t' h1 h2
      obtain ⟨rfl, h⟩ := h
      exact wpAppend_sound hR ho hc h1 h2 hd h hK
    · exact h.elim
  · rename_i f hc
    obtain ⟨hargs, hok⟩ := h
    refine call_sound hR ho hc hargs hok fun v r L' Z' γ' w' hp hr hR' => hK _ _ _ hp ?_
    exact hR'.putR' hd hr
  · exact h.elim

theorem wpe_sound (hR : RelZ c s Z γ a w) {o : Oper} (hd : ∀ d, o.dst = some d → d < c.N)
    (h : wpe P s o K) (hK : ∀ s' a' w', K s' → Rel c s' a' w' → (opX o.op = true → Ext w w') → next a' w') : o.wp P a w next Q := by
  unfold wpe at h
  split at h
  · rename_i t ho
    obtain ⟨hz, hk⟩ := h
    obtain ⟨v, hv, hrd, _, _⟩ := ZOK_run (P := P) (Z := Z) (w := w) (γ := γ) (L := s.L) hz
    obtain ⟨he, ha⟩ := hR.env.box (x := .d (zeroD P 9 t)) (cs := v.cells) (t := t) (by simpa only [RepA] using hrd)
    refine upon_value (v := .pointer (some ⟨w.heap.size, 0, none⟩)) (w' := w.alloc (.cells v.cells t)) (by simp [execOp, ho, Instr.alloc, hv, newVar, newRow]) (hK _ _ _ hk (relR hR hd he ha ?_) fun _ => Ext.alloc _ _)
    exact rep_ptr_mk (by rw [← hR.env.len]; simp)
  · rename_i t x ho
    obtain ⟨c1, hval, hk⟩ := h
    have hx := RepC_cells (isVal_C (us_sound hR x c1) hval)
    obtain ⟨he, ha⟩ := hR.env.box (x := (s.us x).2) (cs := (a.eval x).cells) (t := t) hx
    refine upon_value (v := .pointer (some ⟨w.heap.size, 0, none⟩)) (w' := w.alloc (.cells (a.eval x).cells t)) (by simp [execOp, ho, Instr.box, newVar, newRow]) (hK _ _ _ hk (relR hR hd he ha ?_) fun _ => Ext.alloc _ _)
    exact rep_ptr_mk (by rw [← hR.env.len]; simp)
  · rename_i t ad x ho; exact wpStore_sound hR ho hd h fun s' a' w' h1 h2 => hK s' a' w' h1 h2 fun e => by simp [ho, opX] at e
  · rename_i t n ps ho; exact wpBuildSlice_sound hR ho hd h fun s' a' w' h1 h2 h3 => hK s' a' w' h1 h2 fun _ => h3
  · rename_i t l m ho; exact wpMake_sound hR ho hd h fun s' a' w' h1 h2 h3 => hK s' a' w' h1 h2 fun _ => h3
  · rename_i src t x ho; exact wpConv_sound hR ho hd h fun s' a' w' h1 h2 h3 => hK s' a' w' h1 h2 fun _ => h3
  · rename_i cl ho; exact wpCall_sound hR ho hd h fun s' a' w' h1 h2 => hK s' a' w' h1 h2 fun e => by simp [ho, opX] at e
  · exact h.elim

theorem yielded_guard (hR : RelZ c s Z γ a w) {ops : Array Oper} {j t : Nat} (ht : (ops[j]?).bind (·.dst) = some t) {q : Prop} {b' b : Bool} (hg : guardV (s.at t) = some (q, b', b)) :
    yielded ops a.tmps j = if b' then some b else none := by
  have hs := hR.slots t
  unfold guardV at hg
  have ht' : ((ops[j]?).bind (·.dst)).bind (a.tmps[·]?) = a.tmps[t]? := by rw [ht]; rfl
  split at hg
  · rename_i b0 e
    simp only [Option.some.injEq, Prod.mk.injEq] at hg
    obtain ⟨_, rfl, rfl⟩ := hg
    rw [e] at hs
    obtain ⟨h1, _⟩ := rep_raw.1 hs
    have : a.tmps[t]? = some (.bool b0) := by
      rw [Array.getD_eq_getD_getElem?] at h1
      cases hq : a.tmps[t]? with
      | none => rw [hq] at h1; simp [undef] at h1
      | some v => rw [hq] at h1; simp at h1; rw [h1]
    simp only [yielded, ht', this, if_true]
  · rename_i b0 b1 e
    simp only [Option.some.injEq, Prod.mk.injEq] at hg
    obtain ⟨_, rfl, rfl⟩ := hg
    rw [e] at hs
    simp only [RepV] at hs
    cases b0 with
    | true =>
      obtain ⟨h1, _⟩ := rep_raw.1 (by simpa only [RepV] using hs.1 rfl)
      have : a.tmps[t]? = some (.bool b1) := by
        rw [Array.getD_eq_getD_getElem?] at h1
        cases hq : a.tmps[t]? with
        | none => rw [hq] at h1; simp [undef] at h1
        | some v => rw [hq] at h1; simp at h1; rw [h1]
      simp only [yielded, ht', this, if_true]
    | false =>
      have h1 := hs.2 rfl
      rw [Array.getD_eq_getD_getElem?] at h1
      cases hq : a.tmps[t]? with
      | none => simp [yielded, ht', hq]
      | some v =>
        rw [hq] at h1
        simp at h1
        subst h1
        simp [yielded, ht', hq, undef]
  · simp at hg

theorem wpg_soundX (hR : RelZ c s Z γ a w) {ops : Array Oper} {i : Nat} {o : Oper} {next : Act → World → Prop} (hi : ops[i]? = some o) (hd : ∀ d, o.dst = some d → d < c.N)
    (h : wpg P ops.toList s o K) (hK : ∀ s' a' w', K s' → Rel c s' a' w' → (opX o.op = true ∨ (pv P s o.op).isSome = true → Ext w w') → next a' w') : wpOp P ops Q i next a w := by
  simp only [wpOp, hi]
  unfold wpg at h
  split at h
  · rename_i hg
    have hw : Region.wanted o (yielded ops a.tmps) = true := by simp [Region.wanted, hg]
    rw [if_pos hw]
    left
    split at h
    · rename_i q x hp
      obtain ⟨v, h1, h2⟩ := pv_sound hR hp h.1
      exact upon_value (h1 w fun _ => Ext.refl w) (hK _ _ _ h.2 (hR.putR' hd h2) fun _ => Ext.refl w)
    · rename_i hp
      exact wpe_sound hR hd h fun s' a' w' h1 h2 h3 => hK s' a' w' h1 h2 fun e => h3 (by simpa [hp] using e)
  · rename_i j want hg
    split at h
    · exact h.elim
    · rename_i t ht
      have ht' : (ops[j]?).bind (·.dst) = some t := by simpa using ht
      split at h
      · exact h.elim
      · rename_i q0 b' b hgv
        have hy := yielded_guard hR ht' hgv
        have hw : Region.wanted o (yielded ops a.tmps) = (b' && (b == want)) := by
          simp only [Region.wanted, hg, hy]
          cases b' <;> cases b <;> cases want <;> rfl
        rw [hw]
        have skip : (b' && (b == want)) = false → ∀ x, RepV Z w γ s.L (.gd (b' && (b == want)) x) undef := fun hf x => by
          simp only [RepV, hf]; exact ⟨fun h => by simp at h, fun _ => trivial⟩
        split at h
        · rename_i q x hp
          cases hb : (b' && (b == want)) with
          | true =>
            rw [if_pos rfl]
            left
            obtain ⟨v, h1, h2⟩ := pv_sound hR hp (h.1 hb).1
            refine upon_value (h1 w fun _ => Ext.refl w) (hK _ _ _ h.2 (hR.putR' hd ?_) fun _ => Ext.refl w)
            simp only [RepV, hb]
            exact ⟨fun _ => use_sound h2 (h.1 hb).2, fun h => by simp at h⟩
          | false =>
            rw [if_neg (by simp)]
            exact hK _ _ _ h.2 (hR.putR' hd (skip hb _)) fun _ => Ext.refl w
        · rename_i hp
          unfold wpgCall at h
          split at h
          · rename_i cl ho
            split at h
            · rename_i f hc
              obtain ⟨r, hr, hk⟩ := h
              cases hb : (b' && (b == want)) with
              | true =>
                rw [if_pos rfl]
                left
                obtain ⟨hargs, hok⟩ := hr hb
                refine call_sound hR ho hc hargs hok fun v r' L' Z' γ' w' hp' hr hR' => hK _ _ _ hk ?_ (fun e => by rw [hp, ho] at e; simp [opX] at e)
                obtain ⟨rfl, rfl⟩ := hp'
                refine RelZ.putR' (s := s) hR' hd ?_
                simp only [RepV, hb]
                exact ⟨fun _ => by simpa only [RepV] using hr, fun h => by simp at h⟩
              | false =>
                rw [if_neg (by simp)]
                exact hK _ _ _ hk (hR.putR' hd (skip hb _)) fun _ => Ext.refl w
            · exact h.elim
          · exact h.elim

theorem wpg_sound (hR : RelZ c s Z γ a w) {ops : Array Oper} {i : Nat} {o : Oper} {rest : List Nat} (hi : ops[i]? = some o) (hd : ∀ d, o.dst = some d → d < c.N)
    (h : wpg P ops.toList s o K) (hK : ∀ s' a' w', K s' → Rel c s' a' w' → wpOps P ops Q rest a' w') : wpOps P ops Q (i :: rest) a w := by
  rw [wpOps_cons]
  exact wpg_soundX hR hi hd h fun s' a' w' h1 h2 _ => hK s' a' w' h1 h2

def dstOk (N : Nat) (l : List Oper) : Bool := l.all fun o => match o.dst with | some d => decide (d < N) | none => true

theorem dstOk_mem {N : Nat} {l : List Oper} (h : dstOk N l = true) {o : Oper} (ho : o ∈ l) : ∀ d, o.dst = some d → d < N := by
  intro d hd
  have := List.all_eq_true.1 h o ho
  simpa [hd] using this

theorem wpl_sound {ops : Array Oper} : ∀ (l : List Oper) (k : Nat) {s : St} {a : Act} {w : World}, ops.toList.drop k = l → dstOk c.N l = true → wpl P ops.toList l s K → Rel c s a w →
    (∀ s' a' w', K s' → Rel c s' a' w' → Q .normal a' w') → wpOps P ops Q (List.range' k l.length) a w
  | [], k, s, a, w, _, _, h, hR, hK => by simp only [List.length_nil, List.range'_zero, wpOps]; exact hK _ _ _ h hR
  | o :: l, k, s, a, w, hl, hd, h, ⟨Z, γ, hR⟩, hK => by
    have hk : k < ops.toList.length := by
      rcases Nat.lt_or_ge k ops.toList.length with q | q
      · exact q
      · rw [List.drop_of_length_le q] at hl; simp at hl
    have hdrop := List.drop_eq_getElem_cons hk
    rw [hl] at hdrop
    simp only [List.cons.injEq] at hdrop
    have hi : ops[k]? = some o := by
      have : ops.toList[k]? = some o := by rw [List.getElem?_eq_getElem hk, hdrop.1]
      simpa using this
    simp only [List.length_cons, List.range'_succ]
    refine wpg_sound hR hi (dstOk_mem hd (by simp)) h fun s' a' w' hk' hR' => ?_
    exact wpl_sound l (k + 1) hdrop.2.symm (by simp only [dstOk, List.all_cons, Bool.and_eq_true] at hd; exact hd.2) hk' hR' hK
end

/-! ### code -/
def Wp (P : Program) (c : Ctx) (code : Code) (s : St) (Q : Exit → St → Prop) : Prop :=
  ∀ a w, Rel c s a w → code.wp P (fun e a' w' => ∃ s', Q e s' ∧ Rel c s' a' w') a w

section
variable {P : Program} {c : Ctx} {s : St} {Q : Exit → St → Prop}

theorem Wp_mono {code : Code} {Q' : Exit → St → Prop} (h : Wp P c code s Q) (hq : ∀ e s', Q e s' → Q' e s') : Wp P c code s Q' :=
  fun a w hR => wp_mono (h a w hR) fun e a' w' ⟨s', h1, h2⟩ => ⟨s', hq e s' h1, h2⟩

theorem Wp_skip (h : Q .normal s) : Wp P c .skip s Q := fun a w hR => wp_skip ⟨s, h, hR⟩

theorem Wp_region {id : Nat} {ops : Array Oper} (hd : dstOk c.N ops.toList = true) (h : wpl P ops.toList ops.toList s (Q .normal)) : Wp P c (.region id ops false) s Q := by
  intro a w hR
  refine wp_region ?_
  have := wpl_sound (Q := fun e a' w' => ∃ s', Q e s' ∧ Rel c s' a' w') ops.toList 0 (by simp) hd h hR (fun s' a' w' hk hR' => ⟨s', hk, hR'⟩)
  rw [List.range_eq_range']
  simpa using this

def thenQ (R : St → Prop) (Q : Exit → St → Prop) : Exit → St → Prop
  | .normal, s => R s
  | e, s => Q e s

theorem Wp_seq {x y : Code} (h : Wp P c x s (thenQ (fun s' => Wp P c y s' Q) Q)) : Wp P c (.seq x y) s Q := by
  intro a w hR
  refine wp_seq (wp_mono (h a w hR) ?_)
  rintro e a' w' ⟨s', h1, h2⟩
  cases e <;> first | exact h1 a' w' h2 | exact ⟨s', h1, h2⟩

theorem Wp_cond {x : Operand} {thn els : Code} {b : Bool} (hx : s.ev x = .d (.raw (.bool b))) (ht : b = true → Wp P c thn s Q) (hf : b = false → Wp P c els s Q) : Wp P c (.cond x thn els) s Q := by
  intro a w hR
  obtain ⟨Z, γ, hR'⟩ := hR
  have h1 := hR'.ev x
  rw [hx] at h1
  obtain ⟨h2, _⟩ := rep_raw.1 h1
  exact wp_cond_split h2 (fun h => ht h a w ⟨Z, γ, hR'⟩) (fun h => hf h a w ⟨Z, γ, hR'⟩)

def blockQ (id : Nat) (Q : Exit → St → Prop) : Exit → St → Prop
  | .exit id', s => if id' = id then Q .normal s else Q (.exit id') s
  | e, s => Q e s

theorem Wp_block {id : Nat} {body : Code} (h : Wp P c body s (blockQ id Q)) : Wp P c (.block id body) s Q := by
  intro a w hR
  refine wp_block (wp_mono (h a w hR) ?_)
  rintro e a' w' ⟨s', h1, h2⟩
  cases e with
  | exit id' =>
    simp only [blockQ] at h1
    simp only [Exit.inBlock]
    split
    · rename_i e; rw [if_pos e] at h1; exact ⟨s', h1, h2⟩
    · rename_i e; rw [if_neg e] at h1; exact ⟨s', h1, h2⟩
  | _ => exact ⟨s', h1, h2⟩

theorem Wp_exit {id : Nat} (h : Q (.exit id) s) : Wp P c (.exit id) s Q := fun a w hR => wp_exit ⟨s, h, hR⟩
theorem Wp_ret (h : Q .ret s) : Wp P c .ret s Q := fun a w hR => wp_ret ⟨s, h, hR⟩

/-- a weaker view of the same state -/
def Wk (c : Ctx) (s s' : St) : Prop := ∀ a w, Rel c s a w → Rel c s' a w

theorem Wp_weak {code : Code} {s' : St} (hw : Wk c s s') (h : Wp P c code s' Q) : Wp P c code s Q := fun a w hR => h a w (hw a w hR)
theorem Wk.refl (s : St) : Wk c s s := fun _ _ h => h
theorem Wk.trans {s s' s'' : St} (h : Wk c s s') (h' : Wk c s' s'') : Wk c s s'' := fun a w hR => h' a w (h a w hR)

/-- A LOOP: I n s: the state at a round's head, n rounds at the most to come -/
theorem Wp_loop {body : Code} (I : Nat → St → Prop) (n0 : Nat) {s0 : St} (h0 : I n0 s0) (hw : Wk c s s0)
    (round : ∀ n s, I n s → Wp P c body s (thenQ (fun s' => ∃ m s'', m < n ∧ I m s'' ∧ Wk c s' s'') Q)) : Wp P c (.loop body) s Q := by
  have key : ∀ n (b : Frame) (k : List Item) (cs : List Frame) (a : Act) (w : World) (s : St), I n s → Rel c s a w → ∃ e a' w', (∃ s', Q e s' ∧ Rel c s' a' w') ∧ Arrives P (lone (b.at a (.code body :: .inLoop body :: k)) cs w) b k cs e a' w' := by
    intro n b k cs
    induction n using Nat.strongRecOn with
    | _ n ih =>
      intro a w s hI hR
      obtain ⟨e, a₁, w₁, ⟨s1, hq, hR1⟩, harr⟩ := round n s hI a w hR b (.inLoop body :: k) cs
      cases e with
      | normal =>
        obtain ⟨m, s2, hlt, hI2, hw2⟩ := hq
        obtain ⟨e₂, a₂, w₂, hq₂, harr₂⟩ := ih m hlt a₁ w₁ s2 hI2 (hw2 _ _ hR1)
        exact ⟨e₂, a₂, w₂, hq₂, .of_steps (Steps.trans harr (.one step_inLoop)) harr₂⟩
      | exit id => exact ⟨_, a₁, w₁, ⟨s1, hq, hR1⟩, .pass (x := .inLoop body) rfl (fun _ _ => .inl (by simp)) harr⟩
      | goto l => exact ⟨_, a₁, w₁, ⟨s1, hq, hR1⟩, .pass (x := .inLoop body) rfl (fun _ _ => .inl (by simp)) harr⟩
      | ret => exact ⟨_, a₁, w₁, ⟨s1, hq, hR1⟩, .pass (x := .inLoop body) rfl (fun _ _ => .inl (by simp)) harr⟩
      | panic ch => exact ⟨_, a₁, w₁, ⟨s1, hq, hR1⟩, .pass (x := .inLoop body) rfl (fun _ _ => .inl (by simp)) harr⟩
      | outgrown => exact ⟨_, a₁, w₁, ⟨s1, hq, hR1⟩, .pass (x := .inLoop body) rfl (fun _ _ => .inl (by simp)) harr⟩
  intro a w hR b k cs
  obtain ⟨e, a', w', hq, harr⟩ := key n0 b k cs a w s0 h0 (hw _ _ hR)
  exact ⟨e, a', w', hq, .of_steps (.one step_loop) harr⟩
end
end Go.Eng
