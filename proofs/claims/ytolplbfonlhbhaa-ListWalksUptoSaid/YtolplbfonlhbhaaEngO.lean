/- The engine, part O: calls that leave all that was there as it was; regions that draw their order. -/
import Derived.Test.YtolplbfonlhbhaaEngNb
set_option linter.unusedVariables false
set_option linter.unusedSimpArgs false
set_option linter.unusedSectionVars false
namespace Go.Eng
open Go
variable [Globs]

/-! ### calls that only add -/
/-- an argument, seen without its owner -/
def AV.shut (x : AV) : AV :=
  match x.asD with
  | some y => .d y
  | none => x
def shuts (s : St) : List Operand → List AV
  | [] => []
  | x :: r => (s.us x).2.shut :: shuts s r

/-- the contract of a call that owns nothing and hands on nothing that is owned -/
def PureOk (P : Program) (f : FuncId) (args : List AV) (post : AV → Prop) : Prop :=
  AV.bels 0 args ∧ (∀ r, post r → r.bel 0) ∧ Ok P f args [] fun r' L' => post r' ∧ L' = []

section
variable {P : Program} {Z : Zone} {w : World} {γ : List Value} {L : List Res} {c : Ctx} {s : St} {a : Act}

theorem RepV_shut (x : AV) (v : Value) (h : RepV Z w γ L x v) : RepV Z w γ L x.shut v := by
  unfold AV.shut
  split
  · rename_i d hd; exact asD_sound hd h
  · exact h
theorem RepVs_shut : ∀ (xs : List AV) (vs : List Value), RepVs Z w γ L xs vs → RepVs Z w γ L (xs.map AV.shut) vs
  | [], vs, h => by simpa only [RepVs, List.map_nil] using h
  | x :: r, vs, h => by
    simp only [List.map_cons, RepVs] at h ⊢
    obtain ⟨v, l, e, h1, h2⟩ := h
    exact ⟨v, l, e, RepV_shut x v h1, RepVs_shut r l h2⟩
theorem shuts_eq : ∀ l : List Operand, shuts s l = (usVals s l).map AV.shut
  | [] => rfl
  | x :: r => by simp only [shuts, usVals, List.map_cons, shuts_eq r]

theorem pure_run {f : FuncId} {args : List AV} {post : AV → Prop} {vs : Array Value} (h : PureOk P f args post) (hE : Env L Z γ w) (hr : RepVs Z w γ L args vs.toList) :
    Calls P f vs w fun e w' => ∃ v r Z', e = .returned v ∧ post r ∧ RepV Z' w' γ L r v ∧ Env L Z' γ w' ∧ Adv L Z γ w L Z' γ w' ∧ Ext w w' := by
  obtain ⟨hb, hrb, _, hok⟩ := h
  have hE0 : Env [] Z [] w := ⟨rfl, fun j r g h => by simp at h, fun i j ri rj gi gj b h => by simp at h, hE.zlt, hE.glob⟩
  refine (hok w Z [] vs hE0 (RepVs_cut (γ := []) (γG := γ) (L := []) (G := L) rfl args _ hb hr)).mono ?_
  rintro e w' ⟨v, r', L', Z', γ', rfl, ⟨hp, rfl⟩, hrep, hE', ha⟩
  have hγ' : γ' = [] := List.length_eq_zero_iff.1 hE'.len
  subst hγ'
  have hno : ∀ b, ¬ owns [] [] b := fun b ⟨j, r, g, h, _⟩ => by simp at h
  have hst : Step (fun _ => False) Z w w' := ⟨ha.step.os, ha.step.output, ha.step.tape, ha.step.size, fun b hb _ => ha.step.keep b hb (hno b), ha.step.zone⟩
  obtain ⟨he2, ha2⟩ := hE.grow (Z' := Z') hst ha.zone (fun b o hz => by
    rcases ha.znew b o hz with h | h | h
    · exact .inl h
    · exact (hno b h).elim
    · exact .inr ⟨h, hE'.zlt b o hz⟩)
  refine ⟨v, r', Z', rfl, hp, ?_, he2, ha2, ⟨hst.os, hst.output, hst.tape, hst.size, fun b hb => hst.keep b hb id⟩⟩
  exact RepV_mono (fun _ _ h => h) (fun _ _ _ => rfl) (γ := []) (L := []) ⟨Nat.zero_le _, fun j b h => by simp at h, fun j e k n' h => by simp at h⟩ _ _ hrep

theorem PureOk.ok {f : FuncId} {args args' : List AV} {post : AV → Prop} (h : PureOk P f args' post) (he : args.map AV.shut = args') : Ok P f args L fun r' L' => post r' ∧ L' = L :=
  ⟨h.2.2.1, fun w Z γ vs hE hr => (pure_run h hE (he ▸ RepVs_shut args _ hr)).mono fun e w' ⟨v, r, Z', h1, hp, h2, h3, h4, _⟩ => ⟨v, r, L, Z', γ, h1, ⟨hp, rfl⟩, h2, h3, h4⟩⟩
end

/-- what a listed call comes to -/
abbrev Ent := List AV → Option (Prop × (AV → Prop))
def EntOk (P : Program) (f : FuncId) (e : Ent) : Prop := ∀ args q post, e args = some (q, post) → (∃ r, post r) ∧ (q → PureOk P f args post)
def tabOk (P : Program) : List (Nat × Ent) → Prop
  | [] => True
  | (f, e) :: r => EntOk P f e ∧ tabOk P r
def entOf (T : List (Nat × Ent)) (f : Nat) : Option Ent :=
  match T with
  | [] => none
  | (g, e) :: r => if f = g then some e else entOf r f
theorem entOf_ok {P : Program} {f : Nat} {e : Ent} : ∀ {T : List (Nat × Ent)}, tabOk P T → entOf T f = some e → EntOk P f e
  | [], _, h => by simp [entOf] at h
  | (g, e') :: r, ht, h => by
    simp only [entOf] at h
    split at h
    · rename_i e1; subst e1; simp only [Option.some.injEq] at h; subst h; exact ht.1
    · exact entOf_ok ht.2 h
def pureF (T : List (Nat × Ent)) (o : Op) : Option (Nat × Ent × List Operand) :=
  match o with
  | .call c => match c.callee with
    | .value (.func f) => match entOf T f with
      | some e => some (f, e, c.args.toList)
      | none => none
    | _ => none
  | _ => none

def grd (all : List Oper) (s : St) (o : Oper) (K : Option Bool → Prop) : Prop :=
  match o.guard with
  | none => K none
  | some (j, want) => match (all[j]?).bind (·.dst) with
    | none => False
    | some t => match guardV (s.at t) with
      | none => False
      | some (_, b', b) => K (some (b' && (b == want)))

def wpGo (s : St) (dst : Option Nat) (g : Option Bool) (q : Prop) (x : AV) (K : St → Prop) : Prop :=
  match g with
  | none => q ∧ K (s.put dst x)
  | some b => (b = true → q ∧ x.use.1) ∧ K (s.put dst (.gd b x.use.2))

def wpGoX (s : St) (dst : Option Nat) (g : Option Bool) (q : Prop) (post : AV → Prop) (K : St → Prop) : Prop :=
  match g with
  | none => q ∧ ∀ r, post r → K (s.put dst r)
  | some b => (b = true → q) ∧ ∀ r, post r → K (s.put dst (.gd b r))

/-- an operation; calls in the table come to what the table says -/
def wpx (P : Program) (T : List (Nat × Ent)) (all : List Oper) (s : St) (o : Oper) (K : St → Prop) : Prop :=
  match pureF T o.op with
  | none => match relOp P s o.op with
    | some (q, post) => grd all s o fun g => wpGoX s o.dst g q post K
    | none => wpg P all s o K
  | some (_, e, l) => match e (shuts s l) with
    | none => False
    | some (q, post) => grd all s o fun g => wpGoX s o.dst g (usAll s l ∧ q) post K

/-- an operation that only reads -/
def wpr (P : Program) (all : List Oper) (s : St) (o : Oper) (K : St → Prop) : Prop :=
  match pv P s o.op with
  | none => match relOp P s o.op with
    | some (q, post) => grd all s o fun g => wpGoX s o.dst g q post K
    | none => False
  | some (q, x) => grd all s o fun g => wpGo s o.dst g q x K

def wplX (P : Program) (T : List (Nat × Ent)) (all : List Oper) : List Oper → St → (St → Prop) → Prop
  | [], s, K => K s
  | o :: r, s, K => wpx P T all s o fun s' => wplX P T all r s' K

def wplO (P : Program) (T : List (Nat × Ent)) (all : List Oper) : List (Nat × Bool) → St → (St → Prop) → Prop
  | [], s, K => K s
  | (i, rd) :: r, s, K => match all[i]? with
    | none => False
    | some o => if rd = true then wpr P all s o (fun s' => wplO P T all r s' K) else wpx P T all s o fun s' => wplO P T all r s' K

section
variable {P : Program} {Z : Zone} {w : World} {γ : List Value} {c : Ctx} {s : St} {a : Act} {T : List (Nat × Ent)}
variable {next : Act → World → Prop} {Q : Exit → Act → World → Prop} {K : St → Prop}

theorem grd_sound (hR : RelZ c s Z γ a w) {ops : Array Oper} {o : Oper} {K : Option Bool → Prop} (h : grd ops.toList s o K) :
    (Region.wanted o (yielded ops a.tmps) = true ∧ K none) ∨ (∃ b, Region.wanted o (yielded ops a.tmps) = b ∧ K (some b)) := by
  unfold grd at h
  split at h
  · rename_i hg
    exact .inl ⟨by simp [Region.wanted, hg], h⟩
  · rename_i j want hg
    split at h
    · exact h.elim
    · rename_i t ht
      have ht' : (ops[j]?).bind (·.dst) = some t := by simpa using ht
      split at h
      · exact h.elim
      · rename_i q0 b' b hgv
        have hy := yielded_guard hR ht' hgv
        refine .inr ⟨_, ?_, h⟩
        simp only [Region.wanted, hg, hy]
        cases b' <;> cases b <;> cases want <;> rfl

theorem rep_gd_t {L : List Res} {x : AV} {v : Value} (h : RepV Z w γ L x v) : RepV Z w γ L (.gd true x) v := by
  simp only [RepV]; exact ⟨fun _ => h, fun h => by simp at h⟩
theorem rep_gd_f {L : List Res} {x : AV} : RepV Z w γ L (.gd false x) undef := by
  simp only [RepV]; exact ⟨fun h => by simp at h, fun _ => trivial⟩

theorem pureF_some {o : Op} {f : Nat} {e : Ent} {l : List Operand} (h : pureF T o = some (f, e, l)) : ∃ cl : Call, o = .call cl ∧ cl.callee = .value (.func f) ∧ entOf T f = some e ∧ cl.args.toList = l := by
  unfold pureF at h
  split at h
  · rename_i cl
    split at h
    · rename_i f' hc
      split at h
      · rename_i e' he
        simp only [Option.some.injEq, Prod.mk.injEq] at h
        obtain ⟨rfl, rfl, rfl⟩ := h
        exact ⟨cl, rfl, hc, he, rfl⟩
      · simp at h
    · simp at h
  · simp at h

theorem wpx_sound (hT : tabOk P T) (hR : RelZ c s Z γ a w) {ops : Array Oper} {i : Nat} {o : Oper} (hi : ops[i]? = some o) (hd : ∀ d, o.dst = some d → d < c.N)
    (h : wpx P T ops.toList s o K) (hK : ∀ s' a' w', K s' → Rel c s' a' w' → (opX o.op = true ∨ (pureF T o.op).isSome = true → Ext w w') → next a' w') : wpOp P ops Q i next a w := by
  unfold wpx at h
  split at h
  · rename_i hp
    split at h
    · rename_i q post hq
      obtain ⟨hex, hrun⟩ := relOp_sound hR hq
      simp only [wpOp, hi]
      rcases grd_sound hR h with ⟨hw, h⟩ | ⟨b, hw, h⟩
      · rw [if_pos hw]
        obtain ⟨v, r, h1, h2, h3⟩ := hrun h.1
        exact .inl (upon_value (h1 w fun _ => Ext.refl w) (hK _ _ _ (h.2 r h2) (hR.putR' hd h3) fun _ => Ext.refl w))
      · rw [hw]
        cases b with
        | true =>
          rw [if_pos rfl]
          obtain ⟨v, r, h1, h2, h3⟩ := hrun (h.1 rfl)
          exact .inl (upon_value (h1 w fun _ => Ext.refl w) (hK _ _ _ (h.2 r h2) (hR.putR' hd (rep_gd_t h3)) fun _ => Ext.refl w))
        | false =>
          rw [if_neg (by simp)]
          obtain ⟨r, hr⟩ := hex
          exact hK _ _ _ (h.2 r hr) (hR.putR' hd rep_gd_f) fun _ => Ext.refl w
    · exact wpg_soundX hR hi hd h fun s' a' w' h1 h2 h3 => hK s' a' w' h1 h2 fun h4 => h3 (by rw [hp] at h4; simpa using h4.imp id (fun e => by simp at e))
  · rename_i f e l hp
    obtain ⟨cl, ho, hc, he, rfl⟩ := pureF_some hp
    split at h
    · exact h.elim
    · rename_i q post hq
      have hent := entOf_ok hT he _ _ _ hq
      have run : usAll s cl.args.toList → q → ∀ g : AV → AV, (∀ (Z' : Zone) (w' : World) (r : AV) (v : Value), RepV Z' w' γ s.L r v → RepV Z' w' γ s.L (g r) v) → (∀ r, post r → K (s.put o.dst (g r))) → o.wp P a w next Q := by
        intro h1 h2 g hg hk
        have hpo := hent.2 h2
        obtain ⟨⟨fn, hf, hn, hb⟩, _⟩ := hpo.2.2
        unfold Oper.wp
        rw [exec_call ho hc hf hn hb, Oper.upon_enter]
        have hargs := reps_map hR cl.args.toList h1
        have hargs' := RepVs_shut _ _ hargs
        rw [← shuts_eq] at hargs'
        refine (pure_run hpo hR.env (by simpa using hargs')).mono ?_
        rintro e' w' ⟨v, r, Z', rfl, hp, hr, hE', ha, hx⟩
        exact hK _ _ _ (hk r hp) ((hR.go hE' ha).putR' (s := s) hd (hg _ _ _ _ hr)) fun _ => hx
      simp only [wpOp, hi]
      rcases grd_sound hR h with ⟨hw, h⟩ | ⟨b, hw, h⟩
      · rw [if_pos hw]
        exact .inl (run h.1.1 h.1.2 id (fun _ _ _ _ h => h) h.2)
      · rw [hw]
        cases b with
        | true =>
          rw [if_pos rfl]
          have := h.1 rfl
          exact .inl (run this.1 this.2 (.gd true) (fun _ _ _ _ h => rep_gd_t h) h.2)
        | false =>
          rw [if_neg (by simp)]
          obtain ⟨r, hr⟩ := hent.1
          exact hK _ _ _ (h.2 r hr) (hR.putR' hd rep_gd_f) fun _ => Ext.refl w

/-- what an operation comes to in every later world -/
def YieldsE (P : Program) (ops : Array Oper) (o : Oper) (v : Value) (a : Act) (w : World) : Prop :=
  (Region.wanted o (yielded ops a.tmps) = true ∧ ∀ w1, (isLoad o.op = true → Ext w w1) → (execOp a.eval o).run P w1 = .ok (.value v) w1) ∨
  (Region.wanted o (yielded ops a.tmps) = false ∧ v = undef)

theorem YieldsE.wpOp {ops : Array Oper} {i : Nat} {o : Oper} {v : Value} (hi : ops[i]? = some o) (hy : YieldsE P ops o v a w) (h : next (a.put o.dst v) w) : wpOp P ops Q i next a w := by
  unfold Go.wpOp
  simp only [hi]
  rcases hy with ⟨hw, hv⟩ | ⟨hw, rfl⟩
  · rw [if_pos hw]; exact .inl (upon_value (hv w fun _ => Ext.refl w) h)
  · rw [hw, if_neg (by simp)]; exact h

theorem wpr_sound (hR : RelZ c s Z γ a w) {ops : Array Oper} {i : Nat} {o : Oper} (hi : ops[i]? = some o) (hd : ∀ d, o.dst = some d → d < c.N)
    (h : wpr P ops.toList s o K) : ∃ v s', YieldsE P ops o v a w ∧ K s' ∧ Rel c s' (a.put o.dst v) w := by
  unfold wpr at h
  split at h
  · split at h
    · rename_i q post hq
      obtain ⟨hex, hrun⟩ := relOp_sound hR hq
      rcases grd_sound hR h with ⟨hw, h⟩ | ⟨b, hw, h⟩
      · obtain ⟨v, r, h1, h2, h3⟩ := hrun h.1
        exact ⟨v, _, .inl ⟨hw, h1⟩, h.2 r h2, hR.putR' hd h3⟩
      · cases b with
        | true =>
          obtain ⟨v, r, h1, h2, h3⟩ := hrun (h.1 rfl)
          exact ⟨v, _, .inl ⟨hw, h1⟩, h.2 r h2, hR.putR' hd (rep_gd_t h3)⟩
        | false =>
          obtain ⟨r, hr⟩ := hex
          exact ⟨undef, _, .inr ⟨hw, rfl⟩, h.2 r hr, hR.putR' hd rep_gd_f⟩
    · exact h.elim
  · rename_i q x hp
    rcases grd_sound hR h with ⟨hw, h⟩ | ⟨b, hw, h⟩
    · obtain ⟨v, h1, h2⟩ := pv_sound hR hp h.1
      exact ⟨v, _, .inl ⟨hw, h1⟩, h.2, hR.putR' hd h2⟩
    · cases b with
      | true =>
        obtain ⟨v, h1, h2⟩ := pv_sound hR hp (h.1 rfl).1
        exact ⟨v, _, .inl ⟨hw, h1⟩, h.2, hR.putR' hd (rep_gd_t (use_sound h2 (h.1 rfl).2))⟩
      | false => exact ⟨undef, _, .inr ⟨hw, rfl⟩, h.2, hR.putR' hd rep_gd_f⟩

/-- any order, and what only adds is known to -/
def wpAnyE (P : Program) (ops : Array Oper) (X : Nat → Bool) (Q : Exit → Act → World → Prop) : Nat → Array Bool → Act → World → Prop
  | 0, listed, a, w => Region.ready .any ops listed = [] ∧ Q .normal a w
  | fuel + 1, listed, a, w => (Region.ready .any ops listed = [] → Q .normal a w) ∧
    ∀ i ∈ Region.ready .any ops listed, wpOp P ops Q i (fun a' w' => wpAnyE P ops X Q fuel (listed.setIfInBounds i true) a' w' ∧ (X i = true → Ext w w')) a w

theorem wpAny_of_E {ops : Array Oper} {X : Nat → Bool} : ∀ (fuel : Nat) (listed : Array Bool) (a : Act) (w : World), wpAnyE P ops X Q fuel listed a w → wpAny P .any ops Q fuel listed a w
  | 0, _, _, _, h => h
  | fuel + 1, listed, a, w, h => ⟨h.1, fun i hi => wpOp_mono (fun a' w' h' => wpAny_of_E fuel _ a' w' h'.1) (h.2 i hi)⟩

/-- an operation's run, slid past one that it does not touch -/
theorem wpOp_slide {ops : Array Oper} {j : Nat} {oi oj : Oper} {v : Value} (hj : ops[j]? = some oj) (hap : oi.apart ops oj = true)
    (hsi : ∀ cs b, oi.op ≠ .select cs b) (hsj : ∀ cs b, oj.op ≠ .select cs b) (hQ : ∀ ch a w, ¬ Q (.panic ch) a w)
    (h : wpOp P ops Q j next (a.put oi.dst v) w) :
    wpOp P ops Q j (fun a' w' => (execOp a'.eval oi = execOp a.eval oi ∧ Region.wanted oi (yielded ops a'.tmps) = Region.wanted oi (yielded ops a.tmps)) ∧ next (a'.put oi.dst v) w') a w := by
  obtain ⟨h1, h2, h3⟩ := Oper.apart_spec hap
  have same : ∀ u, execOp (a.put oj.dst u).eval oi = execOp a.eval oi ∧ Region.wanted oi (yielded ops (a.put oj.dst u).tmps) = Region.wanted oi (yielded ops a.tmps) :=
    fun u => ⟨execOp_put oi hsi a oj.dst u h3, wanted_put oi a oj.dst u h3⟩
  have swap : ∀ u, (a.put oi.dst v).put oj.dst u = (a.put oj.dst u).put oi.dst v := fun u => Act.put_comm a v u h2
  have he : execOp (a.put oi.dst v).eval oj = execOp a.eval oj := execOp_put oj hsj a oi.dst v h1
  unfold wpOp at *
  simp only [hj] at *
  rw [wanted_put oj a oi.dst v h1] at h
  split
  · rename_i hw
    rw [if_pos hw] at h
    rcases h with h | ⟨hasks, hl⟩
    · left
      unfold Oper.wp at *
      rw [he] at h
      generalize (execOp a.eval oj).run P w = res at *
      cases res with
      | ok n w' =>
        cases n <;> simp only [Oper.upon] at h ⊢
        case value u => rw [swap] at h; exact ⟨same u, h⟩
        case skip => rw [swap] at h; exact ⟨same _, h⟩
        case defer d =>
          refine ⟨?_, ?_⟩
          · exact ⟨(execOp_put oi hsi { a with defers := d :: a.defers } oj.dst undef h3).trans rfl, (wanted_put oi { a with defers := d :: a.defers } oj.dst undef h3).trans rfl⟩
          · rw [← Act.put_comm _ v undef h2, ← Act.put_defers]; exact h
        case enter f args =>
          refine Calls.mono h fun e w'' he' => ?_
          cases e with
          | returned u => simp only at he' ⊢; rw [swap] at he'; exact ⟨same u, he'⟩
          | panicked ch => exact (hQ _ _ _ he').elim
          | outgrown => exact he'
        case row r args =>
          refine Rows.mono h fun u w'' he' => ?_
          rw [swap] at he'
          exact ⟨same u, he'⟩
      | halt x w' =>
        cases x <;> simp only [Oper.upon] at h ⊢
        exact (hQ _ _ _ h).elim
    · right
      unfold Oper.asks at *
      rw [he] at hasks
      exact ⟨hasks, hl⟩
  · rename_i hw
    rw [if_neg hw] at h
    rw [swap] at h
    exact ⟨same _, h⟩

theorem listed_both {listed : Array Bool} {k : Nat} (h0 : listed.getD k true = false) (h1 : listed.getD k false = true) : False := by
  rcases Nat.lt_or_ge k listed.size with h' | h'
  · simp [h'] at h0 h1; rw [h0] at h1; cases h1
  · simp [Array.getElem?_eq_none h'] at h1

theorem wpAnyE_first {ops : Array Oper} {X : Nat → Bool} {i : Nat} {oi : Oper} {v : Value} (acc : List Nat) (hi : ops[i]? = some oi) (hsel : Region.noSelect ops = true)
    (hQ : ∀ ch a w, ¬ Q (.panic ch) a w) :
    ∀ (fuel : Nat) (listed : Array Bool) (a : Act) (w : World),
      (∀ j ∈ acc, listed.getD j true = false ∧ ∃ oj, ops[j]? = some oj ∧ ∃ e ∈ oj.after, Region.binds .any e = true ∧ (e.on = i ∨ e.on ∈ acc)) →
      (∀ (j : Nat) (oj : Oper), ops[j]? = some oj → j ≠ i → listed.getD j true = false → j ∉ acc → oi.apart ops oj = true ∧ (isLoad oi.op = true → X j = true)) →
      i ∈ Region.ready .any ops listed → YieldsE P ops oi v a w →
      wpAnyE P ops X Q fuel (listed.setIfInBounds i true) (a.put oi.dst v) w → wpAnyE P ops X Q (fuel + 1) listed a w := by
  have hs := Region.noSelect_spec hsel
  intro fuel
  induction fuel with
  | zero =>
    intro listed a w _ _ hr hy H
    refine ⟨fun h => (by rw [h] at hr; cases hr), fun j hj => ?_⟩
    by_cases hji : j = i
    · subst hji; exact hy.wpOp hi ⟨H, fun _ => Ext.refl w⟩
    · have := ready_mono hj hji
      rw [H.1] at this
      cases this
  | succ fuel ih =>
    intro listed a w hD hfree hr hy H
    refine ⟨fun h => (by rw [h] at hr; cases hr), fun j hj => ?_⟩
    by_cases hji : j = i
    · subst hji; exact hy.wpOp hi ⟨H, fun _ => Ext.refl w⟩
    · have h1 := H.2 j (ready_mono hj hji)
      obtain ⟨hjun, oj, hoj, hall⟩ := mem_ready.1 hj
      have hnot : j ∉ acc := fun hm => by
        obtain ⟨_, oj', hoj', e, he, hb, hor⟩ := hD j hm
        rw [hoj] at hoj'
        simp only [Option.some.injEq] at hoj'
        subst hoj'
        have g1 := hall e he hb
        rcases hor with heq | hmem
        · rw [heq] at g1; exact listed_both (mem_ready.1 hr).1 g1
        · exact listed_both (hD _ hmem).1 g1
      obtain ⟨hap, hX⟩ := hfree j oj hoj hji hjun hnot
      have h2 := wpOp_slide hoj hap (fun cs b => hs i oi cs b hi) (fun cs b => hs j oj cs b hoj) hQ h1
      refine wpOp_mono (fun a' w' h3 => ?_) h2
      obtain ⟨⟨s1, s2⟩, h4, h5⟩ := h3
      have hx : isLoad oi.op = true → Ext w w' := fun e => h5 (hX e)
      refine ⟨ih (listed.setIfInBounds j true) a' w' (fun k hk => ?_) (fun k ok hk hki hun hno => hfree k ok hk hki ?_ hno) (ready_mono hr (Ne.symm hji)) ?_ ?_, h5⟩
      · obtain ⟨g1, g2⟩ := hD k hk
        refine ⟨?_, g2⟩
        have hjk : j ≠ k := fun e => hnot (e ▸ hk)
        rw [getD_set_ne true hjk]; exact g1
      · by_cases hjk : j = k
        · subst hjk; exact hjun
        · rw [getD_set_ne true hjk] at hun; exact hun
      · unfold YieldsE at *
        rw [s1, s2]
        exact hy.imp (fun h => ⟨h.1, fun w1 hw1 => h.2 w1 fun e => (hx e).trans (hw1 e)⟩) id
      · rw [Array.setIfInBounds_comm _ _ hji]
        exact h4

/-- what stands behind an operation, of those to come -/
def depL (ops : Array Oper) (i : Nat) : List (Nat × Bool) → List Nat → List Nat
  | [], acc => acc
  | (j, _) :: r, acc => if ((ops[j]?).map fun oj => oj.after.any fun e => Region.binds .any e && (e.on == i || acc.contains e.on)).getD false then depL ops i r (j :: acc) else depL ops i r acc
def depOk (ops : Array Oper) (listed : Array Bool) (i : Nat) (acc : List Nat) : Bool :=
  acc.all fun j => !listed.getD j true && ((ops[j]?).map fun oj => oj.after.any fun e => Region.binds .any e && (e.on == i || acc.contains e.on)).getD false
/-- may this reader go first? -/
def freeX (ops : Array Oper) (X : Nat → Bool) (listed : Array Bool) (i : Nat) (acc : List Nat) : Bool :=
  depOk ops listed i acc && match ops[i]? with
  | none => false
  | some oi => (List.range ops.size).all fun j => j == i || listed.getD j true || acc.contains j || match ops[j]? with
    | some oj => oi.apart ops oj && (!isLoad oi.op || X j)
    | none => true

def orderOk (ops : Array Oper) (X : Nat → Bool) : Array Bool → List (Nat × Bool) → Bool
  | listed, [] => (Region.ready .any ops listed).isEmpty
  | listed, (i, true) :: r => (Region.ready .any ops listed).contains i && freeX ops X listed i (depL ops i r []) && orderOk ops X (listed.setIfInBounds i true) r
  | listed, (i, false) :: r => Region.ready .any ops listed == [i] && orderOk ops X (listed.setIfInBounds i true) r

def xOf (T : List (Nat × Ent)) (ops : Array Oper) (ord : List (Nat × Bool)) (j : Nat) : Bool :=
  (ord.lookup j).getD false || match ops[j]? with
    | some o => opX o.op || (pureF T o.op).isSome
    | none => true

theorem ord_sound (hT : tabOk P T) {ops : Array Oper} {X : Nat → Bool} (hsel : Region.noSelect ops = true)
    (hd : dstOk c.N ops.toList = true) (hQ : ∀ ch a w, ¬ Q (.panic ch) a w) :
    ∀ (ord : List (Nat × Bool)) (listed : Array Bool) {s : St} {a : Act} {w : World},
      (∀ (i : Nat) (o : Oper), (i, false) ∈ ord → ops[i]? = some o → X i = true → opX o.op = true ∨ (pureF T o.op).isSome = true) →
      orderOk ops X listed ord = true → wplO P T ops.toList ord s K → Rel c s a w →
      (∀ s' a' w', K s' → Rel c s' a' w' → Q .normal a' w') → wpAnyE P ops X Q ord.length listed a w
  | [], listed, s, a, w, _, ho, h, hR, hK => ⟨by simpa [orderOk] using ho, hK _ _ _ h hR⟩
  | (i, rd) :: r, listed, s, a, w, hx, ho, h, ⟨Z, γ, hR⟩, hK => by
    simp only [wplO] at h
    split at h
    · exact h.elim
    · rename_i o hio
      have hi : ops[i]? = some o := by simpa using hio
      have hdo : ∀ d, o.dst = some d → d < c.N := dstOk_mem hd (List.mem_of_getElem? hio)
      have hx' : ∀ (i : Nat) (o : Oper), (i, false) ∈ r → ops[i]? = some o → X i = true → opX o.op = true ∨ (pureF T o.op).isSome = true := fun i o hm => hx i o (List.mem_cons_of_mem _ hm)
      cases rd with
      | true =>
        simp only [orderOk, Bool.and_eq_true, if_true] at ho h
        obtain ⟨⟨h1, h2⟩, h3⟩ := ho
        obtain ⟨v, s', hy, hk, hR'⟩ := wpr_sound hR hi hdo h
        simp only [freeX, Bool.and_eq_true] at h2
        obtain ⟨hdep, hall⟩ := h2
        simp only [hi] at hall
        simp only [List.length_cons]
        refine wpAnyE_first (depL ops i r []) hi hsel hQ _ listed a w (fun j hj => ?_) (fun j oj hj hji hun hno => ?_) (by simpa using h1) hy (ord_sound hT hsel hd hQ r _ hx' h3 hk hR' hK)
        · have := List.all_eq_true.1 hdep j hj
          simp only [Bool.and_eq_true, Bool.not_eq_true'] at this
          refine ⟨this.1, ?_⟩
          have h2 := this.2
          cases hoj : ops[j]? with
          | none => rw [hoj] at h2; simp at h2
          | some oj =>
            rw [hoj] at h2
            simp only [Option.map_some, Option.getD_some] at h2
            obtain ⟨e, he, hb⟩ := Array.any_eq_true'.1 h2
            simp only [Bool.and_eq_true, Bool.or_eq_true, beq_iff_eq, List.contains_iff_mem] at hb
            exact ⟨oj, rfl, e, he, hb.1, hb.2⟩
        · have hjr := List.all_eq_true.1 hall j (List.mem_range.2 (Array.getElem?_eq_some_iff.1 hj).1)
          have hno' : (depL ops i r []).contains j = false := by
            cases hh : (depL ops i r []).contains j with
            | false => rfl
            | true => exact (hno (List.contains_iff_mem.1 hh)).elim
          simp only [hj, hno', Bool.or_eq_true, beq_iff_eq, hji, false_or, hun, Bool.false_eq_true, Bool.and_eq_true, Bool.not_eq_true'] at hjr
          exact ⟨hjr.1, fun hld => hjr.2.resolve_left (by rw [hld]; simp)⟩
      | false =>
        simp only [orderOk, Bool.and_eq_true, beq_iff_eq, Bool.false_eq_true, if_false] at ho h
        obtain ⟨h1, h3⟩ := ho
        refine ⟨fun e => by rw [h1] at e; simp at e, fun j hj => ?_⟩
        rw [h1, List.mem_singleton] at hj
        subst hj
        refine wpx_sound hT hR hi hdo h fun s' a' w' hk hR' hE => ⟨ord_sound hT hsel hd hQ r _ hx' h3 hk hR' hK, fun e => hE (hx j o (List.mem_cons_self ..) hi e)⟩

theorem wplX_sound (hT : tabOk P T) {ops : Array Oper} : ∀ (l : List Oper) (k : Nat) {s : St} {a : Act} {w : World}, ops.toList.drop k = l → dstOk c.N l = true → wplX P T ops.toList l s K → Rel c s a w →
    (∀ s' a' w', K s' → Rel c s' a' w' → Q .normal a' w') → wpOps P ops Q (List.range' k l.length) a w
  | [], k, s, a, w, _, _, h, hR, hK => by simp only [List.length_nil, List.range'_zero, wpOps]; exact hK _ _ _ h hR
  | o :: l, k, s, a, w, hl, hd, h, ⟨Z, γ, hR⟩, hK => by
    have hk : k < ops.toList.length := by
      rcases Nat.lt_or_ge k ops.toList.length with q | q
      · exact q
      · rw [List.drop_of_length_le q] at hl; simp at hl
    have hdrop := List.drop_eq_getElem_cons hk
    rw [hl] at hdrop
    simp only [List.cons.injEq] at hdrop
    have hi : ops[k]? = some o := by
      have : ops.toList[k]? = some o := by rw [List.getElem?_eq_getElem hk, hdrop.1]
      simpa using this
    simp only [List.length_cons, List.range'_succ]
    rw [wpOps_cons]
    refine wpx_sound hT hR hi (dstOk_mem hd (by simp)) h fun s' a' w' hk' hR' _ => ?_
    exact wplX_sound hT l (k + 1) hdrop.2.symm (by simp only [dstOk, List.all_cons, Bool.and_eq_true] at hd; exact hd.2) hk' hR' hK
end

/-- the static look at an order -/
def ordB (T : List (Nat × Ent)) (ops : Array Oper) (ord : List (Nat × Bool)) : Bool :=
  ord.length == ops.size && Region.noSelect ops && (ord.all fun p => p.2 || !((ord.lookup p.1).getD false)) && orderOk ops (xOf T ops ord) (Array.replicate ops.size false) ord

section
variable {P : Program} {c : Ctx} {s : St} {Q : Exit → St → Prop} {l : List Code}

theorem Wp_draw {id : Nat} {ops : Array Oper} {T : List (Nat × Ent)} (hT : tabOk P T) (hm : P.follows .mixedOrders = true) (ord : List (Nat × Bool)) (hb : ordB T ops ord = true) (hd : dstOk c.N ops.toList = true)
    (h : wplO P T ops.toList ord s (Q .normal)) : Wp P c (.region id ops true) s Q := by
  intro a w ⟨Z, γ, hR⟩
  simp only [ordB, Bool.and_eq_true, beq_iff_eq] at hb
  obtain ⟨⟨⟨h1, h2⟩, h3⟩, h4⟩ := hb
  obtain ⟨he, ha⟩ := hR.env.drew
  have hR' : Rel c s a w.drew := ⟨Z, γ, hR.go he ha⟩
  have key := ord_sound (K := Q .normal) (Q := fun e a' w' => e = .normal ∧ ∃ s', Q e s' ∧ Rel c s' a' w') hT h2 hd (fun ch a w h => by simp at h) ord (Array.replicate ops.size false) (X := xOf T ops ord) (by
    intro i o hm hi hx
    simp only [xOf, hi, Bool.or_eq_true] at hx
    have := List.all_eq_true.1 h3 _ hm
    simp only [Bool.false_or, Bool.not_eq_true'] at this
    rw [this] at hx
    simpa using hx) h4 h hR' (fun s' a' w' hk hR' => ⟨rfl, s', hk, hR'⟩)
  rw [h1] at key
  refine wp_mono (wp_region_any hm (wpAny_of_E _ _ _ _ key)) ?_
  rintro e a' w' ⟨_, h⟩
  exact h

theorem Wps_draw {id : Nat} {ops : Array Oper} {T : List (Nat × Ent)} (hT : tabOk P T) (hm : P.follows .mixedOrders = true) (ord : List (Nat × Bool)) (hb : ordB T ops ord = true) (ts : List Nat) (hd : dstOk c.N ops.toList = true) (hl : l ≠ [])
    (h : ∀ K : St → Prop, (∀ s', Wps P c l (s'.keep ts) Q → K s') → wplO P T ops.toList ord s K) :
    Wps P c (.region id ops true :: l) s Q :=
  Wp_draw hT hm ord hb hd (h _ fun s' h' => Wps_weak (Wk_keep ts) h' hl)

theorem Wp_regionX {id : Nat} {ops : Array Oper} {T : List (Nat × Ent)} (hT : tabOk P T) (hd : dstOk c.N ops.toList = true) (h : wplX P T ops.toList ops.toList s (Q .normal)) : Wp P c (.region id ops false) s Q := by
  intro a w hR
  refine wp_region ?_
  have := wplX_sound (Q := fun e a' w' => ∃ s', Q e s' ∧ Rel c s' a' w') hT ops.toList 0 (by simp) hd h hR (fun s' a' w' hk hR' => ⟨s', hk, hR'⟩)
  rw [List.range_eq_range']
  simpa using this

theorem Wps_regionX {id : Nat} {ops : Array Oper} {T : List (Nat × Ent)} (hT : tabOk P T) (ts : List Nat) (hd : dstOk c.N ops.toList = true) (hl : l ≠ []) (h : ∀ K : St → Prop, (∀ s', Wps P c l (s'.keep ts) Q → K s') → wplX P T ops.toList ops.toList s K) :
    Wps P c (.region id ops false :: l) s Q :=
  Wp_regionX hT hd (h _ fun s' h' => Wps_weak (Wk_keep ts) h' hl)

/-- A PURE FUNCTION's CONTRACT, out of its body -/
theorem PureOk_of {f : FuncId} {fn : Func} {code : Code} {args : List AV} {post : AV → Prop} (hf : P.funcs[f]? = some fn) (hn : (fn.name == "runtime.NumGoroutine") = false) (hb : fn.body = some code) {rs : List ResultVar} (hr : fn.results.toList = rs) {n : Nat} (hN : fn.ntmps = n) (hargs : args.length ≤ n)
    (ha : AV.bels 0 args) (hrb : ∀ r, post r → r.bel 0)
    (h : ∀ (Z0 : Zone) (w0 : World), Wps P ⟨n, [], Z0, [], w0⟩ [code] ⟨enumA 0 args, []⟩ (retQ P ⟨n, [], Z0, [], w0⟩ rs fun r' L' => post r' ∧ L' = [])) : PureOk P f args post :=
  ⟨ha, hrb, Ok_of hf hn hb hr hN hargs fun Z0 γ0 w0 hγ _ => by
    have : γ0 = [] := List.length_eq_zero_iff.1 hγ
    subst this
    exact h Z0 w0⟩
end
end Go.Eng
