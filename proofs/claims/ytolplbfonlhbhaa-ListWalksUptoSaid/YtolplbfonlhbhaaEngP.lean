/- The engine, part P: more rules for walks. -/
import Derived.Test.YtolplbfonlhbhaaEngO
import Derived.Scope
set_option linter.unusedVariables false
set_option linter.unusedSimpArgs false
set_option linter.unusedSectionVars false
namespace Go.Eng
open Go
variable [Globs]

def scQ (Q : Exit → St → Prop) : Exit → St → Prop
  | .goto _, _ => False
  | e, s => Q e s

section
variable {P : Program} {c : Ctx} {s : St} {Q : Exit → St → Prop} {l : List Code}

theorem Wps_nil (s : St) : Wps P c [] s Q = Q .normal s := rfl
theorem Wps_scope {x : Code} (h : Wps P c [x] s (scQ (thenQ (fun s' => Wps P c l s' Q) Q))) : Wps P c (.scope x :: l) s Q := by
  have h1 : Wp P c x s (scQ (thenQ (fun s' => Wps P c l s' Q) Q)) := Wps_one h
  intro a w hR
  refine wp_scope_straight (wp_mono (h1 a w hR) ?_)
  rintro e a' w' ⟨s', h2, h3⟩
  cases e <;> first | exact ⟨s', h2, h3⟩ | exact h2.elim
theorem Wps_label {n : Nat} (h : Wps P c l s Q) : Wps P c (.label n :: l) s Q := fun a w hR => wp_label ⟨s, h, hR⟩

theorem scQ_normal (Q : Exit → St → Prop) (s : St) : scQ Q .normal s = Q .normal s := rfl
theorem scQ_ret (Q : Exit → St → Prop) (s : St) : scQ Q .ret s = Q .ret s := rfl
theorem scQ_exit (Q : Exit → St → Prop) (id : Nat) (s : St) : scQ Q (.exit id) s = Q (.exit id) s := rfl
theorem blkQ_if (id id' : Nat) (R : St → Prop) (Q : Exit → St → Prop) (s : St) : blkQ id R Q (.exit id') s = if id' = id then R s else Q (.exit id') s := rfl

theorem Wps_regionX' {id : Nat} {ops : Array Oper} {T : List (Nat × Ent)} (hT : tabOk P T) (hd : dstOk c.N ops.toList = true) (h : ∀ K : St → Prop, (∀ s', Wps P c l s' Q → K s') → wplX P T ops.toList ops.toList s K) :
    Wps P c (.region id ops false :: l) s Q :=
  Wp_regionX hT hd (h _ fun s' h' => h')
theorem Wps_draw' {id : Nat} {ops : Array Oper} {T : List (Nat × Ent)} (hT : tabOk P T) (hm : P.follows .mixedOrders = true) (ord : List (Nat × Bool)) (hb : ordB T ops ord = true) (hd : dstOk c.N ops.toList = true)
    (h : ∀ K : St → Prop, (∀ s', Wps P c l s' Q → K s') → wplO P T ops.toList ord s K) :
    Wps P c (.region id ops true :: l) s Q :=
  Wp_draw hT hm ord hb hd (h _ fun s' h' => h')

/-- a region that is done in order; behind it only the slots ts are known -/
theorem Wps_reg {id : Nat} {ops : Array Oper} {T : List (Nat × Ent)} (hT : tabOk P T) (ts : List Nat) (hd : dstOk c.N ops.toList = true) (hl : l ≠ []) (h : ∀ K : St → Prop, (∀ s' s'', s'.keep ts = s'' → Wps P c l s'' Q → K s') → wplX P T ops.toList ops.toList s K) :
    Wps P c (.region id ops false :: l) s Q :=
  Wps_regionX hT ts hd hl fun K hK => h K fun s' s'' e h' => hK s' (e ▸ h')
/-- a region that draws its order -/
theorem Wps_drw {id : Nat} {ops : Array Oper} {T : List (Nat × Ent)} (hT : tabOk P T) (hm : P.follows .mixedOrders = true) (ord : List (Nat × Bool)) (hb : ordB T ops ord = true) (ts : List Nat) (hd : dstOk c.N ops.toList = true) (hl : l ≠ []) (h : ∀ K : St → Prop, (∀ s' s'', s'.keep ts = s'' → Wps P c l s'' Q → K s') → wplO P T ops.toList ord s K) :
    Wps P c (.region id ops true :: l) s Q :=
  Wps_draw hT hm ord hb ts hd hl fun K hK => h K fun s' s'' e h' => hK s' (e ▸ h')

theorem Wk_cut {l' : List (Nat × AV)} {L' G : List Res} (hL : s.L = L' ++ G) (ts : List Nat) (he : keepL s ts = l') (hb : belS L'.length l') (hbl : BelL L'.length L') (h0 : c.L0.length ≤ L'.length) (h0' : c.γ0.length = c.L0.length) : Wk c s ⟨l', L'⟩ :=
  Wk_all hL (he ▸ impL_keep ts) hb hbl h0 h0'

theorem retP_mono {K K' : List AV → Prop} : ∀ {rs : List ResultVar} {K K' : List AV → Prop}, (∀ l, K l → K' l) → retP P s rs K → retP P s rs K'
  | [], _, _, h, hr => h _ hr
  | .tmp t :: rs, _, _, h, hr => by
    simp only [retP] at hr ⊢
    exact ⟨hr.1, retP_mono (K := fun _ => True) (K' := fun _ => True) (fun l hl => h _ hl) hr.2⟩
  | .cell x t :: rs, _, _, h, hr => by
    simp only [retP] at hr ⊢
    split at hr
    · exact ⟨hr.1, retP_mono (K := fun _ => True) (K' := fun _ => True) (fun l hl => h _ hl) hr.2⟩
    · exact hr

/-- a pure function's return -/
theorem ret_pure {rs : List ResultVar} {post : AV → Prop} (h0 : c.L0 = []) (h : retP P s rs fun l => (retV l).bel 0 ∧ post (retV l)) :
    retP P s rs fun l => ∃ L' G, s.L = L' ++ G ∧ (retV l).bel L'.length ∧ BelL L'.length L' ∧ c.L0.length ≤ L'.length ∧ (post (retV l) ∧ L' = []) :=
  retP_mono (K := fun _ => True) (K' := fun _ => True) (fun l hl => ⟨[], s.L, rfl, hl.1, trivial, by rw [h0]; exact Nat.le_refl _, hl.2, rfl⟩) h
end

section
variable {P : Program} {c : Ctx} {s : St}
theorem ret_pureQ {rs : List ResultVar} {post : AV → Prop} (h0 : c.L0 = []) (h : retP P s rs fun l => (retV l).bel 0 ∧ post (retV l)) : retQ P c rs (fun r' L' => post r' ∧ L' = []) .ret s := ret_pure h0 h
theorem ret_pureN {rs : List ResultVar} {post : AV → Prop} (h0 : c.L0 = []) (h : retP P s rs fun l => (retV l).bel 0 ∧ post (retV l)) : retQ P c rs (fun r' L' => post r' ∧ L' = []) .normal s := ret_pure h0 h
end

theorem wrap64 {n : Int} (h : -9223372036854775808 ≤ n) (h' : n ≤ 9223372036854775807) : IntKind.wrap .i64 n = n := by
  simp only [IntKind.wrap, IntKind.bits, IntKind.signed]
  simp
  omega
theorem wrapS {i : Nat} (h : i < 9223372036854775807) : IntKind.wrap .i64 ((i : Int) + 1) = ((i + 1 : Nat) : Int) := by
  rw [wrap64 (by omega) (by omega)]; simp
end Go.Eng
