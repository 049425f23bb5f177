/- The engine, part A: abstract values, and what it is for a value of the machine to read as one. -/
import Derived.Calls
import Derived.Orders
import Derived.Laws.Sem
import Derived.Laws.Cells
import Derived.Laws.Entries
import Derived.Laws.AppendOwn
set_option linter.unusedVariables false
set_option linter.unusedSimpArgs false
set_option linter.unusedSectionVars false
namespace Go.Eng
open Go

/-- deep data: what frozen memory reads as -/
inductive D where
  | raw (v : Value)
  | ag (ds : List D)
  | arr (n k : Nat) (ds : List D)
  | sl (k : Nat) (ds : List D)
  deriving Inhabited

/-- abstract values: deep data, and what leads to owned memory -/
inductive AV where
  | d (x : D)
  | ag (xs : List AV)
  | ptr (j off : Nat) (p : List Nat)
  | vp (x : D)
  | own (j k : Nat) (xs : List D)
  | bsl (j off k lo len : Nat) (p : List Nat)
  | gd (b : Bool) (x : AV)
  | tup (xs : List AV)
  | undef
  deriving Inhabited

/-- owned memory -/
inductive Res where
  | box (x : AV)
  | tok (e k n : Nat)
  | dead
  deriving Inhabited

mutual
def D.size : D → Nat
  | .raw _ => 1
  | .ag ds => D.sizes ds
  | .arr n k _ => n * k
  | .sl _ _ => 1
def D.sizes : List D → Nat
  | [] => 0
  | d :: r => d.size + D.sizes r
end

mutual
def AV.size : AV → Nat
  | .d x => x.size
  | .ag xs => AV.sizes xs
  | .ptr _ _ _ => 1
  | .vp _ => 1
  | .own _ _ _ => 1
  | .bsl _ _ _ _ _ _ => 1
  | .gd _ x => x.size
  | .tup _ => 0
  | .undef => 0
def AV.sizes : List AV → Nat
  | [] => 0
  | x :: r => x.size + AV.sizes r
end

def D.isAg : D → Bool
  | .ag _ | .arr _ _ _ => true
  | _ => false
def AV.isAg : AV → Bool
  | .d x => x.isAg
  | .ag _ => true
  | _ => false

abbrev Zone := Nat → Nat → Prop

/-- the cells of a block from an offset on, all of them in the zone -/
def cellsAt (Z : Zone) (w : World) (b o : Nat) (cs : List Value) : Prop :=
  ∀ (j : Nat) (v : Value), cs[j]? = some v → Z b (o + j) ∧ w.cell? ⟨b, o + j, none⟩ = some v

mutual
def RepD (Z : Zone) (w : World) : D → List Value → Prop
  | .raw v, cs => cs = [v] ∧ v.oneCell' = true
  | .ag ds, cs => RepDs Z w ds cs
  | .arr n k ds, cs => ds.length = n ∧ (∀ x ∈ ds, x.size = k) ∧ RepDs Z w ds cs
  | .sl k ds, cs => (∃ ad, cs = [.slice ad 0 0] ∧ ds = []) ∨
      ∃ b o cap, cs = [.slice (some ⟨b, o, none⟩) ds.length cap] ∧ ds.length ≤ cap ∧ RepEls Z w k b o ds
def RepDs (Z : Zone) (w : World) : List D → List Value → Prop
  | [], cs => cs = []
  | d :: r, cs => ∃ c1 c2, cs = c1 ++ c2 ∧ RepD Z w d c1 ∧ RepDs Z w r c2
def RepEls (Z : Zone) (w : World) (k b : Nat) : Nat → List D → Prop
  | _, [] => True
  | o, d :: r => (∃ cs, cs.length = k ∧ cellsAt Z w b o cs ∧ RepD Z w d cs) ∧ RepEls Z w k b (o + k) r
end

mutual
def RepA (Z : Zone) (w : World) (γ : List Value) (L : List Res) : AV → List Value → Prop
  | .d x, cs => RepD Z w x cs
  | .ag xs, cs => RepAs Z w γ L xs cs
  | .ptr j off _, cs => ∃ b, γ[j]? = some (.pointer (some ⟨b, 0, none⟩)) ∧ cs = [.pointer (some ⟨b, off, none⟩)]
  | .vp x, cs => ∃ b o c, cs = [.pointer (some ⟨b, o, none⟩)] ∧ cellsAt Z w b o c ∧ RepD Z w x c
  | .own j k xs, cs => j < L.length ∧ RepD Z w (.sl k xs) cs ∧ ∀ e n, L[j]? = some (.tok e k n) → xs.length ≤ n ∧ (n = xs.length → ∃ v, γ[j]? = some v ∧ cs = [v])
  | .bsl j off k lo len _, cs => ∃ b a cap, γ[j]? = some (.pointer (some ⟨b, 0, none⟩)) ∧ cs = [.slice (some a) len cap] ∧ len ≤ cap ∧ (0 < len → a = ⟨b, off + lo * k, none⟩)
  | .gd _ _, _ => False
  | .tup _, _ => False
  | .undef, _ => False
def RepAs (Z : Zone) (w : World) (γ : List Value) (L : List Res) : List AV → List Value → Prop
  | [], cs => cs = []
  | x :: r, cs => ∃ c1 c2, cs = c1 ++ c2 ∧ RepA Z w γ L x c1 ∧ RepAs Z w γ L r c2
end

/-- a value that is no tuple -/
def RepC (Z : Zone) (w : World) (γ : List Value) (L : List Res) (x : AV) (v : Value) : Prop :=
  if x.isAg then ∃ cs : Array Value, v = .agg cs ∧ RepA Z w γ L x cs.toList else RepA Z w γ L x [v]

mutual
def RepV (Z : Zone) (w : World) (γ : List Value) (L : List Res) : AV → Value → Prop
  | .gd b x, v => (b = true → RepV Z w γ L x v) ∧ (b = false → v = undef)
  | .tup xs, v => ∃ vs : Array Value, v = .tuple vs ∧ RepVs Z w γ L xs vs.toList
  | .undef, _ => True
  | x, v => RepC Z w γ L x v
def RepVs (Z : Zone) (w : World) (γ : List Value) (L : List Res) : List AV → List Value → Prop
  | [], vs => vs = []
  | x :: r, vs => ∃ v l, vs = v :: l ∧ RepV Z w γ L x v ∧ RepVs Z w γ L r l
end

/-! ### lengths -/
mutual
theorem RepD_len (Z : Zone) (w : World) : ∀ (d : D) (cs : List Value), RepD Z w d cs → cs.length = d.size
  | .raw v, cs, h => by simp only [RepD] at h; simp [h.1, D.size]
  | .ag ds, cs, h => by simp only [RepD] at h; simpa [D.size] using RepDs_len Z w ds cs h
  | .arr n k ds, cs, h => by
    simp only [RepD] at h
    obtain ⟨h1, h2, h3⟩ := h
    have := RepDs_len Z w ds cs h3
    rw [this, D.size, ← h1]
    exact sizes_const ds k h2
  | .sl k ds, cs, h => by
    simp only [RepD] at h
    rcases h with ⟨ad, h, _⟩ | ⟨b, o, cap, h, _⟩ <;> simp [h, D.size]
theorem RepDs_len (Z : Zone) (w : World) : ∀ (ds : List D) (cs : List Value), RepDs Z w ds cs → cs.length = D.sizes ds
  | [], cs, h => by simp [RepDs] at h; simp [h, D.sizes]
  | d :: r, cs, h => by
    simp only [RepDs] at h
    obtain ⟨c1, c2, rfl, h1, h2⟩ := h
    simp [D.sizes, RepD_len Z w d c1 h1, RepDs_len Z w r c2 h2]
theorem sizes_const : ∀ (ds : List D) (k : Nat), (∀ x ∈ ds, x.size = k) → D.sizes ds = ds.length * k
  | [], k, _ => by simp [D.sizes]
  | d :: r, k, h => by
    have h1 := h d (by simp)
    have h2 := sizes_const r k (fun x hx => h x (by simp [hx]))
    simp only [D.sizes, h1, h2, List.length_cons]
    rw [Nat.add_one_mul]; omega
end

mutual
theorem RepA_len (Z : Zone) (w : World) (γ : List Value) (L : List Res) : ∀ (x : AV) (cs : List Value), RepA Z w γ L x cs → cs.length = x.size
  | .d x, cs, h => by simp only [RepA] at h; simpa [AV.size] using RepD_len Z w x cs h
  | .ag xs, cs, h => by simp only [RepA] at h; simpa [AV.size] using RepAs_len Z w γ L xs cs h
  | .ptr j off p, cs, h => by simp only [RepA] at h; obtain ⟨b, _, rfl⟩ := h; simp [AV.size]
  | .vp x, cs, h => by simp only [RepA] at h; obtain ⟨b, o, c, rfl, _⟩ := h; simp [AV.size]
  | .own j k xs, cs, h => by simp only [RepA] at h; simpa [AV.size, D.size] using RepD_len Z w _ cs h.2.1
  | .bsl .., cs, h => by simp only [RepA] at h; obtain ⟨b, a, cap, _, rfl, _⟩ := h; simp [AV.size]
  | .gd _ _, cs, h => by simp [RepA] at h
  | .tup _, cs, h => by simp [RepA] at h
  | .undef, cs, h => by simp [RepA] at h
theorem RepAs_len (Z : Zone) (w : World) (γ : List Value) (L : List Res) : ∀ (xs : List AV) (cs : List Value), RepAs Z w γ L xs cs → cs.length = AV.sizes xs
  | [], cs, h => by simp [RepAs] at h; simp [h, AV.sizes]
  | d :: r, cs, h => by
    simp only [RepAs] at h
    obtain ⟨c1, c2, rfl, h1, h2⟩ := h
    simp [AV.sizes, RepA_len Z w γ L d c1 h1, RepAs_len Z w γ L r c2 h2]
end

/-! ### all cells hold one cell each -/
mutual
theorem RepD_one (Z : Zone) (w : World) : ∀ (d : D) (cs : List Value), RepD Z w d cs → ∀ v ∈ cs, v.oneCell' = true
  | .raw v, cs, h => by simp only [RepD] at h; obtain ⟨rfl, h⟩ := h; simpa using h
  | .ag ds, cs, h => by simp only [RepD] at h; exact RepDs_one Z w ds cs h
  | .arr n k ds, cs, h => by simp only [RepD] at h; exact RepDs_one Z w ds cs h.2.2
  | .sl k ds, cs, h => by
    simp only [RepD] at h
    rcases h with ⟨ad, rfl, _⟩ | ⟨b, o, cap, rfl, _⟩ <;> simp [Value.oneCell']
theorem RepDs_one (Z : Zone) (w : World) : ∀ (ds : List D) (cs : List Value), RepDs Z w ds cs → ∀ v ∈ cs, v.oneCell' = true
  | [], cs, h => by simp only [RepDs] at h; subst h; simp
  | d :: r, cs, h => by
    simp only [RepDs] at h
    obtain ⟨c1, c2, rfl, h1, h2⟩ := h
    intro v hv
    rcases List.mem_append.1 hv with hv | hv
    · exact RepD_one Z w d c1 h1 v hv
    · exact RepDs_one Z w r c2 h2 v hv
end
mutual
theorem RepA_one (Z : Zone) (w : World) (γ : List Value) (L : List Res) : ∀ (x : AV) (cs : List Value), RepA Z w γ L x cs → ∀ v ∈ cs, v.oneCell' = true
  | .d x, cs, h => by simp only [RepA] at h; exact RepD_one Z w x cs h
  | .ag xs, cs, h => by simp only [RepA] at h; exact RepAs_one Z w γ L xs cs h
  | .ptr j off p, cs, h => by simp only [RepA] at h; obtain ⟨b, _, rfl⟩ := h; simp [Value.oneCell']
  | .vp x, cs, h => by simp only [RepA] at h; obtain ⟨b, o, c, rfl, _⟩ := h; simp [Value.oneCell']
  | .own j k xs, cs, h => by simp only [RepA] at h; exact RepD_one Z w _ cs h.2.1
  | .bsl .., cs, h => by simp only [RepA] at h; obtain ⟨b, a, cap, _, rfl, _⟩ := h; simp [Value.oneCell']
  | .gd _ _, cs, h => by simp [RepA] at h
  | .tup _, cs, h => by simp [RepA] at h
  | .undef, cs, h => by simp [RepA] at h
theorem RepAs_one (Z : Zone) (w : World) (γ : List Value) (L : List Res) : ∀ (xs : List AV) (cs : List Value), RepAs Z w γ L xs cs → ∀ v ∈ cs, v.oneCell' = true
  | [], cs, h => by simp only [RepAs] at h; subst h; simp
  | d :: r, cs, h => by
    simp only [RepAs] at h
    obtain ⟨c1, c2, rfl, h1, h2⟩ := h
    intro v hv
    rcases List.mem_append.1 hv with hv | hv
    · exact RepA_one Z w γ L d c1 h1 v hv
    · exact RepAs_one Z w γ L r c2 h2 v hv
end

/-! ### what reads in a world reads in a later one -/
theorem cellsAt_mono {Z Z' : Zone} {w w' : World} (hZ : ∀ b o, Z b o → Z' b o)
    (hw : ∀ b o, Z b o → w'.cell? ⟨b, o, none⟩ = w.cell? ⟨b, o, none⟩) {b o : Nat} {cs : List Value}
    (h : cellsAt Z w b o cs) : cellsAt Z' w' b o cs :=
  fun j v hj => let ⟨h1, h2⟩ := h j v hj; ⟨hZ _ _ h1, (hw _ _ h1).trans h2⟩

section
variable {Z Z' : Zone} {w w' : World} (hZ : ∀ b o, Z b o → Z' b o) (hw : ∀ b o, Z b o → w'.cell? ⟨b, o, none⟩ = w.cell? ⟨b, o, none⟩)
include hZ hw
mutual
theorem RepD_mono : ∀ (d : D) (cs : List Value), RepD Z w d cs → RepD Z' w' d cs
  | .raw v, cs, h => by simpa only [RepD] using h
  | .ag ds, cs, h => by simp only [RepD] at h ⊢; exact RepDs_mono ds cs h
  | .arr n k ds, cs, h => by simp only [RepD] at h ⊢; exact ⟨h.1, h.2.1, RepDs_mono ds cs h.2.2⟩
  | .sl k ds, cs, h => by
    simp only [RepD] at h ⊢
    rcases h with h | ⟨b, o, cap, h1, h2, h3⟩
    · exact .inl h
    · exact .inr ⟨b, o, cap, h1, h2, RepEls_mono k b o ds h3⟩
theorem RepDs_mono : ∀ (ds : List D) (cs : List Value), RepDs Z w ds cs → RepDs Z' w' ds cs
  | [], cs, h => by simpa only [RepDs] using h
  | d :: r, cs, h => by
    simp only [RepDs] at h ⊢
    obtain ⟨c1, c2, h0, h1, h2⟩ := h
    exact ⟨c1, c2, h0, RepD_mono d c1 h1, RepDs_mono r c2 h2⟩
theorem RepEls_mono (k b : Nat) : ∀ (o : Nat) (ds : List D), RepEls Z w k b o ds → RepEls Z' w' k b o ds
  | _, [], h => by simp only [RepEls]
  | o, d :: r, h => by
    simp only [RepEls] at h ⊢
    obtain ⟨⟨cs, h0, h1, h2⟩, h3⟩ := h
    exact ⟨⟨cs, h0, cellsAt_mono hZ hw h1, RepD_mono d cs h2⟩, RepEls_mono k b (o + k) r h3⟩
end
end

/-- how references may turn: boxes stay; a token goes on, or is given up -/
structure ExtR (γ : List Value) (L : List Res) (γ' : List Value) (L' : List Res) : Prop where
  len : L.length ≤ L'.length
  ptr : ∀ (j b : Nat), γ[j]? = some (.pointer (some ⟨b, 0, none⟩)) → γ'[j]? = some (.pointer (some ⟨b, 0, none⟩))
  tok : ∀ (j e k n' : Nat), j < L.length → L'[j]? = some (.tok e k n') → ∃ n, L[j]? = some (.tok e k n) ∧ n ≤ n' ∧ (n' = n → γ'[j]? = γ[j]?)

theorem ExtR.refl (γ : List Value) (L : List Res) : ExtR γ L γ L :=
  ⟨Nat.le_refl _, fun _ _ h => h, fun _ _ _ n' _ h => ⟨n', h, Nat.le_refl _, fun _ => rfl⟩⟩

section
variable {Z Z' : Zone} {w w' : World} {γ γ' : List Value} {L L' : List Res} (hZ : ∀ b o, Z b o → Z' b o) (hw : ∀ b o, Z b o → w'.cell? ⟨b, o, none⟩ = w.cell? ⟨b, o, none⟩) (hE : ExtR γ L γ' L')
include hZ hw hE
mutual
theorem RepA_mono : ∀ (x : AV) (cs : List Value), RepA Z w γ L x cs → RepA Z' w' γ' L' x cs
  | .d x, cs, h => by simp only [RepA] at h ⊢; exact RepD_mono hZ hw x cs h
  | .ag xs, cs, h => by simp only [RepA] at h ⊢; exact RepAs_mono xs cs h
  | .ptr j off p, cs, h => by
    simp only [RepA] at h ⊢
    obtain ⟨b, h1, h2⟩ := h
    exact ⟨b, hE.ptr j b h1, h2⟩
  | .vp x, cs, h => by
    simp only [RepA] at h ⊢
    obtain ⟨b, o, c, h1, h2, h3⟩ := h
    exact ⟨b, o, c, h1, cellsAt_mono hZ hw h2, RepD_mono hZ hw x c h3⟩
  | .own j k xs, cs, h => by
    simp only [RepA] at h ⊢
    obtain ⟨h0, h1, h2⟩ := h
    refine ⟨Nat.lt_of_lt_of_le h0 hE.len, RepD_mono hZ hw _ cs h1, fun e n' hn' => ?_⟩
    obtain ⟨n, hn, hle, heq⟩ := hE.tok j e k n' h0 hn'
    obtain ⟨g1, g2⟩ := h2 e n hn
    refine ⟨by omega, fun e => ?_⟩
    have e1 : n' = n := by omega
    obtain ⟨v, g3, g4⟩ := g2 (by omega)
    exact ⟨v, (heq e1).trans g3, g4⟩
  | .bsl j off k lo len p, cs, h => by
    simp only [RepA] at h ⊢
    obtain ⟨b, a, cap, h1, h2⟩ := h
    exact ⟨b, a, cap, hE.ptr j b h1, h2⟩
  | .gd _ _, cs, h => by simp [RepA] at h
  | .tup _, cs, h => by simp [RepA] at h
  | .undef, cs, h => by simp [RepA] at h
theorem RepAs_mono : ∀ (xs : List AV) (cs : List Value), RepAs Z w γ L xs cs → RepAs Z' w' γ' L' xs cs
  | [], cs, h => by simpa only [RepAs] using h
  | d :: r, cs, h => by
    simp only [RepAs] at h ⊢
    obtain ⟨c1, c2, h0, h1, h2⟩ := h
    exact ⟨c1, c2, h0, RepA_mono d c1 h1, RepAs_mono r c2 h2⟩
end
theorem RepC_mono (x : AV) (v : Value) (h : RepC Z w γ L x v) : RepC Z' w' γ' L' x v := by
  unfold RepC at h ⊢
  split
  · rename_i hx
    rw [if_pos hx] at h
    obtain ⟨cs, h1, h2⟩ := h
    exact ⟨cs, h1, RepA_mono hZ hw hE x _ h2⟩
  · rename_i hx
    rw [if_neg hx] at h
    exact RepA_mono hZ hw hE x _ h
mutual
theorem RepV_mono : ∀ (x : AV) (v : Value), RepV Z w γ L x v → RepV Z' w' γ' L' x v
  | .gd b x, v, h => by simp only [RepV] at h ⊢; exact ⟨fun hb => RepV_mono x v (h.1 hb), h.2⟩
  | .tup xs, v, h => by
    simp only [RepV] at h ⊢
    obtain ⟨vs, h1, h2⟩ := h
    exact ⟨vs, h1, RepVs_mono xs _ h2⟩
  | .undef, v, h => by simp only [RepV]
  | .d x, v, h => by simp only [RepV] at h ⊢; exact RepC_mono hZ hw hE _ v h
  | .ag xs, v, h => by simp only [RepV] at h ⊢; exact RepC_mono hZ hw hE _ v h
  | .ptr .., v, h => by simp only [RepV] at h ⊢; exact RepC_mono hZ hw hE _ v h
  | .vp .., v, h => by simp only [RepV] at h ⊢; exact RepC_mono hZ hw hE _ v h
  | .own .., v, h => by simp only [RepV] at h ⊢; exact RepC_mono hZ hw hE _ v h
  | .bsl .., v, h => by simp only [RepV] at h ⊢; exact RepC_mono hZ hw hE _ v h
theorem RepVs_mono : ∀ (xs : List AV) (vs : List Value), RepVs Z w γ L xs vs → RepVs Z' w' γ' L' xs vs
  | [], vs, h => by simpa only [RepVs] using h
  | d :: r, vs, h => by
    simp only [RepVs] at h ⊢
    obtain ⟨v, l, h0, h1, h2⟩ := h
    exact ⟨v, l, h0, RepV_mono d v h1, RepVs_mono r l h2⟩
end
end
end Go.Eng
