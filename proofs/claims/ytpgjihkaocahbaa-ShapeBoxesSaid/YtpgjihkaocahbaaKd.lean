/- Each operation does in the machine what the interpreter says: comparisons, structs, memory. -/
import Derived.Test.YtpgjihkaocahbaaKc
import Derived.Laws.StructEq
namespace Go.Lan
section
variable {P : Program} {T : Tab} {Φ : Fns} {β : List (Option Nat)}

/-! ### '==' -/
theorem cmp_facts {t : TypeId} (h : cmpOf P t = true) : P.stoodInHeld t = false ∧ P.eqGuardType P.depth t = false ∧ ∀ fs, P.underlying t = some (.struct fs) → ∀ f ∈ fs.toList, f.name ≠ "_" := by
  unfold cmpOf at h
  simp only [Bool.and_eq_true, Bool.not_eq_true'] at h
  refine ⟨h.1.1, h.1.2, fun fs hf f hm => ?_⟩
  have := h.2
  rw [hf] at this
  simp only [List.all_eq_true, bne_iff_ne] at this
  exact this f hm

def EqOK (P : Program) (β : List (Option Nat)) (d : Nat) (f : TypeId → Value → Value → Option Bool) : Prop :=
  ∀ (w : World) t x y x' y' r, f t x y = some r → VR β x x' → VR β y y' → (Op.equalIn d t x' y').run P w = .ok r w

/-- The loop over a struct's fields. -/
theorem eq_fields (hT : TabOK P T) (w : World) (d : Nat) {f : TypeId → Value → Value → Option Bool} (ih : EqOK P β d f)
    {l m l' m' : List Value} (hl : VRL β l l') (hm : VRL β m m') : ∀ (fs : List Field) (r : Bool), (∀ g ∈ fs, g.name ≠ "_") →
      eqAll f T l m (fs.map fun g => (g.offset, g.type)) = some r → (Op.eqFields d ⟨l'⟩ ⟨m'⟩ fs).run P w = .ok r w
  | [], r, _, h => by
    simp only [List.map_nil, eqAll, Option.some.injEq] at h
    subst h
    rfl
  | g :: fs, r, hn, h => by
    simp only [List.map_cons, eqAll] at h
    split at h
    · cases h
    · rename_i ti ht
      split at h
      · rename_i x y hx hy
        split at h
        · rename_i r1 r2 h1 h2
          cases h
          obtain ⟨info, dd, z, hi, hd, hz, hs, _, hk, _⟩ := hT _ _ ht
          obtain ⟨x', rx, vx⟩ := partL_sound (w := w) hi hd hs hk hx hl
          obtain ⟨y', ry, vy⟩ := partL_sound (w := w) hi hd hs hk hy hm
          simp only [Op.eqFields, hn g (by simp), ne_eq, not_false_eq_true, if_true, Sem.run_bind, rx, ry, Result.andThen_ok, ih w _ _ _ _ _ _ h1 vx vy]
          cases r1
          · simp
          · simp [eq_fields hT w d ih hl hm fs r2 (fun g hg => hn g (by simp [hg])) h2]
        · cases h
      · cases h

/-- The loop over an array's elements. -/
def eqElems (e : TypeId) (n d : Nat) (xs ys : Array Value) : List Nat → Sem Bool
  | [] => pure true
  | i :: is => do
    let a ← part e xs (i * n)
    let b ← part e ys (i * n)
    let r ← Op.equalIn d e a b
    if (!r) = true then pure false else eqElems e n d xs ys is

theorem run_equalIn_array (w : World) (d : Nat) (t e : TypeId) (len : Nat) (info : TypeInfo) (xs ys : Array Value) (ht : P.underlying t = some (.array len e)) (hi : P.info? e = some info) :
    (Op.equalIn (d + 1) t (.agg xs) (.agg ys)).run P w = (eqElems e info.size d xs ys (List.range' 0 len)).run P w := by
  simp only [Op.equalIn, Sem.run_bind, run_underlying ht, Result.andThen_ok, sizeOf_run hi, Std.Legacy.Range.forIn_eq_forIn_range', Std.Legacy.Range.size, Nat.sub_zero, Nat.add_sub_cancel, Nat.div_one]
  generalize List.range' 0 len = is
  induction is generalizing w with
  | nil => simp [eqElems]
  | cons i is ih =>
    simp only [List.forIn_cons, eqElems, Sem.run_bind]
    generalize (part e xs (i * info.size)).run P w = r1
    cases r1 with
    | ok a w1 =>
      simp only [Result.andThen_ok]
      generalize (part e ys (i * info.size)).run P w1 = r2
      cases r2 with
      | ok b w2 =>
        simp only [Result.andThen_ok]
        generalize (Op.equalIn d e a b).run P w2 = r3
        cases r3 with
        | ok r w3 =>
          cases r
          · simp only [Result.andThen_ok, Bool.not_false, if_true, Sem.run_pure]
          · simp only [Result.andThen_ok, Bool.not_true, Bool.false_eq_true, if_false, Sem.run_pure]
            exact ih w3
        | halt x w3 => simp [Result.andThen]
      | halt x w2 => simp [Result.andThen]
    | halt x w1 => simp [Result.andThen]

theorem eq_elems (hT : TabOK P T) (w : World) (d : Nat) {f : TypeId → Value → Value → Option Bool} (ih : EqOK P β d f) {e : TypeId} {ti : TI} {info : TypeInfo} (ht : T.get e = some ti) (hi : P.info? e = some info)
    {l m l' m' : List Value} (hl : VRL β l l') (hm : VRL β m m') : ∀ (n i : Nat) (r : Bool),
      eqAll f T l m (places ti.size e n i) = some r → (eqElems e info.size d ⟨l'⟩ ⟨m'⟩ (List.range' i n)).run P w = .ok r w
  | 0, i, r, h => by
    simp only [places, eqAll, Option.some.injEq] at h
    subst h
    rfl
  | n + 1, i, r, h => by
    simp only [places, eqAll, ht] at h
    split at h
    · rename_i x y hx hy
      split at h
      · rename_i r1 r2 h1 h2
        cases h
        obtain ⟨info', dd, z, hi', hd, hz, hs, _, hk, _⟩ := hT _ _ ht
        rw [hi] at hi'
        cases hi'
        obtain ⟨x', rx, vx⟩ := partL_sound (w := w) hi hd hs hk hx hl
        obtain ⟨y', ry, vy⟩ := partL_sound (w := w) hi hd hs hk hy hm
        rw [List.range'_succ]
        simp only [eqElems, Sem.run_bind, hs, rx, ry, Result.andThen_ok, ih w _ _ _ _ _ _ h1 vx vy]
        cases r1
        · simp
        · have := eq_elems hT w d ih ht hi hl hm n (i + 1) r2 h2
          rw [hs] at this
          simp [this]
      · cases h
    · cases h

theorem eqT_sound (hT : TabOK P T) : ∀ d D, d ≤ D → EqOK P β D (eqT T M0 d)
  | 0, _, _ => fun w t x y x' y' r h => by simp [eqT] at h
  | d + 1, 0, hD => by omega
  | d + 1, D + 1, hD => fun w t x y x' y' r h hx hy => by
    simp only [eqT] at h
    split at h
    · cases h
    · rename_i ti ht
      obtain ⟨info, dd, z, hi, hd, hz, hs, _, hk, hcmp, _⟩ := hT _ _ ht
      split at h
      · rename_i hk' 
        cases hx; cases hy
        split at h
        · rename_i h1
          cases h
          have h1 := sameK_iff h1
          subst h1
          cases dd <;> simp [kindOf, hk'] at hk
          simp [Op.equalIn, run_underlying hd]
        · cases h
      · rename_i hk'
        obtain ⟨n, rfl, h1⟩ := fw_of hx
        obtain ⟨m, rfl, h2⟩ := fw_of hy
        cases h
        cases dd <;> simp [kindOf, hk'] at hk
        simp [Op.equalIn, run_underlying hd, Op.floatEq, M0, op_cong nan_order h1 h2]
      · rename_i hk'
        cases hx; cases hy
        cases h
        cases dd <;> simp [kindOf, hk'] at hk
        simp [Op.equalIn, run_underlying hd]
      · rename_i hk'
        cases h
        cases dd <;> simp [kindOf, hk'] at hk
        cases hx
        cases hy <;> simp [Op.equalIn, run_underlying hd]
      · rename_i hk'
        cases h
        cases dd <;> simp [kindOf, hk'] at hk
        cases hx; cases hy
        simp [Op.equalIn, run_underlying hd]
      · rename_i hk'
        cases h
        cases dd <;> simp [kindOf, hk'] at hk
        cases hx
        cases hy <;> simp [Op.equalIn, run_underlying hd]
      · rename_i hk'
        cases h
        cases dd <;> simp [kindOf, hk'] at hk
        cases hx; cases hy
        simp [Op.equalIn, run_underlying hd]
      · rename_i fs l m hk'
        split at h
        · rename_i hc
          obtain ⟨c1, c2, c3⟩ := cmp_facts (hcmp hc)
          cases dd <;> simp [kindOf, hk'] at hk
          rename_i gs
          subst hk
          cases hx with
          | agg hl => cases hy with
            | agg hm =>
              have hf : P.fieldsOf t = gs := by simp [Program.fieldsOf, hd]
              rw [run_equalIn_struct w D t _ _ (by rw [hf]; exact hd) c1, hf]
              exact eq_fields hT w D (eqT_sound hT d D (by omega)) hl hm gs.toList r (c3 gs hd) h
        · cases h
      · rename_i n e l m hk'
        split at h
        · rename_i ei hc he
          cases dd <;> simp [kindOf, hk'] at hk
          obtain ⟨rfl, rfl⟩ := hk
          obtain ⟨info2, _, _, hi2, _⟩ := hT _ _ he
          cases hx with
          | agg hl => cases hy with
            | agg hm =>
              rw [run_equalIn_array w D t _ _ info2 _ _ hd hi2]
              exact eq_elems hT w D (eqT_sound hT d D (by omega)) he hi2 hl hm _ 0 r h
        · cases h
      · cases h

end
end Go.Lan
