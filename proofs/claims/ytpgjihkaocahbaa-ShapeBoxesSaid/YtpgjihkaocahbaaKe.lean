/- Each operation does in the machine what the interpreter says: structs and memory. -/
import Derived.Test.YtpgjihkaocahbaaKd
import Derived.Laws.CopyRow
import Derived.Great.BuildSlice
namespace Go.Lan
section
variable {P : Program} {T : Tab} {Φ : Fns} {β : List (Option Nat)}

/-! ### A struct, an array out of its parts -/
theorem foldl_put : ∀ (vs cells : List Value) (off j0 : Nat), off + j0 + vs.length ≤ cells.length →
    (vs.zipIdx j0).foldl (fun (cs : Array Value) (p : Value × Nat) => cs.setIfInBounds (off + p.2) p.1) ⟨cells⟩ = ⟨putL cells (off + j0) vs⟩
  | [], cells, off, j0, _ => by simp [putL]
  | v :: vs, cells, off, j0, h => by
    simp only [List.length_cons] at h
    simp only [List.zipIdx_cons, List.foldl_cons, putL, setL_eq]
    rw [show (⟨cells⟩ : Array Value).setIfInBounds (off + j0) v = ⟨cells.set (off + j0) v⟩ by simp]
    rw [foldl_put vs _ off (j0 + 1) (by simp; omega)]
    rw [Nat.add_assoc]

inductive PRL (β : List (Option Nat)) : List (Nat × Value) → List (Nat × Value) → Prop
  | nil : PRL β [] []
  | cons (i : Nat) {v v' : Value} {l l' : List (Nat × Value)} (h : VR β v v') (t : PRL β l l') : PRL β ((i, v) :: l) ((i, v') :: l')

theorem fill_rel {place place' : Nat → Option (Nat × Nat)} (hp : ∀ i x, place i = some x → place' i = some x) :
    ∀ (parts parts' : List (Nat × Value)) (cells cells' l : List Value), VRL β cells cells' → PRL β parts parts' →
      fillL place cells parts = some l → ∃ l', Instr.fill place' ⟨cells'⟩ parts' = some ⟨l'⟩ ∧ VRL β l l'
  | _, _, cells, cells', l, hc, .nil, h => by
    simp only [fillL, Option.some.injEq] at h
    subst h
    exact ⟨cells', rfl, hc⟩
  | _, _, cells, cells', l, hc, .cons i (v := v) (v' := v') (l := parts) (l' := qs) hv hf, h => by
      simp only [fillL] at h
      split at h
      · cases h
      · rename_i off size hpl
        split at h
        · cases h
        · rename_i vs hvs
          split at h
          · rename_i hb
            simp only [Bool.and_eq_true, Nat.beq_eq, Nat.ble_eq, lenL_eq] at hb
            obtain ⟨vs', hvs', hr⟩ := cellsL_rel hv hvs
            have hlen := hr.length
            have hcl := hc.length
            simp only [Instr.fill, hp _ _ hpl, hvs']
            rw [if_neg (by simp; omega)]
            have := foldl_put vs' cells' off 0 (by omega)
            simp only [Nat.add_zero] at this
            rw [← Array.foldl_toList, Array.toList_zipIdx]
            rw [this]
            exact fill_rel hp parts qs _ _ l (putL_rel off hc hr) hf h
          · cases h

theorem parts_rel {ρ ρ' : Operand → Value} (h : ∀ x, VR β (ρ x) (ρ' x)) : ∀ l : List (Nat × Operand), PRL β (partsV ρ l) (l.map fun p => (p.1, ρ' p.2))
  | [] => .nil
  | (i, x) :: l => .cons i (h x) (parts_rel h l)
theorem opvs_rel {ρ ρ' : Operand → Value} (h : ∀ x, VR β (ρ x) (ρ' x)) : ∀ l : List Operand, VRL β (opvs ρ l) (l.map ρ')
  | [] => .nil
  | x :: l => .cons (h x) (opvs_rel h l)

theorem plainV_rel (v : Value) (h : plainV v = true) : VR β v v := by
  cases v with
  | func f a c =>
    obtain ⟨a⟩ := a
    obtain ⟨c⟩ := c
    cases a <;> cases c <;> first | (simp [plainV] at h; done) | exact .func _ .nil .nil
  | pointer a => cases a <;> first | (simp [plainV] at h; done) | exact .ptrNil
  | slice a l c => cases a <;> first | (simp [plainV] at h; done) | exact .sliceNil _ _
  | map a => cases a <;> first | (simp [plainV] at h; done) | exact .mapNil
  | _ => first | (simp [plainV] at h; done) | constructor
theorem plainL_rel : ∀ l : List Value, l.all plainV = true → VRL β l l
  | [], _ => .nil
  | v :: l, h => by
    simp only [List.all_cons, Bool.and_eq_true] at h
    exact .cons (plainV_rel v h.1) (plainL_rel l h.2)
theorem plainL_app : ∀ (n : Nat) (l : List Value), l.all plainV = true → (repL n l).all plainV = true
  | 0, _, _ => rfl
  | n + 1, l, h => by
    rw [repL, appL_eq, List.all_append, h, plainL_app n l h]
    rfl
theorem constV_rel (v : Value) : VR β (constV v) v := by
  unfold constV
  split <;> constructor

end
end Go.Lan
