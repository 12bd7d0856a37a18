/- A region that draws its order: in whatever order it is carried out, it comes to the same. -/
import Derived.Test.YtpgjihkaocahbaaKi
namespace Go.Lan

/-- The functions that are called turn no memory, and look at no other than that of their arguments. -/
def PureF (Φ : Fns) : Prop := ∀ f args h h2, (∀ b ∈ blks args, nth h2 b = nth h b) → Φ f args h2 = (Φ f args h).map fun p => (p.1, p.2.1, h2)

section
variable {T : Tab} {M : Prims} {Φ : Fns}

theorem opvs_congr {ρ ρ' : Operand → Value} : ∀ (l : List Operand), (∀ x ∈ l, ρ x = ρ' x) → opvs ρ l = opvs ρ' l
  | [], _ => rfl
  | x :: l, h => by simp only [opvs, h x (by simp), opvs_congr l fun y hy => h y (by simp [hy])]
theorem partsV_congr {ρ ρ' : Operand → Value} : ∀ (l : List (Nat × Operand)), (∀ x ∈ l.map (·.2), ρ x = ρ' x) → partsV ρ l = partsV ρ' l
  | [], _ => rfl
  | (i, x) :: l, h => by simp only [partsV, h x (by simp), partsV_congr l fun y hy => h y (by simp only [List.map_cons, List.mem_cons]; exact .inr hy)]

theorem callV_congr {ρ ρ' : Operand → Value} (h : Hp) (c : Call) (hh : ∀ x ∈ c.operands, ρ x = ρ' x) : callV T M Φ ρ h c = callV T M Φ ρ' h c := by
  have hargs : opvs ρ c.args.toList = opvs ρ' c.args.toList := opvs_congr _ fun x hx => hh x (by simp only [Call.operands, Array.mem_append]; exact .inr (Array.mem_toList_iff.1 hx))
  unfold callV
  rw [hargs]
  cases hc : c.callee with
  | value f =>
    have : ρ f = ρ' f := hh f (by simp [Call.operands, hc])
    simp only [this]
  | builtin b => rfl
  | invoke r m => rfl

theorem opR_congr {ρ ρ' : Operand → Value} (h : Hp) (op : Op) (hh : ∀ x ∈ op.operands.toList, ρ x = ρ' x) : opR T M Φ ρ h op = opR T M Φ ρ' h op := by
  cases op with
  | build t ps =>
    have : partsV ρ ps.toList = partsV ρ' ps.toList := partsV_congr _ fun x hx => hh x (by simpa [Op.operands] using hx)
    simp only [opR, this]
  | buildSlice t n ps =>
    have : partsV ρ ps.toList = partsV ρ' ps.toList := partsV_congr _ fun x hx => hh x (by simpa [Op.operands] using hx)
    simp only [opR, this]
  | makeFunc fn a b =>
    have h1 : opvs ρ a.toList = opvs ρ' a.toList := opvs_congr _ fun x hx => hh x (by simp [Op.operands, hx])
    have h2 : opvs ρ b.toList = opvs ρ' b.toList := opvs_congr _ fun x hx => hh x (by simp [Op.operands, hx])
    simp only [opR, h1, h2]
  | call c =>
    simp only [opR]
    exact callV_congr h c fun x hx => hh x (by simpa [Op.operands] using hx)
  | _ => simp_all [opR, Op.operands]

theorem opF_congr {f g : Nat → Value} (l : List Operand) (h : ∀ d ∈ tmpsOf l, f d = g d) : ∀ x ∈ l, opF f x = opF g x := by
  induction l with
  | nil => simp
  | cons y l ih =>
    intro x hx
    cases y with
    | tmp t =>
      simp only [tmpsOf, List.mem_cons, forall_eq_or_imp] at h
      rcases List.mem_cons.1 hx with rfl | hx
      · exact h.1
      · exact ih h.2 x hx
    | _ =>
      rcases List.mem_cons.1 hx with rfl | hx
      · rfl
      · exact ih h x hx

theorem looks_ops {all : List Oper} {o : Oper} : ∀ d ∈ tmpsOf o.op.operands.toList, d ∈ looks all o := by
  intro d hd
  unfold looks
  split
  · exact hd
  · split
    · exact List.mem_cons_of_mem _ hd
    · exact hd

theorem guardD_congr {all : List Oper} {o : Oper} {f g : Nat → Value} (h : ∀ d ∈ looks all o, f d = g d) : guardD all f o = guardD all g o := by
  unfold guardD
  split
  · rfl
  · rename_i j want hg
    split
    · rfl
    · rename_i s hs
      have : f s = g s := h s (by simp [looks, hg, hs])
      rw [this]

theorem asPick_op {op : Op} {c x y : Operand} (h : asPick op = some (c, x, y)) : op = .pick c x y := by
  unfold asPick at h
  split at h
  · cases h; rfl
  · cases h

theorem outD_congr {all : List Oper} {o : Oper} {f g : Nat → Value} {h : Hp} (hh : ∀ d ∈ looks all o, f d = g d) : outD T M Φ all o f h = outD T M Φ all o g h := by
  unfold outD
  rw [guardD_congr hh]
  have hops : ∀ x ∈ o.op.operands.toList, opF f x = opF g x := opF_congr _ fun d hd => hh d (looks_ops d hd)
  split
  · rfl
  · rfl
  · split
    · rename_i c x y hp
      rw [asPick_op hp] at hops
      have h1 := hops c (by simp [Op.operands])
      have h2 := hops x (by simp [Op.operands])
      have h3 := hops y (by simp [Op.operands])
      rw [h1, h2, h3]
    · rw [opR_congr h o.op hops]

/-- An operation that writes no memory leaves it as it is. -/
theorem opR_keeps {pc : Bool} (hpc : pc = true → PureF Φ) {ρ : Operand → Value} {h h' : Hp} {op : Op} {g : Bool} {v : Value} (hm : memK pc op ≤ 1) (hop : opR T M Φ ρ h op = some (g, v, h')) : h' = h := by
  cases op with
  | call c =>
    simp only [opR, callV] at hop
    split at hop
    · split at hop
      · cases hop; rfl
      · cases hop
    · rename_i f hc
      have hp : pc = true := by
        cases pc
        · simp [memK, hc] at hm
        · rfl
      split at hop
      · rename_i g' first captured _
        have := hpc hp g' (appL first (appL (opvs ρ c.args.toList) captured)) h h fun _ _ => rfl
        rw [hop] at this
        simp at this
        exact this
      · cases hop
    · cases hop
  | alloc t => simp [memK] at hm
  | box t x => simp [memK] at hm
  | store t x y => simp [memK] at hm
  | buildSlice t n ps => simp [memK] at hm
  | _ =>
    simp only [opR] at hop
    repeat' split at hop
    all_goals first
      | (cases hop; done)
      | (cases hop; rfl)

/-- An operation that doesn't look at memory does the same whatever it holds. -/
theorem opR_blind {pc : Bool} {ρ : Operand → Value} {h : Hp} (h2 : Hp) {op : Op} (hm : memK pc op = 0) : opR T M Φ ρ h2 op = (opR T M Φ ρ h op).map fun p => (p.1, p.2.1, h2) := by
  cases op with
  | call c =>
    simp only [opR, callV]
    split
    · split <;> rfl
    · rename_i f hc
      cases pc <;> simp [memK, hc] at hm
    · rfl
  | alloc t => simp [memK] at hm
  | box t x => simp [memK] at hm
  | store t x y => simp [memK] at hm
  | load t x => simp [memK] at hm
  | buildSlice t n ps => simp [memK] at hm
  | _ =>
    simp only [opR]
    repeat' split
    all_goals first | rfl | simp_all

end
end Go.Lan
