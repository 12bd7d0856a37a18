/- A region that draws its order: in whatever order it is carried out, it comes to the same. -/
import Derived.Test.YtpgjihkaocahbaaKj
namespace Go.Lan
section
variable {T : Tab} {M : Prims} {Φ : Fns} {pc : Bool}

theorem outD_keeps (hpc : pc = true → PureF Φ) {all : List Oper} {o : Oper} {f : Nat → Value} {h h' : Hp} {v : Value} (hm : memK pc o.op ≤ 1) (hout : outD T M Φ all o f h = some (v, h')) : h' = h := by
  unfold outD at hout
  split at hout
  · cases hout
  · cases hout; rfl
  · split at hout
    · split at hout
      · cases hout; rfl
      · cases hout
    · split at hout
      · rename_i hop
        cases hout
        exact opR_keeps hpc hm hop
      · cases hout

theorem outD_blind {all : List Oper} {o : Oper} {f : Nat → Value} {h : Hp} (h2 : Hp) (hm : memK pc o.op = 0) : outD T M Φ all o f h2 = (outD T M Φ all o f h).map fun p => (p.1, h2) := by
  unfold outD
  split
  · rfl
  · rfl
  · split
    · split <;> rfl
    · rw [opR_blind (h := h) h2 hm]
      cases hq : opR T M Φ (opF f) h o.op with
      | none => rfl
      | some p =>
        obtain ⟨g, v, h'⟩ := p
        cases g <;> rfl

theorem indep_spec {all : List Oper} {x y : Oper} (h : indep pc all x y = true) :
    (∀ d, x.dst = some d → d ∉ looks all y) ∧ (∀ d, y.dst = some d → d ∉ looks all x) ∧ (∀ d, x.dst = some d → y.dst ≠ some d) ∧ memK pc x.op * memK pc y.op ≤ 1 := by
  simp only [indep, Bool.and_eq_true, Bool.not_eq_true', Nat.ble_eq] at h
  obtain ⟨⟨⟨h1, h2⟩, h3⟩, h4⟩ := h
  refine ⟨fun d hd hm => ?_, fun d hd hm => ?_, fun d hd he => ?_, h4⟩
  · rw [hd, dstIn, (memN_iff _ _).2 hm] at h1; cases h1
  · rw [hd, dstIn, (memN_iff _ _).2 hm] at h2; cases h2
  · rw [hd, he, dstEq] at h3; simp at h3

theorem upd_other {d : Option Tmp} {v : Value} {f : Nat → Value} {n : Nat} (h : d ≠ some n) : upd d v f n = f n := by
  cases d with
  | none => rfl
  | some d => simp only [upd]; rw [if_neg (fun e => h (by rw [e]))]

theorem upd_comm {d e : Option Tmp} {v u : Value} {f : Nat → Value} (h : ∀ n, d = some n → e ≠ some n) : upd e u (upd d v f) = upd d v (upd e u f) := by
  funext n
  by_cases hd : d = some n
  · have he := h n hd
    rw [upd_other he]
    subst hd
    simp [upd]
  · rw [upd_other hd]
    by_cases he : e = some n
    · subst he
      simp [upd]
    · rw [upd_other he, upd_other he, upd_other hd]

theorem step_comm (hpc : pc = true → PureF Φ) {all : List Oper} {x y : Oper} (hi : indep pc all x y = true) (s : S) :
    (stepD T M Φ all x s).bind (stepD T M Φ all y) = (stepD T M Φ all y s).bind (stepD T M Φ all x) := by
  obtain ⟨f, h⟩ := s
  obtain ⟨i1, i2, i3, i4⟩ := indep_spec hi
  have cy : ∀ v h', outD T M Φ all y (upd x.dst v f) h' = outD T M Φ all y f h' := fun v h' => outD_congr fun d hd => upd_other fun e => i1 d e hd
  have cx : ∀ v h', outD T M Φ all x (upd y.dst v f) h' = outD T M Φ all x f h' := fun v h' => outD_congr fun d hd => upd_other fun e => i2 d e hd
  have hc : ∀ v u, upd y.dst u (upd x.dst v f) = upd x.dst v (upd y.dst u f) := fun v u => upd_comm i3
  simp only [stepD]
  cases hx : outD T M Φ all x f h with
  | none =>
    cases hy : outD T M Φ all y f h with
    | none => rfl
    | some q =>
      obtain ⟨u, h2⟩ := q
      simp only [Option.bind_none, Option.bind_some, stepD, cx]
      rcases Nat.eq_zero_or_pos (memK pc x.op) with hz | hz
      · rw [outD_blind (h := h) h2 hz, hx]
        rfl
      · have : memK pc y.op ≤ 1 := by
          rcases Nat.lt_or_ge 1 (memK pc y.op) with hlt | hge
          · have := Nat.mul_le_mul hz hlt
            omega
          · exact hge
        rw [outD_keeps hpc this hy, hx]
  | some p =>
    obtain ⟨v, h1⟩ := p
    cases hy : outD T M Φ all y f h with
    | none =>
      simp only [Option.bind_none, Option.bind_some, stepD, cy]
      rcases Nat.eq_zero_or_pos (memK pc y.op) with hz | hz
      · rw [outD_blind (h := h) h1 hz, hy]
        rfl
      · have : memK pc x.op ≤ 1 := by
          rcases Nat.lt_or_ge 1 (memK pc x.op) with hlt | hge
          · have := Nat.mul_le_mul hlt hz
            omega
          · exact hge
        rw [outD_keeps hpc this hx, hy]
    | some q =>
      obtain ⟨u, h2⟩ := q
      simp only [Option.bind_some, stepD, cx, cy]
      have key : outD T M Φ all y f h1 = some (u, if memK pc x.op ≤ 1 then h2 else h1) ∧ outD T M Φ all x f h2 = some (v, if memK pc x.op ≤ 1 then h2 else h1) := by
        by_cases hx1 : memK pc x.op ≤ 1
        · rw [if_pos hx1]
          have e1 := outD_keeps hpc hx1 hx
          subst e1
          refine ⟨hy, ?_⟩
          rcases Nat.eq_zero_or_pos (memK pc x.op) with hz | hz
          · rw [outD_blind (h := h1) h2 hz, hx]; rfl
          · have : memK pc y.op ≤ 1 := by
              rcases Nat.lt_or_ge 1 (memK pc y.op) with hlt | hge
              · have := Nat.mul_le_mul hz hlt
                omega
              · exact hge
            have e2 := outD_keeps hpc this hy
            subst e2
            exact hx
        · rw [if_neg hx1]
          have hy0 : memK pc y.op = 0 := by
            rcases Nat.eq_zero_or_pos (memK pc y.op) with hz | hz
            · exact hz
            · have := Nat.mul_le_mul (show 2 ≤ memK pc x.op by omega) hz
              omega
          have e2 := outD_keeps hpc (by omega) hy
          subst e2
          refine ⟨?_, hx⟩
          rw [outD_blind (h := h2) h1 hy0, hy]; rfl
      rw [key.1, key.2]
      simp only [hc]

/-! ### Lists that keep what must be kept come to one end -/
def stepI (T : Tab) (M : Prims) (Φ : Fns) (all : List Oper) (i : Nat) (s : S) : Option S :=
  match all[i]? with
  | none => none
  | some o => stepD T M Φ all o s

theorem runI_cons (all : List Oper) (i : Nat) (l : List Nat) (s : S) : runI T M Φ all (i :: l) s = (stepI T M Φ all i s).bind (runI T M Φ all l) := by
  simp only [runI, stepI]
  cases all[i]? with
  | none => rfl
  | some o => dsimp only; cases stepD T M Φ all o s <;> rfl

theorem runI_append (all : List Oper) : ∀ (l m : List Nat) (s : S), runI T M Φ all (l ++ m) s = (runI T M Φ all l s).bind (runI T M Φ all m)
  | [], m, s => rfl
  | i :: l, m, s => by
    rw [List.cons_append, runI_cons, runI_cons, Option.bind_assoc]
    congr 1
    funext s'
    exact runI_append all l m s'

def Comm (T : Tab) (M : Prims) (Φ : Fns) (all : List Oper) (i j : Nat) : Prop :=
  ∀ s, (stepI T M Φ all i s).bind (stepI T M Φ all j) = (stepI T M Φ all j s).bind (stepI T M Φ all i)

def ins (i : Nat) : List Nat → List Nat
  | [] => [i]
  | j :: l => if i < j then i :: j :: l else j :: ins i l

def isort : List Nat → List Nat
  | [] => []
  | i :: l => ins i (isort l)

theorem mem_ins {i x : Nat} : ∀ {l : List Nat}, x ∈ ins i l ↔ x = i ∨ x ∈ l
  | [] => by simp [ins]
  | j :: l => by
    simp only [ins]
    split
    · simp
    · simp only [List.mem_cons, mem_ins]
      exact ⟨fun h => by rcases h with h | h | h <;> simp [h], fun h => by rcases h with h | h | h <;> simp [h]⟩
theorem mem_isort {x : Nat} : ∀ {l : List Nat}, x ∈ isort l ↔ x ∈ l
  | [] => by simp [isort]
  | i :: l => by rw [isort, mem_ins, mem_isort, List.mem_cons]
theorem len_ins {i : Nat} : ∀ {l : List Nat}, (ins i l).length = l.length + 1
  | [] => rfl
  | j :: l => by simp only [ins]; split <;> simp [len_ins]
theorem len_isort : ∀ {l : List Nat}, (isort l).length = l.length
  | [] => rfl
  | i :: l => by rw [isort, len_ins, len_isort]; rfl

theorem ins_sorted {i : Nat} : ∀ {l : List Nat}, l.Pairwise (· < ·) → i ∉ l → (ins i l).Pairwise (· < ·)
  | [], _, _ => by simp [ins]
  | j :: l, h, hi => by
    obtain ⟨h1, h2⟩ := List.pairwise_cons.1 h
    simp only [ins]
    split
    · rename_i hlt
      refine List.pairwise_cons.2 ⟨fun x hx => ?_, h⟩
      rcases List.mem_cons.1 hx with rfl | hx
      · exact hlt
      · exact Nat.lt_trans hlt (h1 x hx)
    · rename_i hge
      refine List.pairwise_cons.2 ⟨fun x hx => ?_, ins_sorted h2 fun hm => hi (List.mem_cons_of_mem _ hm)⟩
      rcases mem_ins.1 hx with rfl | hx
      · have : x ≠ j := fun e => hi (by simp [e])
        omega
      · exact h1 x hx
theorem isort_sorted : ∀ {l : List Nat}, l.Nodup → (isort l).Pairwise (· < ·)
  | [], _ => by simp [isort]
  | i :: l, h => by
    obtain ⟨h1, h2⟩ := List.nodup_cons.1 h
    exact ins_sorted (isort_sorted h2) fun hm => h1 (mem_isort.1 hm)

/-- There are no more different numbers than there are places. -/
theorem sorted_len : ∀ (m : List Nat) (a n : Nat), m.Pairwise (· < ·) → (∀ x ∈ m, a ≤ x ∧ x < a + n) → m.length ≤ n
  | [], _, _, _, _ => Nat.zero_le _
  | y :: m, a, 0, _, hq => by have := hq y (by simp); omega
  | y :: m, a, n + 1, hp, hq => by
    obtain ⟨p1, p2⟩ := List.pairwise_cons.1 hp
    have hy := hq y (by simp)
    have := sorted_len m (a + 1) n p2 fun x hx => by
      have c1 := p1 x hx
      have c2 := (hq x (by simp [hx])).2
      exact ⟨by omega, by omega⟩
    simp; omega

theorem sorted_range : ∀ (l : List Nat) (k : Nat), l.Pairwise (· < ·) → (∀ x ∈ l, k ≤ x ∧ x < k + l.length) → l = List.range' k l.length
  | [], _, _, _ => rfl
  | i :: l, k, hs, hb => by
    obtain ⟨h1, h2⟩ := List.pairwise_cons.1 hs
    have hi := hb i (by simp)
    have hik : i = k := by
      rcases Nat.eq_or_lt_of_le hi.1 with e | e
      · exact e.symm
      · exfalso
        have hall : ∀ x ∈ (i :: l), k + 1 ≤ x ∧ x < k + 1 + l.length := by
          intro x hx
          have hx2 := (hb x hx).2
          simp only [List.length_cons] at hx2
          rcases List.mem_cons.1 hx with rfl | hx
          · exact ⟨e, by omega⟩
          · have := h1 x hx; exact ⟨by omega, by omega⟩
        have := sorted_len (i :: l) (k + 1) l.length hs hall
        simp only [List.length_cons] at this
        omega
    subst hik
    rw [List.length_cons, List.range'_succ]
    congr 1
    refine sorted_range l (i + 1) h2 fun x hx => ?_
    have c1 := h1 x hx
    have c2 := (hb x (by simp [hx])).2
    simp only [List.length_cons] at c2
    exact ⟨by omega, by omega⟩

theorem run_ins (all : List Oper) {i : Nat} : ∀ {l : List Nat} (s : S), (∀ j ∈ l, j < i → Comm T M Φ all i j) → i ∉ l → runI T M Φ all (ins i l) s = runI T M Φ all (i :: l) s
  | [], s, _, _ => rfl
  | j :: l, s, hc, hi => by
    simp only [ins]
    split
    · rfl
    · rename_i hge
      have hji : j < i := by
        have : j ≠ i := fun e => hi (by simp [e])
        omega
      rw [runI_cons, runI_cons, show (stepI T M Φ all i s).bind (runI T M Φ all (j :: l)) = ((stepI T M Φ all i s).bind (stepI T M Φ all j)).bind (runI T M Φ all l) by
        rw [Option.bind_assoc]; congr 1; funext s'; exact runI_cons all j l s']
      rw [hc j (by simp) hji s, Option.bind_assoc]
      congr 1
      funext s'
      rw [run_ins all s' (fun x hx => hc x (by simp [hx])) (fun hm => hi (List.mem_cons_of_mem _ hm)), runI_cons]

theorem run_isort (all : List Oper) : ∀ {l : List Nat} (s : S), l.Nodup → l.Pairwise (fun i j => j < i → Comm T M Φ all i j) → runI T M Φ all (isort l) s = runI T M Φ all l s
  | [], _, _, _ => rfl
  | i :: l, s, hn, hp => by
    obtain ⟨n1, n2⟩ := List.nodup_cons.1 hn
    obtain ⟨p1, p2⟩ := List.pairwise_cons.1 hp
    rw [isort, run_ins all s (fun j hj => p1 j (mem_isort.1 hj)) (fun hm => n1 (mem_isort.1 hm)), runI_cons, runI_cons]
    congr 1
    funext s'
    exact run_isort all s' n2 p2

end
end Go.Lan
