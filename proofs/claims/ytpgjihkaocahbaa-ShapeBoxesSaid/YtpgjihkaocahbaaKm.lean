/- Every order that a region may draw. -/
import Derived.Test.YtpgjihkaocahbaaKl
namespace Go.Lan
section
variable {P : Program} {T : Tab} {M : Prims} {Φ : Fns} {pc : Bool}

theorem edgeTo_mem {j : Nat} : ∀ {l : List Edge}, edgeTo j l = true → ∃ e ∈ l, Region.binds .any e = true ∧ e.on = j
  | [], h => by simp [edgeTo] at h
  | e :: l, h => by
    simp only [edgeTo, Bool.or_eq_true, Bool.and_eq_true, Nat.beq_eq] at h
    rcases h with ⟨h1, h2⟩ | h
    · refine ⟨e, by simp, ?_, h1⟩
      unfold Region.binds
      split <;> first | rfl | simp_all
    · obtain ⟨e', h1, h2⟩ := edgeTo_mem h
      exact ⟨e', by simp [h1], h2⟩

theorem edgesBack_lt {i : Nat} : ∀ {l : List Edge}, edgesBack i l = true → ∀ e ∈ l, Region.binds .any e = true → e.on < i
  | [], _, e, h, _ => by simp at h
  | e' :: l, hb, e, h, hn => by
    simp only [edgesBack, Bool.and_eq_true, Bool.or_eq_true, Nat.blt_eq] at hb
    rcases List.mem_cons.1 h with rfl | h
    · rcases hb.1 with h | h
      · exact h
      · exfalso
        unfold Region.binds at hn
        split at h <;> simp_all
    · exact edgesBack_lt hb.2 e h hn

theorem drawOne_get {all : List Oper} {o : Oper} : ∀ {l : List Oper} {j : Nat}, drawOne pc all o j l = true → ∀ (k : Nat) (x : Oper), l[k]? = some x → edgeTo (j + k) o.after.toList = true ∨ indep pc all x o = true
  | [], _, _, k, x, h => by simp at h
  | y :: l, j, hd, 0, x, h => by
    simp only [drawOne, Bool.and_eq_true, Bool.or_eq_true] at hd
    simp at h
    subst h
    exact hd.1
  | y :: l, j, hd, k + 1, x, h => by
    simp only [drawOne, Bool.and_eq_true, Bool.or_eq_true] at hd
    have := drawOne_get hd.2 k x (by simpa using h)
    rwa [show j + 1 + k = j + (k + 1) by omega] at this

theorem drawAll_get {all : List Oper} : ∀ {l before : List Oper} {i : Nat}, drawAll pc all i before l = true → before.length = i → ∀ (k : Nat) (o : Oper), l[k]? = some o →
    edgesBack (i + k) o.after.toList = true ∧ ∀ (j : Nat) (x : Oper), j < i + k → (before ++ l)[j]? = some x → edgeTo j o.after.toList = true ∨ indep pc all x o = true
  | [], _, _, _, _, k, o, h => by simp at h
  | o' :: l, before, i, hd, hb, 0, o, h => by
    simp only [drawAll, Bool.and_eq_true] at hd
    simp at h
    subst h
    refine ⟨hd.1.1, fun j x hj hx => ?_⟩
    rw [List.getElem?_append_left (by omega)] at hx
    have := drawOne_get hd.1.2 j x hx
    rwa [Nat.zero_add] at this
  | o' :: l, before, i, hd, hb, k + 1, o, h => by
    simp only [drawAll, Bool.and_eq_true, appL_eq] at hd
    have := drawAll_get hd.2 (by simp [hb]) k o (by simpa using h)
    rw [show i + 1 + k = i + (k + 1) by omega] at this
    simpa using this

/-- What the look says of each two. -/
theorem drawOK_spec {ops : List Oper} (hd : drawOK pc ops = true) : ∀ (i : Nat) (o : Oper), ops[i]? = some o →
    (∀ e ∈ o.after.toList, Region.binds .any e = true → e.on < i) ∧ ∀ (j : Nat) (x : Oper), j < i → ops[j]? = some x → (∃ e ∈ o.after.toList, Region.binds .any e = true ∧ e.on = j) ∨ indep pc ops x o = true := by
  intro i o ho
  obtain ⟨h1, h2⟩ := drawAll_get hd rfl i o ho
  rw [Nat.zero_add] at h1 h2
  exact ⟨edgesBack_lt h1, fun j x hj hx => (h2 j x hj (by simpa using hx)).imp edgeTo_mem id⟩

/-- What has been carried out at some point of an order. -/
structure Seen (ops : Array Oper) (listed : Array Bool) (X : List Nat) : Prop where
  nodup : X.Nodup
  mem : ∀ i, i ∈ X ↔ listed.getD i false = true
  size : listed.size = ops.size
  closed : ∀ i ∈ X, ∀ o, ops[i]? = some o → ∀ e ∈ o.after.toList, Region.binds .any e = true → e.on ∈ X

theorem Seen.bound {ops : Array Oper} {listed : Array Bool} {X : List Nat} (h : Seen ops listed X) : ∀ i ∈ X, i < ops.size := by
  intro i hi
  have := (h.mem i).1 hi
  rcases Nat.lt_or_ge i listed.size with h1 | h1
  · rw [← h.size]; exact h1
  · simp [Array.getElem?_eq_none h1] at this

theorem ready_iff {ops : Array Oper} {listed : Array Bool} {X : List Nat} (h : Seen ops listed X) {i : Nat} : i ∈ Region.ready .any ops listed ↔ ∃ o, ops[i]? = some o ∧ i ∉ X ∧ ∀ e ∈ o.after.toList, Region.binds .any e = true → e.on ∈ X := by
  unfold Region.ready
  simp only [List.mem_filter, List.mem_range, Bool.and_eq_true, Bool.not_eq_true']
  constructor
  · rintro ⟨hi, h1, h2⟩
    have ho : ops[i]? = some ops[i] := by simp [hi]
    refine ⟨ops[i], ho, fun hm => ?_, fun e he hb => ?_⟩
    · have := (h.mem i).1 hm
      have hl : i < listed.size := by rw [h.size]; exact hi
      simp [hl] at h1 this
      rw [this] at h1
      cases h1
    · rw [ho] at h2
      simp only [Option.map_some, Option.getD_some, Array.all_eq_true_iff_forall_mem] at h2
      have := h2 e (Array.mem_toList_iff.1 he)
      simp only [hb, Bool.not_true, Bool.false_or] at this
      exact (h.mem _).2 this
  · rintro ⟨o, ho, h1, h2⟩
    have hi : i < ops.size := (Array.getElem?_eq_some_iff.1 ho).1
    refine ⟨hi, ?_, ?_⟩
    · have hl : i < listed.size := by rw [h.size]; exact hi
      have : ¬ listed.getD i false = true := fun e => h1 ((h.mem i).2 e)
      simp [hl] at this ⊢
      exact this
    · rw [ho]
      simp only [Option.map_some, Option.getD_some, Array.all_eq_true_iff_forall_mem]
      intro e he
      cases hb : Region.binds .any e
      · rfl
      · simp only [Bool.not_true, Bool.false_or]
        exact (h.mem _).1 (h2 e (Array.mem_toList_iff.2 he) hb)

theorem Seen.next {ops : Array Oper} {listed : Array Bool} {X : List Nat} (h : Seen ops listed X) {i : Nat} {o : Oper} (ho : ops[i]? = some o) (hi : i ∉ X) (ha : ∀ e ∈ o.after.toList, Region.binds .any e = true → e.on ∈ X) :
    Seen ops (listed.setIfInBounds i true) (X ++ [i]) := by
  have hlt : i < ops.size := (Array.getElem?_eq_some_iff.1 ho).1
  refine ⟨?_, ?_, by simp [h.size], ?_⟩
  · rw [List.nodup_append]
    exact ⟨h.nodup, by simp, fun a ha b hb => by simp at hb; subst hb; exact fun e => hi (e ▸ ha)⟩
  · intro j
    rw [List.mem_append, List.mem_singleton]
    by_cases e : j = i
    · subst e
      have : j < listed.size := by rw [h.size]; exact hlt
      simp [this]
    · rw [Array.getD_eq_getD_getElem?, Array.getElem?_setIfInBounds_ne (Ne.symm e), ← Array.getD_eq_getD_getElem?, ← h.mem j]
      simp [e]
  · intro j hj o' ho' e he hb
    rcases List.mem_append.1 hj with hj | hj
    · exact List.mem_append_left _ (h.closed j hj o' ho' e he hb)
    · rw [List.mem_singleton] at hj
      subst hj
      rw [ho] at ho'
      cases ho'
      exact List.mem_append_left _ (ha e he hb)

/-- No edge says that j comes ahead of i. -/
def NoEdge (ops : Array Oper) (i j : Nat) : Prop := j < i → ∀ o, ops[i]? = some o → ∀ e ∈ o.after.toList, Region.binds .any e = true → e.on ≠ j

def restOf (n : Nat) (X : List Nat) : List Nat := (List.range' 0 n).filter (fun i => !X.contains i)

theorem stepI_comm (hpc : pc = true → PureF Φ) {all : List Oper} {i j : Nat} {x y : Oper} (hi : all[i]? = some x) (hj : all[j]? = some y) (h : indep pc all x y = true) : Comm T M Φ all j i := by
  intro s
  have := step_comm (T := T) (M := M) hpc h s
  unfold stepI
  rw [hi, hj]
  exact this.symm

theorem rest_facts {ops : Array Oper} {listed : Array Bool} {X : List Nat} (h : Seen ops listed X) (hX : X.Pairwise (NoEdge ops)) :
    (X ++ restOf ops.size X).Nodup ∧ (X ++ restOf ops.size X).Pairwise (NoEdge ops) ∧ ∀ i, i ∈ X ++ restOf ops.size X ↔ i < ops.size := by
  generalize hrest : restOf ops.size X = rest
  have hmem : ∀ i, i ∈ rest ↔ i < ops.size ∧ i ∉ X := by
    intro i
    rw [← hrest]
    simp [restOf, List.mem_filter, List.mem_range']
  have hrs : rest.Pairwise (· < ·) := by
    rw [← hrest]
    exact List.Pairwise.filter _ (by rw [← List.range_eq_range']; exact List.pairwise_lt_range)
  refine ⟨?_, ?_, fun i => ?_⟩
  · rw [List.nodup_append]
    refine ⟨h.nodup, hrs.imp (fun h => Nat.ne_of_lt h), fun a ha b hb e => ?_⟩
    subst e
    exact ((hmem a).1 hb).2 ha
  · rw [List.pairwise_append]
    refine ⟨hX, hrs.imp (fun h h' => absurd h' (by omega)), fun i hi j hj hlt o ho e he hb hon => ?_⟩
    exact ((hmem j).1 hj).2 (hon ▸ h.closed i hi o ho e he hb)
  · rw [List.mem_append, hmem]
    constructor
    · rintro (h1 | h1)
      · exact h.bound i h1
      · exact h1.1
    · intro h1
      by_cases hm : i ∈ X
      · exact .inl hm
      · exact .inr ⟨h1, hm⟩

theorem isort_range {n : Nat} {Y : List Nat} (hn : Y.Nodup) (hm : ∀ i, i ∈ Y ↔ i < n) : isort Y = List.range' 0 n := by
  have hs := isort_sorted hn
  have hlen : (isort Y).length = n := by
    have hperm : (isort Y).Perm (List.range n) := by
      rw [List.perm_ext_iff_of_nodup (hs.imp fun h => Nat.ne_of_lt h) List.nodup_range]
      intro x
      rw [List.mem_range, mem_isort, hm]
    simpa using hperm.length_eq
  have := sorted_range (isort Y) 0 hs fun x hx => ⟨Nat.zero_le _, by
    rw [hlen, Nat.zero_add]
    exact (hm x).1 (mem_isort.1 hx)⟩
  rw [this, hlen]

/-- Every order that keeps the edges comes to what the text's order comes to. -/
def AnyOrder (T : Tab) (M : Prims) (Φ : Fns) (ops : Array Oper) (s : S) : Prop :=
  ∀ Y : List Nat, Y.Nodup → Y.Pairwise (NoEdge ops) → (∀ i, i ∈ Y ↔ i < ops.size) → runI T M Φ ops.toList Y s = runI T M Φ ops.toList (List.range' 0 ops.size) s

theorem anyOrder_static (hpc : pc = true → PureF Φ) {ops : Array Oper} (hd : drawOK pc ops.toList = true) (s : S) : AnyOrder T M Φ ops s := by
  intro Y hn hp hm
  have hspec := drawOK_spec hd
  rw [← isort_range hn hm, run_isort ops.toList s hn]
  refine hp.imp_of_mem fun {i j} hi hj hne hlt => ?_
  have hib := (hm i).1 hi
  have hjb := (hm j).1 hj
  have hio : ops.toList[i]? = some ops[i] := by simp [hib]
  have hjo : ops.toList[j]? = some ops[j] := by simp [hjb]
  rcases (hspec i _ hio).2 j _ hlt hjo with ⟨e, he, hb, hon⟩ | hind
  · exact absurd hon (hne hlt ops[i] (by simp [hib]) e he hb)
  · exact stepI_comm hpc hjo hio hind

def Backs (ops : Array Oper) : Prop := ∀ (i : Nat) (o : Oper), ops.toList[i]? = some o → ∀ e ∈ o.after.toList, Region.binds .any e = true → e.on < i

/-- All orders that keep the edges come to one end; what holds step by step holds then. -/
theorem wpAny_gen {σ : Type} {st : Nat → σ → Option σ} {run : List Nat → σ → Option σ} (run_app : ∀ l m s, run (l ++ m) s = (run l s).bind (run m)) (run_cons : ∀ i l s, run (i :: l) s = (st i s).bind (run l)) (run_nil : ∀ s, run [] s = some s)
    {ops : Array Oper} (hback : Backs ops) {Q : Exit → Act → World → Prop} {R : List Nat → σ → Act → World → Prop}
    (hsound : ∀ (X : List Nat) (i : Nat) (s s' : σ) (a : Act) (w : World) (K : Act → World → Prop), i ∉ X → i < ops.size → st i s = some s' → R X s a w → (∀ a' w', R (X ++ [i]) s' a' w' → K a' w') → wpOp P ops Q i K a w)
    {s0 s1 : σ} (hany : ∀ Y : List Nat, Y.Nodup → Y.Pairwise (NoEdge ops) → (∀ i, i ∈ Y ↔ i < ops.size) → run Y s0 = some s1) :
    ∀ (fuel : Nat) (listed : Array Bool) (X : List Nat) (s : σ) (a : Act) (w : World), X.length + fuel = ops.size → Seen ops listed X →
      X.Pairwise (NoEdge ops) → run X s0 = some s → R X s a w → (∀ X' a' w', R X' s1 a' w' → Q .normal a' w') → wpAny P .any ops Q fuel listed a w := by
  -- when all has been carried out
  have fin : ∀ (listed : Array Bool) (X : List Nat) (s : σ), Seen ops listed X → X.Pairwise (NoEdge ops) → run X s0 = some s →
      Region.ready .any ops listed = [] → s = s1 := by
    intro listed X s hs hX hr hnil
    have hall : ∀ i, i < ops.size → i ∈ X := by
      intro i
      induction i using Nat.strongRecOn with
      | _ i ih =>
        intro hi
        by_cases hm : i ∈ X
        · exact hm
        · exfalso
          have : i ∈ Region.ready .any ops listed := (ready_iff hs).2 ⟨ops[i], by simp [hi], hm, fun e he hb => by
            have hlt := hback i ops[i] (by simp [hi]) e he hb
            exact ih e.on hlt (by omega)⟩
          rw [hnil] at this
          cases this
    obtain ⟨n1, n2, n3⟩ := rest_facts hs hX
    have h1 := hany _ n1 n2 n3
    have h2 : restOf ops.size X = [] := by
      rw [restOf, List.filter_eq_nil_iff]
      intro i hi
      have : i < ops.size := by simpa [List.mem_range'] using hi
      simp [hall i this]
    rw [h2, List.append_nil, hr] at h1
    cases h1
    rfl
  intro fuel
  induction fuel with
  | zero =>
    intro listed X s a w hl hs hX hr hR hk
    have hnil : Region.ready .any ops listed = [] := by
      rcases List.eq_nil_or_concat (Region.ready .any ops listed) with e | ⟨l, b, e⟩
      · exact e
      · exfalso
        have hb : b ∈ Region.ready .any ops listed := by rw [e]; simp
        obtain ⟨o, ho, hbX, _⟩ := (ready_iff hs).1 hb
        have hlt : b < ops.size := (Array.getElem?_eq_some_iff.1 ho).1
        have hnd : (b :: X).Nodup := List.nodup_cons.2 ⟨hbX, hs.nodup⟩
        have := sorted_len (isort (b :: X)) 0 ops.size (isort_sorted hnd) fun x hx => ⟨Nat.zero_le _, by
          rw [Nat.zero_add]
          rcases List.mem_cons.1 (mem_isort.1 hx) with rfl | hx
          · exact hlt
          · exact hs.bound x hx⟩
        rw [len_isort, List.length_cons] at this
        omega
    refine ⟨hnil, ?_⟩
    obtain rfl := fin listed X s hs hX hr hnil
    exact hk X a w hR
  | succ fuel ih =>
    intro listed X s a w hl hs hX hr hR hk
    refine ⟨fun hnil => ?_, fun i hi => ?_⟩
    · obtain rfl := fin listed X s hs hX hr hnil
      exact hk X a w hR
    · obtain ⟨o, ho, hiX, ha⟩ := (ready_iff hs).1 hi
      have hs' := hs.next ho hiX ha
      have hib : i < ops.size := (Array.getElem?_eq_some_iff.1 ho).1
      have hX' : (X ++ [i]).Pairwise (NoEdge ops) := by
        rw [List.pairwise_append]
        refine ⟨hX, by simp, fun x hx y hy hlt o' ho' e he hb hon => ?_⟩
        rw [List.mem_singleton] at hy
        subst hy
        exact hiX (hon ▸ hs.closed x hx o' ho' e he hb)
      obtain ⟨n1, n2, n3⟩ := rest_facts hs' hX'
      have h1 := hany _ n1 n2 n3
      rw [run_app, run_app, hr, Option.bind_some, run_cons] at h1
      cases hst : st i s with
      | none => rw [hst] at h1; simp at h1
      | some s' =>
        refine hsound X i s s' a w _ hiX hib hst hR fun a' w' hR' => ?_
        refine ih _ (X ++ [i]) s' a' w' (by simp; omega) hs' hX' ?_ hR' hk
        rw [run_app, hr, Option.bind_some, run_cons, hst, Option.bind_some, run_nil]

theorem wpAny_of_seen (hT : TabOK P T) (hΦ : FnsOK P Φ) {ops : Array Oper} (hback : Backs ops) {tn : Nat} (hdst : dstsOK tn ops.toList = true)
    {w0 w : World} {β0 β : List (Option Nat)} {Q : Exit → Act → World → Prop} {f : Nat → Value} {h : Hp} {a : Act} (hany : AnyOrder T M0 Φ ops (f, h)) {f' : Nat → Value} {h' : Hp} (hrun : runI T M0 Φ ops.toList (List.range' 0 ops.size) (f, h) = some (f', h'))
    {listed : Array Bool} (hs : Seen ops listed []) (hf : FR tn β f a) (hr : Rel w0 β0 β h w)
    (hk : ∀ γ a' w', FR tn (β ++ γ) f' a' → Rel w0 β0 (β ++ γ) h' w' → Q .normal a' w') : wpAny P .any ops Q ops.size listed a w := by
  refine wpAny_gen (σ := S) (st := stepI T M0 Φ ops.toList) (run := runI T M0 Φ ops.toList) (runI_append _) (runI_cons _) (fun _ => rfl) hback (R := fun _ s a w => ∃ γ, FR tn (β ++ γ) s.1 a ∧ Rel w0 β0 (β ++ γ) s.2 w) (s0 := (f, h)) (s1 := (f', h')) ?_ (fun Y h1 h2 h3 => (hany Y h1 h2 h3).trans hrun) ops.size listed [] (f, h) a w (by simp) hs (by simp) rfl ⟨[], by simpa using hf, by simpa using hr⟩ fun X' a' w' ⟨γ, h1, h2⟩ => hk γ a' w' h1 h2
  intro X i s s' a w K _ hi hst ⟨γ, h1, h2⟩ hk
  have ho : ops.toList[i]? = some ops[i] := by simp [hi]
  unfold stepI at hst
  rw [ho] at hst
  refine step_sound hT hΦ hdst ho hst h1 h2 fun γ' a' w' h1' h2' => ?_
  rw [List.append_assoc] at h1' h2'
  exact hk a' w' ⟨_, h1', h2'⟩

end
end Go.Lan
