/- Two operations that have nothing to do with each other may change places. -/
import Derived.Test.YtomepdfmjlcehaaAmSnh
set_option linter.unusedVariables false
set_option linter.unusedSimpArgs false
namespace Go.Am

section
variable {Gl : Nat → AV} {r r' : Regs} {H : List Ent}

theorem ov_congr {x : O} (h : ∀ t ∈ x.regs, look r t = look r' t) : ov Gl r x = ov Gl r' x := by
  cases x with
  | t n => exact h n (by simp [O.regs])
  | _ => rfl

theorem ovs_congr {xs : List O} (h : ∀ t ∈ (xs.map O.regs).flatten, look r t = look r' t) : xs.map (ov Gl r) = xs.map (ov Gl r') :=
  List.map_congr_left fun x hx => ov_congr fun t ht => h t (by
    simp only [List.mem_flatten, List.mem_map]
    exact ⟨_, ⟨x, hx, rfl⟩, ht⟩)

theorem opt_congr {x : Option O} (h : ∀ t ∈ optRegs x, look r t = look r' t) : x.map (ov Gl r) = x.map (ov Gl r') := by
  cases x with
  | none => rfl
  | some y => simp only [Option.map_some]; rw [ov_congr h]

theorem step_congr {id : Nat} {i : I} (h : ∀ t ∈ i.regs, look r t = look r' t) : step Gl id r H i = step Gl id r' H i := by
  cases i with
  | nrow e sz => rfl
  | alloc t z => rfl
  | lenA n => rfl
  | call f xs => rfl
  | callv x xs => rfl
  | pick c a b =>
    simp only [I.regs, List.mem_append] at h
    have e1 : ov Gl r c = ov Gl r' c := ov_congr fun t ht => h t (.inl (.inl ht))
    have e2 : ov Gl r a = ov Gl r' a := ov_congr fun t ht => h t (.inl (.inr ht))
    have e3 : ov Gl r b = ov Gl r' b := ov_congr fun t ht => h t (.inr ht)
    simp only [step, e1, e2, e3]
  | build z ps =>
    have e : (ps.map fun p => (p.1, p.2.1, ov Gl r p.2.2)) = ps.map fun p => (p.1, p.2.1, ov Gl r' p.2.2) :=
      List.map_congr_left fun p hp => by
        rw [ov_congr fun t ht => h t (by simp only [I.regs, List.mem_flatten, List.mem_map]; exact ⟨_, ⟨p, hp, rfl⟩, ht⟩)]
    simp only [step, e]
  | mks e sz z n ps =>
    have e : (ps.map fun p => ov Gl r p.2) = ps.map fun p => ov Gl r' p.2 :=
      List.map_congr_left fun p hp => by
        rw [ov_congr fun t ht => h t (by simp only [I.regs, List.mem_flatten, List.mem_map]; exact ⟨_, ⟨p, hp, rfl⟩, ht⟩)]
    simp only [step, e]
  | mxn mx xs => simp only [step, ovs_congr (Gl := Gl) h]
  | mkf f xs => simp only [step, ovs_congr (Gl := Gl) h]
  | slS x l u =>
    simp only [I.regs, List.mem_append] at h
    have e1 : ov Gl r x = ov Gl r' x := ov_congr fun t ht => h t (.inl (.inl ht))
    have e2 : l.map (ov Gl r) = l.map (ov Gl r') := opt_congr fun t ht => h t (.inl (.inr ht))
    have e3 : u.map (ov Gl r) = u.map (ov Gl r') := opt_congr fun t ht => h t (.inr ht)
    simp only [step, e1, e2, e3]
  | slA e sz x l u =>
    simp only [I.regs, List.mem_append] at h
    have e1 : ov Gl r x = ov Gl r' x := ov_congr fun t ht => h t (.inl (.inl ht))
    have e2 : l.map (ov Gl r) = l.map (ov Gl r') := opt_congr fun t ht => h t (.inl (.inr ht))
    have e3 : u.map (ov Gl r) = u.map (ov Gl r') := opt_congr fun t ht => h t (.inr ht)
    simp only [step, e1, e2, e3]
  | len b x => cases b <;> simp only [step, ov_congr (Gl := Gl) (r := r) (r' := r') (x := x) h]
  | stv n x y | bin op x y | eqv neg d x y | eqp neg x y | ust e x y | ia sz x y | iaa n sz x y | ix x y | ixa n sz g x y | app e sz b s x y | mksl e sz b z x y =>
    simp only [I.regs, List.mem_append] at h
    have e1 : ov Gl r x = ov Gl r' x := ov_congr fun t ht => h t (.inl ht)
    have e2 : ov Gl r y = ov Gl r' y := ov_congr fun t ht => h t (.inr ht)
    simp only [step, e1, e2]
  | mv x | cvMk x | box t x | ld g x | nilc x | un op x | cvI k x | cvSB e x | cvBS x | cvIS x | cvSS x | fa off x | fl off g x | ext k x | rng x | nxt x | cvPU x | cvUP l x | usd x =>
    simp only [step, ov_congr (Gl := Gl) (r := r) (r' := r') (x := x) h]

/-- What does not look at the heap. -/
theorem step_p {id : Nat} {i : I} (hk : i.kd = .p) {a : AV} {u new} (h : step Gl id r H i = some (a, u, new)) : u = none ∧ new = none ∧ ∀ id' H2, step Gl id' r H2 i = some (a, none, none) := by
  have fin : ∀ {x : Option (AV × Option (Nat × Ent) × Option Ent)}, (∀ b v n, x = some (b, v, n) → v = none ∧ n = none) → (∀ id' H2, step Gl id' r H2 i = step Gl id r H i) → x = step Gl id r H i → u = none ∧ new = none ∧ ∀ id' H2, step Gl id' r H2 i = some (a, none, none) := by
    intro x h1 h2 h3
    obtain ⟨e1, e2⟩ := h1 a u new (h3.trans h)
    subst e1; subst e2
    exact ⟨rfl, rfl, fun id' H2 => (h2 id' H2).trans h⟩
  cases i with
  | mv x | pick c a b | build z ps | nilc x | bin op x y | eqv neg d x y | un op x | cvI k x | cvSB e x | cvIS x | cvSS x | slS x l u | fa off x | iaa n sz x y | fl off g x | ix x y | ixa n sz g x y | ext k x | lenA n | mxn mx xs | mkf f xs =>
    refine fin (x := step Gl id r H _) (fun b v n e => ?_) (fun _ _ => rfl) rfl
    simp only [step] at e
    (try (repeat' split at e)) <;> simp at e <;> first | exact ⟨e.2.1.symm, e.2.2.symm⟩ | exact ⟨e.2.1, e.2.2⟩ | skip
  | len s x =>
    cases s <;>
    · refine fin (x := step Gl id r H _) (fun b v n e => ?_) (fun _ _ => rfl) rfl
      simp only [step] at e
      (try (repeat' split at e)) <;> simp at e <;> first | exact ⟨e.2.1.symm, e.2.2.symm⟩ | exact ⟨e.2.1, e.2.2⟩ | skip
  | ld g x | ia sz x y | cvBS x | cvPU x | cvUP l x | eqp neg x y | usd x => cases x <;> simp [I.kd] at hk
  | _ => simp [I.kd] at hk

/-- What makes an entry. -/
theorem step_a {id : Nat} {i : I} (hk : i.kd = .a) {a : AV} {u new} (h : step Gl id r H i = some (a, u, new)) : u = none ∧ ∃ e, new = some e := by
  cases i with
  | nrow e sz | alloc t z | box t x | mks e sz z n ps | rng x | mksl e sz b z l c =>
    simp only [step] at h
    (try (repeat' split at h)) <;> simp at h <;> exact ⟨h.2.1.symm, _, h.2.2.symm⟩
  | ld g x | ia sz x y | cvBS x | cvPU x | cvUP l x | eqp neg x y | usd x => cases x <;> simp [I.kd] at hk
  | _ => simp [I.kd] at hk

/-- What reads. -/
theorem step_r {id : Nat} {i : I} (hk : i.kd = .r) {a : AV} {u new} (h : step Gl id r H i = some (a, u, new)) : u = none ∧ new = none := by
  cases i with
  | ld g x | ia sz x y | cvBS x | cvPU x | cvUP l x | eqp neg x y | usd x =>
    simp only [step] at h
    (try (repeat' split at h)) <;> simp at h <;> first | exact ⟨h.2.1.symm, h.2.2.symm⟩ | exact ⟨h.2.1, h.2.2⟩ | exact ⟨h.2.2.1.symm, h.2.2.2.symm⟩ | skip
  | _ => simp [I.kd] at hk

theorem cellsAt_anti {e : Ent} {a : AV} {x} (hb : Bel H.length a) (h : cellsAt (H ++ [e]) a = some x) : cellsAt H a = some x := by
  unfold cellsAt at h ⊢
  split at h
  · cases hb with
    | ptr _ _ hg => rw [List.getElem?_append_left hg] at h; exact h
  · cases hb with
    | el _ _ _ _ hg => rw [List.getElem?_append_left hg] at h; exact h
  · exact h
  · cases h

theorem elems_anti {e : Ent} {a : AV} {x} (hb : Bel H.length a) (h : elems (H ++ [e]) a = some x) : elems H a = some x := by
  unfold elems at h ⊢
  split at h
  · exact h
  · exact h
  · cases hb with
    | row _ _ hg => rw [List.getElem?_append_left hg] at h; exact h
  · cases h

/-- What reads does not see an entry that it does not know. -/
theorem step_anti {id : Nat} {i : I} (hk : i.kd = .r) (hb : ∀ x : O, (∀ a, x ≠ .c a) → (∀ t ∈ x.regs, t ∈ i.regs) → Bel H.length (ov Gl r x)) {e : Ent} {x} (h : step Gl id r (H ++ [e]) i = some x) : step Gl id r H i = some x := by
  cases i with
  | ld g y =>
    have hy : Bel H.length (ov Gl r y) := hb y (fun a ha => by subst ha; simp [I.kd] at hk) (by simp [I.regs])
    simp only [step] at h ⊢
    split at h
    · rename_i hc
      rw [cellsAt_anti hy hc]
      exact h
    · cases h
  | cvBS y =>
    have hy : Bel H.length (ov Gl r y) := hb y (fun a ha => by subst ha; simp [I.kd] at hk) (by simp [I.regs])
    simp only [step] at h ⊢
    split at h
    · rename_i hc
      rw [elems_anti hy hc]
      exact h
    · cases h
  | ia sz y z =>
    have hy : Bel H.length (ov Gl r y) := hb y (fun a ha => by subst ha; simp [I.kd] at hk) (fun t ht => by simp [I.regs, ht])
    simp only [step] at h ⊢
    split at h
    · rename_i e1 e2
      exact h
    · rename_i e1 e2
      rw [e1] at hy
      cases hy with
      | row _ _ hg => rw [List.getElem?_append_left hg] at h; exact h
    · cases h
  | cvPU y =>
    have hy : Bel H.length (ov Gl r y) := hb y (fun a ha => by subst ha; simp [I.kd] at hk) (by simp [I.regs])
    simp only [step] at h ⊢
    split at h
    · rename_i e1
      rw [e1] at hy
      cases hy with
      | ptr _ _ hg => rw [List.getElem?_append_left hg] at h; exact h
    · cases h
  | cvUP l y =>
    have hy : Bel H.length (ov Gl r y) := hb y (fun a ha => by subst ha; simp [I.kd] at hk) (by simp [I.regs])
    simp only [step] at h ⊢
    split at h
    · rename_i e1
      rw [e1] at hy
      cases hy with
      | ptr _ _ hg => rw [List.getElem?_append_left hg] at h; exact h
    · cases h
  | eqp neg y z =>
    have hy : Bel H.length (ov Gl r y) := hb y (fun a ha => by subst ha; simp [I.kd] at hk) (fun t ht => by simp [I.regs, ht])
    simp only [step] at h ⊢
    split at h
    · rename_i e1 e2
      rw [e1] at hy
      cases hy with
      | ptr _ _ hg => rw [List.getElem?_append_left hg] at h; exact h
    · cases h
  | usd y =>
    have hy : Bel H.length (ov Gl r y) := hb y (fun a ha => by subst ha; simp [I.kd] at hk) (by simp [I.regs])
    simp only [step] at h ⊢
    split at h
    · exact h
    · rename_i e1
      rw [e1] at hy
      cases hy with
      | row _ _ hg => rw [List.getElem?_append_left hg] at h; exact h
    · cases h
  | _ => simp [I.kd] at hk

theorem knows_app (H : List Ent) (e : Ent) : Knows H (H ++ [e]) := fun g x h _ => by
  rw [List.getElem?_append_left (List.getElem?_eq_some_iff.1 h).1]; exact h
end

/-! ### Effects -/
section
variable {P : Program} {Gl : Nat → AV} {r r' : Regs} {H H' : List Ent}

theorem eff_regs {o : OpI} (h : ∀ t ∈ o.i.regs, look r t = look r' t) {a : AV} (k : Eff P Gl o r H a H') : Eff P Gl o r' H a H' := by
  obtain ⟨d, i, g, q⟩ := o
  simp only at h
  have hc : ∀ {f xs}, i = .call f xs → xs.map (ov Gl r) = xs.map (ov Gl r') := fun e => by subst e; exact ovs_congr h
  have hv : ∀ {x xs}, i = .callv x xs → ov Gl r x = ov Gl r' x ∧ xs.map (ov Gl r) = xs.map (ov Gl r') := fun e => by
    subst e
    simp only [I.regs, List.mem_append] at h
    exact ⟨ov_congr fun t ht => h t (.inl ht), ovs_congr fun t ht => h t (.inr ht)⟩
  unfold Eff at k ⊢
  split at k
  · rcases k with ⟨f, xs, as, H0, h1, h2, h3⟩ | ⟨y, xs, f, cs, as, H0, h1, h2, h3, h4⟩ | ⟨u, new, h1, h2⟩
    · exact .inl ⟨f, xs, as, H0, h1, by rw [← hc h1]; exact h2, h3⟩
    · exact .inr (.inl ⟨y, xs, f, cs, as, H0, h1, (hv h1).1 ▸ h2, by rw [← (hv h1).2]; exact h3, h4⟩)
    · exact .inr (.inr ⟨u, new, by rw [← step_congr h]; exact h1, h2⟩)
  · refine ⟨k.1, ?_⟩
    rcases k.2 with ⟨f, xs, h1, h2⟩ | ⟨y, xs, f, cs, h1, h2, h3⟩
    · exact .inl ⟨f, xs, h1, by rw [← hc h1]; exact h2⟩
    · exact .inr ⟨y, xs, f, cs, h1, (hv h1).1 ▸ h2, by rw [← (hv h1).2]; exact h3⟩
  · refine ⟨k.1, ?_⟩
    rcases k.2 with ⟨f, xs, h1, h2⟩ | ⟨y, xs, f, cs, h1, h2, h3⟩ | h1
    · exact .inl ⟨f, xs, h1, fun H => by rw [← hc h1]; exact h2 H⟩
    · exact .inr (.inl ⟨y, xs, f, cs, h1, (hv h1).1 ▸ h2, fun H => by rw [← (hv h1).2]; exact h3 H⟩)
    · exact .inr (.inr (by rw [← step_congr h]; exact h1))

theorem eff_p {o : OpI} (hk : o.kd = .p) {a : AV} (k : Eff P Gl o r H a H') : H' = H ∧ ∀ H2, Eff P Gl o r H2 a H2 := by
  obtain ⟨d, i, g, q⟩ := o
  match q, hk, k with
  | 0, hk, k =>
    simp only [OpI.kd] at hk
    rcases k with ⟨f, xs, as, H0, h1, h2, h3⟩ | ⟨y, xs, f, cs, as, H0, h1, h2, h3, h4⟩ | ⟨u, new, h1, h2⟩
    · simp only at h1; subst h1; simp [I.kd] at hk
    · simp only at h1; subst h1; simp [I.kd] at hk
    · obtain ⟨rfl, rfl, h3⟩ := step_p hk h1
      exact ⟨by simpa [appU] using h2, fun H2 => .inr (.inr ⟨none, none, h3 _ _, by simp [appU]⟩)⟩
  | 1, hk, k => simp [OpI.kd] at hk
  | n + 2, hk, k => exact ⟨k.1, fun H2 => ⟨rfl, k.2⟩⟩

theorem eff_q {o : OpI} (hk : o.kd = .q) {a : AV} (k : Eff P Gl o r H a H') : H' = H := by
  obtain ⟨d, i, g, q⟩ := o
  match q, hk, k with
  | 0, hk, k =>
    exfalso
    simp only [OpI.kd] at hk
    cases i with
    | ld g x | ia sz x y | cvBS x | cvPU x | cvUP l x | eqp neg x y | usd x => cases x <;> simp [I.kd] at hk
    | _ => simp [I.kd] at hk
  | 1, hk, k => exact k.1
  | n + 2, hk, k => simp [OpI.kd] at hk

theorem eff_r {o : OpI} (hk : o.kd = .r) {a : AV} (k : Eff P Gl o r H a H') : H' = H ∧ (∀ e, Eff P Gl o r (H ++ [e]) a (H ++ [e])) := by
  obtain ⟨d, i, g, q⟩ := o
  match q, hk, k with
  | 0, hk, k =>
    simp only [OpI.kd] at hk
    rcases k with ⟨f, xs, as, H0, h1, h2, h3⟩ | ⟨y, xs, f, cs, as, H0, h1, h2, h3, h4⟩ | ⟨u, new, h1, h2⟩
    · simp only at h1; subst h1; simp [I.kd] at hk
    · simp only at h1; subst h1; simp [I.kd] at hk
    · obtain ⟨rfl, rfl⟩ := step_r hk h1
      exact ⟨by simpa [appU] using h2, fun e => .inr (.inr ⟨none, none, step_id _ (step_mono (knows_app H e) h1), by simp [appU]⟩)⟩
  | 1, hk, k => simp [OpI.kd] at hk
  | n + 2, hk, k => simp [OpI.kd] at hk

theorem eff_anti {o : OpI} (hk : o.kd = .r) (hb : ∀ x : O, (∀ a, x ≠ .c a) → (∀ t ∈ x.regs, t ∈ o.i.regs) → Bel H.length (ov Gl r x)) {a : AV} {e : Ent} (k : Eff P Gl o r (H ++ [e]) a H') : H' = H ++ [e] ∧ Eff P Gl o r H a H := by
  obtain ⟨d, i, g, q⟩ := o
  match q, hk, k with
  | 0, hk, k =>
    simp only [OpI.kd] at hk
    rcases k with ⟨f, xs, as, H0, h1, h2, h3⟩ | ⟨y, xs, f, cs, as, H0, h1, h2, h3, h4⟩ | ⟨u, new, h1, h2⟩
    · simp only at h1; subst h1; simp [I.kd] at hk
    · simp only at h1; subst h1; simp [I.kd] at hk
    · obtain ⟨rfl, rfl⟩ := step_r hk h1
      exact ⟨by simpa [appU] using h2, .inr (.inr ⟨none, none, step_id _ (step_anti hk hb h1), by simp [appU]⟩)⟩
  | 1, hk, k => simp [OpI.kd] at hk
  | n + 2, hk, k => simp [OpI.kd] at hk

theorem eff_a {o : OpI} (hk : o.kd = .a) {a : AV} (k : Eff P Gl o r H a H') : ∃ e, H' = H ++ [e] := by
  obtain ⟨d, i, g, q⟩ := o
  match q, hk, k with
  | 0, hk, k =>
    simp only [OpI.kd] at hk
    rcases k with ⟨f, xs, as, H0, h1, h2, h3⟩ | ⟨y, xs, f, cs, as, H0, h1, h2, h3, h4⟩ | ⟨u, new, h1, h2⟩
    · simp only at h1; subst h1; simp [I.kd] at hk
    · simp only at h1; subst h1; simp [I.kd] at hk
    · obtain ⟨rfl, e, rfl⟩ := step_a hk h1
      exact ⟨e, by simpa [appU] using h2⟩
  | 1, hk, k => simp [OpI.kd] at hk
  | n + 2, hk, k => simp [OpI.kd] at hk

theorem eff_swap {x y : OpI} (hk : Kd.ok x.kd y.kd = true) {a b : AV} {H1 H2 : List Ent} (hx : Eff P Gl x r H a H1) (hy : Eff P Gl y r H1 b H2)
    (hb : ∀ o : O, (∀ a, o ≠ .c a) → (∀ t ∈ o.regs, t ∈ y.i.regs) → Bel H.length (ov Gl r o)) : ∃ H1', Eff P Gl y r H b H1' ∧ Eff P Gl x r H1' a H2 := by
  by_cases h1 : x.kd = .p
  · obtain ⟨rfl, h2⟩ := eff_p h1 hx
    exact ⟨H2, hy, h2 H2⟩
  by_cases h2 : y.kd = .p
  · obtain ⟨rfl, h3⟩ := eff_p h2 hy
    exact ⟨H, h3 H, hx⟩
  have flat : ∀ {o : OpI} {K K' c}, (o.kd = .r ∨ o.kd = .q) → Eff P Gl o r K c K' → K' = K := fun h k => by
    rcases h with h | h
    · exact (eff_r h k).1
    · exact eff_q h k
  cases hx' : x.kd <;> cases hy' : y.kd <;> simp [hx', hy', Kd.ok] at hk h1 h2
  · have e1 := flat (.inl hx') hx; subst e1
    have e2 := flat (.inl hy') hy; subst e2
    exact ⟨H2, hy, hx⟩
  · have e1 := flat (.inl hx') hx; subst e1
    have e2 := flat (.inr hy') hy; subst e2
    exact ⟨H2, hy, hx⟩
  · obtain ⟨e1, h3⟩ := eff_r hx' hx; subst e1
    obtain ⟨e, he⟩ := eff_a hy' hy
    subst he
    exact ⟨_, hy, h3 e⟩
  · have e1 := flat (.inr hx') hx; subst e1
    have e2 := flat (.inl hy') hy; subst e2
    exact ⟨H2, hy, hx⟩
  · have e1 := flat (.inr hx') hx; subst e1
    have e2 := flat (.inr hy') hy; subst e2
    exact ⟨H2, hy, hx⟩
  · obtain ⟨e, he⟩ := eff_a hx' hx
    subst he
    obtain ⟨e2, h3⟩ := eff_anti hy' hb hy
    subst e2
    exact ⟨H, h3, hx⟩
end

end Go.Am
