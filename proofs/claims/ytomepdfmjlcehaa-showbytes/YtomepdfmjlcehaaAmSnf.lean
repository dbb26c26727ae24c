/- One operation, as the machine carries it out and as it is told. -/
import Derived.Test.YtomepdfmjlcehaaAmSne
set_option linter.unusedVariables false
set_option linter.unusedSimpArgs false
namespace Go.Am

section
variable (P : Program) (Gl : Nat → AV)

/-- What an operation that is carried out comes to: its value, and the heap. -/
def Eff (o : OpI) (r : Regs) (H : List Ent) (a : AV) (H' : List Ent) : Prop :=
  match o.q with
  | 0 => (∃ f xs as H0, o.i = .call f xs ∧ FrzL H (xs.map (ov Gl r)) as H0 ∧ Con P Gl f as H0 a H') ∨
    (∃ x xs f cs as H0, o.i = .callv x xs ∧ ov Gl r x = .fn f cs ∧ FrzL H (xs.map (ov Gl r) ++ cs) as H0 ∧ Con P Gl f as H0 a H') ∨
    (∃ u new, step Gl H.length r H o.i = some (a, u, new) ∧ H' = appU H u ++ new.toList)
  | 1 => H' = H ∧ ((∃ f xs, o.i = .call f xs ∧ Con P Gl f (xs.map (ov Gl r)) H a H) ∨
    (∃ x xs f cs, o.i = .callv x xs ∧ ov Gl r x = .fn f cs ∧ Con P Gl f (xs.map (ov Gl r) ++ cs) H a H))
  | _ => H' = H ∧ ((∃ f xs, o.i = .call f xs ∧ ∀ H, Con P Gl f (xs.map (ov Gl r)) H a H) ∨
    (∃ x xs f cs, o.i = .callv x xs ∧ ov Gl r x = .fn f cs ∧ ∀ H, Con P Gl f (xs.map (ov Gl r) ++ cs) H a H) ∨ step Gl 0 r [] o.i = some (a, none, none))

theorem evI_eff {i : I} {K : AV → List Ent → Prop} {r : Regs} {H : List Ent} (h : evI P Gl i K r H) {d g} : ∃ a H', Eff P Gl ⟨d, i, g, 0⟩ r H a H' ∧ K a H' := by
  have fin : ∀ j : I, (match step Gl H.length r H j with
      | some (a, u, none) => K a (appU H u)
      | some (a, u, some e) => K a (appU H u ++ [e])
      | none => False) → ∃ a H', Eff P Gl ⟨d, j, g, 0⟩ r H a H' ∧ K a H' := by
    intro j hj
    split at hj
    · rename_i a u hs
      exact ⟨a, _, .inr (.inr ⟨u, none, hs, rfl⟩), by simpa using hj⟩
    · rename_i a u e hs
      exact ⟨a, _, .inr (.inr ⟨u, some e, hs, rfl⟩), by simpa using hj⟩
    · exact hj.elim
  cases i with
  | call f xs =>
    obtain ⟨as, H0, res, H1, h1, h2, h3⟩ := h
    exact ⟨res, H1, .inl ⟨f, xs, as, H0, rfl, h1, h2⟩, h3⟩
  | callv x xs =>
    simp only [evI] at h
    split at h
    · rename_i f cs e
      obtain ⟨as, H0, res, H1, h1, h2, h3⟩ := h
      exact ⟨res, H1, .inr (.inl ⟨x, xs, f, cs, as, H0, rfl, e, h1, h2⟩), h3⟩
    · exact h.elim
  | _ => exact fin _ h

theorem evQ_eff {i : I} {K : AV → List Ent → Prop} {r : Regs} {H : List Ent} (h : evQ P Gl i K r H) {d g n} : ∃ a H', Eff P Gl ⟨d, i, g, n + 2⟩ r H a H' ∧ K a H' := by
  have fin : ∀ j : I, (match step Gl 0 r [] j with
      | some (a, none, none) => K a H
      | _ => False) → ∃ a H', Eff P Gl ⟨d, j, g, n + 2⟩ r H a H' ∧ K a H' := by
    intro j hj
    split at hj
    · rename_i a hs
      exact ⟨a, H, ⟨rfl, .inr (.inr hs)⟩, hj⟩
    · exact hj.elim
  cases i with
  | call f xs =>
    obtain ⟨res, h1, h2⟩ := h
    exact ⟨res, H, ⟨rfl, .inl ⟨f, xs, rfl, h1⟩⟩, h2⟩
  | callv x xs =>
    simp only [evQ] at h
    split at h
    · rename_i f cs e
      obtain ⟨res, h1, h2⟩ := h
      exact ⟨res, H, ⟨rfl, .inr (.inl ⟨x, xs, f, cs, rfl, e, h1⟩)⟩, h2⟩
    · exact h.elim
  | _ => exact fin _ h

theorem evR_eff {i : I} {K : AV → List Ent → Prop} {r : Regs} {H : List Ent} (h : evR P Gl i K r H) {d g} : ∃ a H', Eff P Gl ⟨d, i, g, 1⟩ r H a H' ∧ K a H' := by
  cases i with
  | call f xs =>
    obtain ⟨res, h1, h2⟩ := h
    exact ⟨res, H, ⟨rfl, .inl ⟨f, xs, rfl, h1⟩⟩, h2⟩
  | callv x xs =>
    simp only [evR] at h
    split at h
    · rename_i f cs e
      obtain ⟨res, h1, h2⟩ := h
      exact ⟨res, H, ⟨rfl, .inr ⟨x, xs, f, cs, rfl, e, h1⟩⟩, h2⟩
    · exact h.elim
  | _ => exact h.elim

theorem evOp_eff {o : OpI} {K : AV → List Ent → Prop} {r : Regs} {H : List Ent} (h : evOp P Gl o K r H) : ∃ a H', Eff P Gl o r H a H' ∧ K a H' := by
  obtain ⟨d, i, g, q⟩ := o
  unfold evOp at h
  match q, h with
  | 0, h => exact evI_eff P Gl h
  | 1, h => exact evR_eff P Gl h
  | n + 2, h => exact evQ_eff P Gl h

/-- Whether an operation is carried out. -/
def gate (o : OpI) (r : Regs) : Option Bool := match o.g with
  | none => some true
  | some (d, b) => match look r d with
    | .bo c => some (c == b)
    | _ => none

def Op1 (o : OpI) (r : Regs) (H : List Ent) (r' : Regs) (H' : List Ent) : Prop :=
  (gate o r = some true ∧ ∃ a, Eff P Gl o r H a H' ∧ r' = putR o.dst a r) ∨ (gate o r = some false ∧ H' = H ∧ r' = putR o.dst .un r)

theorem evG_op1 {o : OpI} {K : Regs → List Ent → Prop} {r : Regs} {H : List Ent} (h : evG P Gl o K r H) : ∃ r' H', Op1 P Gl o r H r' H' ∧ K r' H' := by
  unfold evG at h
  split at h
  · rename_i hg
    obtain ⟨a, H', h1, h2⟩ := evOp_eff P Gl h
    exact ⟨_, _, .inl ⟨by simp [gate, hg], a, h1, rfl⟩, h2⟩
  · rename_i d b hg
    split at h
    · rename_i c hc
      by_cases e : c = b
      · obtain ⟨a, H', h1, h2⟩ := evOp_eff P Gl (h.1 e)
        exact ⟨_, _, .inl ⟨by simp [gate, hg, hc, e], a, h1, rfl⟩, h2⟩
      · exact ⟨_, _, .inr ⟨by simp [gate, hg, hc, e], rfl, rfl⟩, h.2 e⟩
    · exact h.elim
end

/-! ### As the machine carries it out -/

/-- Where a walk stands. -/
def Iv (Gl : Nat → AV) (nt : Nat) (G0 : Gho) (w0 : World) (a : Act) (w : World) (r : Regs) (H : List Ent) : Prop :=
  ∃ K γ, St ⟨K, γ, H⟩ w ∧ Wf G0 w0 ⟨K, γ, H⟩ w ∧ RegsOk ⟨K, γ, H⟩ a.tmps r ∧ GlOk ⟨K, γ, H⟩ Gl ∧ a.tmps.size = nt ∧ a.defers = []

theorem run_callFunc {P : Program} {f : FuncId} (h : Callee P f) (args : Array Value) (w : World) : (callFunc f args).run P w = .ok (.enter f args) w := by
  obtain ⟨fn, h1, h2, h3⟩ := h
  have h4 : fn.body.isNone = false := by cases hb : fn.body with
    | none => rw [hb] at h2; cases h2
    | some c => rfl
  have h5 : fn.name ≠ "runtime.NumGoroutine" := by simpa using h3
  have h6 : fn.body ≠ none := by intro e; rw [e] at h2; cases h2
  simp [callFunc, h1, h5, h6]

theorem cI_call {P : Program} {op : Op} {t : TypeId} {f : FuncId} {xs : List O} (h : (cNil P t op).or (cI P op) = some (.call f xs)) :
    ∃ c, op = .call c ∧ c.callee = .value (.func f) ∧ mapM' cO c.args.toList = some xs ∧ Callee P f := by
  have hn : cNil P t op ≠ some (.call f xs) := by
    intro e
    unfold cNil at e
    split at e
    · split at e
      · rename_i hp
        cases hi : P.info? _ with
        | none => rw [hi] at e; cases e
        | some i => rw [hi] at e; cases e
      · cases e
    · cases e
  have h' : cI P op = some (.call f xs) := by
    cases hc : cNil P t op with
    | none => rw [hc] at h; exact h
    | some x => rw [hc] at h hn; exact absurd h hn
  clear h hn
  cases op with
  | call c =>
    refine ⟨c, rfl, ?_⟩
    simp only [cI, cCall] at h'
    split at h'
    · rename_i f' hcal
      split at h'
      · rename_i fn hfn
        split at h'
        · rename_i hb
          cases hm : mapM' cO c.args.toList with
          | none => rw [hm] at h'; cases h'
          | some m =>
            rw [hm] at h'
            simp only [Option.map_some, Option.some.injEq, I.call.injEq] at h'
            obtain ⟨rfl, rfl⟩ := h'
            simp only [Bool.and_eq_true, Bool.not_eq_true'] at hb
            exact ⟨hcal, rfl, fn, hfn, hb.1, hb.2⟩
        · exfalso; (repeat' split at h') <;> first | (cases h'; done) | (simp [Option.map_eq_some_iff] at h'; done)
      · cases h'
    · split at h'
      · cases hm : mapM' cO c.args.toList <;> rw [hm] at h' <;> simp at h'
      · cases h'
    all_goals first
      | (cases h'; done)
      | (exfalso; cases hm : mapM' cO c.args.toList <;> rw [hm] at h' <;> simp at h'; done)
      | (exfalso; (repeat' split at h') <;> first | (cases h'; done) | (simp [Option.map_eq_some_iff] at h'; done))
  | _ =>
    exfalso
    simp only [cI] at h'
    (repeat' split at h') <;> first | (cases h'; done) | (simp [Option.map_eq_some_iff] at h'; done) | (rename_i e; cases e; done) | skip

theorem cI_callv {P : Program} {op : Op} {t : TypeId} {x : O} {xs : List O} (h : (cNil P t op).or (cI P op) = some (.callv x xs)) :
    ∃ c y, op = .call c ∧ c.callee = .value y ∧ cO y = some x ∧ mapM' cO c.args.toList = some xs := by
  have hn : cNil P t op ≠ some (.callv x xs) := by
    intro e
    unfold cNil at e
    split at e
    · split at e
      · rename_i hp
        cases hi : P.info? _ with
        | none => rw [hi] at e; cases e
        | some i => rw [hi] at e; cases e
      · cases e
    · cases e
  have h' : cI P op = some (.callv x xs) := by
    cases hc : cNil P t op with
    | none => rw [hc] at h; exact h
    | some x => rw [hc] at h hn; exact absurd h hn
  clear h hn
  cases op with
  | call c =>
    refine ⟨c, ?_⟩
    simp only [cI, cCall] at h'
    split at h'
    · split at h'
      · split at h'
        · cases hm : mapM' cO c.args.toList <;> rw [hm] at h' <;> simp at h'
        · exfalso; (repeat' split at h') <;> first | (cases h'; done) | (simp [Option.map_eq_some_iff] at h'; done)
      · cases h'
    · rename_i y hne hcal
      split at h'
      · rename_i z hz
        cases hm : mapM' cO c.args.toList with
        | none => rw [hm] at h'; cases h'
        | some m =>
          rw [hm] at h'
          simp only [Option.map_some, Option.some.injEq, I.callv.injEq] at h'
          obtain ⟨rfl, rfl⟩ := h'
          exact ⟨y, rfl, hcal, hz, rfl⟩
      · cases h'
    all_goals first
      | (cases h'; done)
      | (exfalso; cases hm : mapM' cO c.args.toList <;> rw [hm] at h' <;> simp at h'; done)
      | (exfalso; (repeat' split at h') <;> first | (cases h'; done) | (simp [Option.map_eq_some_iff] at h'; done))
  | _ =>
    exfalso
    simp only [cI] at h'
    (repeat' split at h') <;> first | (cases h'; done) | (simp [Option.map_eq_some_iff] at h'; done) | (rename_i e; cases e; done) | skip

end Go.Am
