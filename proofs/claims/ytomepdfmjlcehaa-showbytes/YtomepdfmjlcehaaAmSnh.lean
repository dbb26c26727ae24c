/- Operations in the order of the text. -/
import Derived.Test.YtomepdfmjlcehaaAmSng
set_option linter.unusedVariables false
set_option linter.unusedSimpArgs false
namespace Go.Am

/-- An operation and its instruction. -/
structure Cop (P : Program) (nt : Nat) (ops : Array Oper) (o : Oper) (c : OpI) : Prop where
  i : (cNil P o.type o.op).or (cI P o.op) = some c.i
  dst : c.dst = o.dst
  lt : ∀ d, o.dst = some d → d < nt
  g : (o.guard = none ∧ c.g = none) ∨ ∃ j b d, o.guard = some (j, b) ∧ (ops[j]?).bind (·.dst) = some d ∧ c.g = some (d, b)

theorem cop_of {P : Program} {nt : Nat} {ops : Array Oper} {o : Oper} {c : OpI} (h : cOp P nt ops o = some c) : Cop P nt ops o c := by
  unfold cOp at h
  split at h
  · cases h
  · rename_i i hi
    split at h
    · rename_i hd
      have hlt : ∀ d, o.dst = some d → d < nt := fun d e => by rw [e] at hd; simpa using hd
      split at h
      · rename_i hg
        injection h with h
        subst h
        exact ⟨hi, rfl, hlt, .inl ⟨hg, rfl⟩⟩
      · rename_i j b hg
        split at h
        · rename_i d hd'
          injection h with h
          subst h
          exact ⟨hi, rfl, hlt, .inr ⟨j, b, d, hg, hd', rfl⟩⟩
        · cases h
    · cases h

theorem Cop.q {P : Program} {nt : Nat} {ops : Array Oper} {o : Oper} {c : OpI} (h : Cop P nt ops o c) (q : Nat) : Cop P nt ops o { c with q := q } := ⟨h.i, h.dst, h.lt, h.g⟩

theorem regs_put {G : Gho} {a : Act} {r : Regs} (h : RegsOk G a.tmps r) {d : Option Nat} {v : Value} {x : AV} (hv : Rl G v x) (hd : ∀ t, d = some t → t < a.tmps.size) : RegsOk G (a.put d v).tmps (putR d x r) := by
  cases d with
  | none => exact h
  | some t =>
    intro u
    simp only [Act.put, putR, look]
    by_cases e : t = u
    · subst e
      have := hd t rfl
      simp [this]
      exact hv
    · simp [e, Array.getElem?_setIfInBounds_ne e]
      have := h u
      simpa using this

theorem put_size (a : Act) (d : Option Nat) (v : Value) : (a.put d v).tmps.size = a.tmps.size := by cases d <;> simp [Act.put]
theorem put_defers (a : Act) (d : Option Nat) (v : Value) : (a.put d v).defers = a.defers := by cases d <;> rfl

section
variable {P : Program} {Gl : Nat → AV} {nt : Nat} {G0 : Gho} {w0 : World} {a : Act} {w : World} {r : Regs} {H : List Ent} {ops : Array Oper}

theorem gate_ok {G : Gho} (hr : RegsOk G a.tmps r) {o : Oper} {c : OpI} (hc : Cop P nt ops o c) {b : Bool} (h : gate c r = some b) : Region.wanted o (yielded ops a.tmps) = b := by
  rcases hc.g with ⟨h1, h2⟩ | ⟨j, b', d, h1, h2, h3⟩
  · unfold gate at h
    rw [h2] at h
    injection h with h
    subst h
    simp [Region.wanted, h1]
  · unfold gate at h
    rw [h3] at h
    simp only at h
    split at h
    · rename_i c' hl
      injection h with h
      subst h
      have hv := hr d
      rw [hl] at hv
      have hget : a.tmps[d]? = some (.bool c') := by
        cases hv' : a.tmps[d]? with
        | none =>
          rw [Array.getD_eq_getD_getElem?, hv'] at hv
          cases hv
        | some v =>
          rw [Array.getD_eq_getD_getElem?, hv'] at hv
          simp only [Option.getD_some] at hv
          cases hv
          rfl
      simp only [Region.wanted, h1, yielded, h2, Option.bind_some, hget]
      cases c' <;> cases b' <;> rfl
    · cases h

/-- One operation, its guard looked at. -/
theorem op1_sound {o : Oper} {c : OpI} (hc : Cop P nt ops o c) (iv : Iv Gl nt G0 w0 a w r H) {r' : Regs} {H' : List Ent} (h : Op1 P Gl c r H r' H')
    {N : Act → World → Prop} {Q : Exit → Act → World → Prop} (hN : ∀ a' w', Iv Gl nt G0 w0 a' w' r' H' → N a' w') :
    if Region.wanted o (yielded ops a.tmps) then o.wp P a w N Q ∨ (o.asks P a w ∧ LetsOut Q) else N (a.put o.dst undef) w := by
  have iv' := iv
  obtain ⟨K, γ, st, wf, hr, hg, hsz, hd⟩ := iv'
  rcases h with ⟨h1, x, h2, rfl⟩ | ⟨h1, rfl, rfl⟩
  · rw [gate_ok hr hc h1]
    simp only [if_true]
    refine .inl (eff_sound hc.i iv h2 fun v w' hl => hN _ _ ?_)
    obtain ⟨K', γ', k1, k2, k3, k4, k5⟩ := hl
    refine ⟨K', γ', k1, k2, ?_, k4, by rw [put_size, hsz], by rw [put_defers, hd]⟩
    rw [hc.dst]
    exact regs_put k3 k5 fun t e => by rw [hsz]; exact hc.lt t e
  · rw [gate_ok hr hc h1]
    simp only [Bool.false_eq_true, if_false]
    refine hN _ _ ⟨K, γ, st, wf, ?_, hg, by rw [put_size, hsz], by rw [put_defers, hd]⟩
    rw [hc.dst]
    exact regs_put hr (.un _) fun t e => by rw [hsz]; exact hc.lt t e

theorem mapM'_cons {α β : Type} {f : α → Option β} {a : α} {l : List α} {m : List β} (h : mapM' f (a :: l) = some m) : ∃ b m', m = b :: m' ∧ f a = some b ∧ mapM' f l = some m' := by
  simp only [mapM'] at h
  split at h
  · cases h
  · split at h
    · cases h
    · injection h with h
      exact ⟨_, _, h.symm, ‹_›, ‹_›⟩

theorem evOps_sound {Q : Exit → Act → World → Prop} {K : Regs → List Ent → Prop} (hK : ∀ a w r H, Iv Gl nt G0 w0 a w r H → K r H → Q .normal a w) :
    ∀ (l : List Oper) (cs : List OpI) (a : Act) (w : World) (r : Regs) (H : List Ent), mapM' (cOp P nt ops) l = some cs → Iv Gl nt G0 w0 a w r H → evOps P Gl K cs r H → wpList P ops Q l a w := by
  intro l
  induction l with
  | nil =>
    intro cs a w r H hm iv h
    simp only [mapM', Option.some.injEq] at hm
    subst hm
    exact hK a w r H iv h
  | cons o l ih =>
    intro cs a w r H hm iv h
    obtain ⟨c, cs', rfl, hc, hm'⟩ := mapM'_cons hm
    obtain ⟨r', H', h1, h2⟩ := evG_op1 P Gl h
    unfold wpList
    exact op1_sound (cop_of hc) iv h1 fun a' w' iv' => ih cs' a' w' r' H' hm' iv' h2
end

end Go.Am
