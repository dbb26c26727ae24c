/- What a function's code comes to, as a condition on abstract states; contracts of functions. -/
import Derived.Test.YtomepdfmjlcehaaAmSimL
set_option linter.unusedVariables false
set_option linter.unusedSimpArgs false
namespace Go.Am

/-- One heap knows all that another one knows. -/
def Knows (H H2 : List Ent) : Prop := ∀ (g : Nat) (e : Ent), H[g]? = some e → e ≠ .res → H2[g]? = some e

theorem cellsAt_mono {H H2 : List Ent} (h : Knows H H2) {a : AV} {x} (k : cellsAt H a = some x) : cellsAt H2 a = some x := by
  unfold cellsAt at k ⊢
  split at k
  · split at k
    · rename_i hg
      simp only [h _ _ hg (by simp)]
      exact k
    · cases k
  · split at k
    · rename_i hg
      simp only [h _ _ hg (by simp)]
      exact k
    · cases k
  · exact k
  · cases k

theorem elems_mono {H H2 : List Ent} (h : Knows H H2) {a : AV} {x} (k : elems H a = some x) : elems H2 a = some x := by
  unfold elems at k ⊢
  split at k
  · exact k
  · exact k
  · split at k
    · rename_i hg
      simp only [h _ _ hg (by simp)]
      exact k
    · cases k
  · cases k

theorem s_store_mono {H H2 : List Ent} (h : Knows H H2) {n : Nat} {a x : AV} {u} (k : s_store H n a x = some u) : s_store H2 n a x = some u := by
  unfold s_store at k ⊢
  split at k
  · rename_i hc
    rw [if_pos hc]
    split at k
    · split at k
      · rename_i hg
        simp only [h _ _ hg (by simp)]
        exact k
      · cases k
    · split at k
      · rename_i hg
        simp only [h _ _ hg (by simp)]
        exact k
      · cases k
    · cases k
  · cases k

theorem s_eq_heap (H H2 : List Ent) (d : EqD) (a b : AV) : s_eq H d a b = s_eq H2 d a b := rfl

theorem step_mono {Gl : Nat → AV} {id : Nat} {r : Regs} {H H2 : List Ent} (h : Knows H H2) {i : I} {x} (k : step Gl id r H i = some x) : step Gl id r H2 i = some x := by
  cases i with
  | cvMk y =>
    simp only [step] at k ⊢
    split at k
    · split at k
      · rename_i hg
        simp only [h _ _ hg (by simp)]
        exact k
      · cases k
    · cases k
  | ld g a =>
    simp only [step] at k ⊢
    split at k
    · rename_i hc
      rw [cellsAt_mono h hc]
      exact k
    · cases k
  | stv n a y =>
    simp only [step] at k ⊢
    split at k
    · rename_i hc
      rw [s_store_mono h hc]
      exact k
    · cases k
  | cvBS y =>
    simp only [step] at k ⊢
    split at k
    · rename_i hc
      rw [elems_mono h hc]
      exact k
    · cases k
  | slA e sz y lo hi =>
    simp only [step] at k ⊢
    split at k
    · exact k
    · split at k
      · rename_i hg
        simp only [h _ _ hg (by simp)]
        exact k
      · cases k
    · cases k
  | ia sz y z =>
    simp only [step] at k ⊢
    split at k
    · exact k
    · split at k
      · rename_i hg
        simp only [h _ _ hg (by simp)]
        exact k
      · cases k
    · cases k
  | app e sz bytes str y z =>
    simp only [step] at k ⊢
    have src : ∀ {ys}, srcOf H str (ov Gl r z) = some ys → srcOf H2 str (ov Gl r z) = some ys := by
      intro ys hy
      cases str
      · exact elems_mono h hy
      · exact hy
    split at k
    · rename_i ys hys
      rw [src hys]
      split at k
      · rename_i hok
        simp only [if_pos hok]
        split at k
        · split at k
          · rename_i hg
            simp only [h _ _ hg (by simp)]
            exact k
          · cases k
        · exact k
        · cases k
      · cases k
    · cases k
  | nxt y =>
    simp only [step] at k ⊢
    split at k
    · split at k
      · rename_i hg
        simp only [h _ _ hg (by simp)]
        exact k
      · cases k
    · cases k
  | len b y => cases b <;> exact k
  | cvPU y =>
    simp only [step] at k ⊢
    split at k
    · split at k
      · rename_i hg
        simp only [h _ _ hg (by simp)]
        exact k
      · cases k
    · cases k
  | cvUP l y =>
    simp only [step] at k ⊢
    split at k
    · split at k
      · rename_i hg
        simp only [h _ _ hg (by simp)]
        exact k
      · cases k
    · cases k
  | eqp neg y z =>
    simp only [step] at k ⊢
    split at k
    · split at k
      · rename_i hg
        simp only [h _ _ hg (by simp)]
        exact k
      · cases k
    · cases k
  | usd y =>
    simp only [step] at k ⊢
    split at k
    · exact k
    · split at k
      · rename_i hg
        simp only [h _ _ hg (by simp)]
        exact k
      · cases k
    · cases k
  | ust e y z =>
    simp only [step] at k ⊢
    split at k
    · exact k
    · split at k
      · rename_i hg
        simp only [h _ _ hg (by simp)]
        exact k
      · cases k
    · cases k
  | _ => exact k

mutual
/-- How a value is frozen: rows turn into slices that are read. -/
inductive FrzV : List Ent → AV → AV → List Ent → Prop
  | same (H a) : FrzV H a a H
  | nl (H) : FrzV H .nl (.sl []) H
  | row {H g n e sz xs f xs' H2} : H[g]? = some (.row e sz xs f) → xs.length = n → FrzL (H.set g (.row e sz xs xs.length)) xs xs' H2 → FrzV H (.row g n) (.sl xs') H2
  | ag {H cs cs' H2} : FrzL H cs cs' H2 → FrzV H (.ag cs) (.ag cs') H2
  | tp {H cs cs' H2} : FrzL H cs cs' H2 → FrzV H (.tp cs) (.tp cs') H2
inductive FrzL : List Ent → List AV → List AV → List Ent → Prop
  | nil (H) : FrzL H [] [] H
  | cons {H a b H1 as bs H2} : FrzV H a b H1 → FrzL H1 as bs H2 → FrzL H (a :: as) (b :: bs) H2
end

theorem FrzL.same : ∀ (H : List Ent) (as : List AV), FrzL H as as H
  | H, [] => .nil H
  | H, a :: as => .cons (.same H a) (FrzL.same H as)

/-- A function with a body. -/
def Callee (P : Program) (f : FuncId) : Prop := ∃ fn, P.funcs[f]? = some fn ∧ fn.body.isSome = true ∧ (fn.name == "runtime.NumGoroutine") = false

/-- What a call of a function comes to. -/
structure Con (P : Program) (Gl : Nat → AV) (f : FuncId) (args : List AV) (H : List Ent) (res : AV) (H' : List Ent) : Prop where
  has : Callee P f
  run : ∀ (K : Nat → Nat → Option Value) (γ : Nat → Option (Nat × Nat)) (w : World) (vs : Array Value), St ⟨K, γ, H⟩ w → GlOk ⟨K, γ, H⟩ Gl → vs.size = args.length →
    (∀ (j : Nat) (v : Value) (c : AV), vs[j]? = some v → args[j]? = some c → Rl ⟨K, γ, H⟩ v c) →
    Calls P f vs w fun e w' => ∃ v K' γ', e = .returned v ∧ St ⟨K', γ', H'⟩ w' ∧ Wf ⟨K, γ, H⟩ w ⟨K', γ', H'⟩ w' ∧ Rl ⟨K', γ', H'⟩ v res

inductive X where
  | normal
  | exit (id : Nat)
  | ret

def putR (d : Option Nat) (a : AV) (r : Regs) : Regs := match d with
  | some t => (t, a) :: r
  | none => r

section
variable (P : Program) (Gl : Nat → AV)

def evI (i : I) (K : AV → List Ent → Prop) (r : Regs) (H : List Ent) : Prop :=
  match i with
  | .call f xs => ∃ as H0 res H1, FrzL H (xs.map (ov Gl r)) as H0 ∧ Con P Gl f as H0 res H1 ∧ K res H1
  | .callv x xs => match ov Gl r x with
    | .fn f cs => ∃ as H0 res H1, FrzL H (xs.map (ov Gl r) ++ cs) as H0 ∧ Con P Gl f as H0 res H1 ∧ K res H1
    | _ => False
  | i => match step Gl H.length r H i with
    | some (a, u, none) => K a (appU H u)
    | some (a, u, some e) => K a (appU H u ++ [e])
    | none => False

def evR (i : I) (K : AV → List Ent → Prop) (r : Regs) (H : List Ent) : Prop :=
  match i with
  | .call f xs => ∃ res, Con P Gl f (xs.map (ov Gl r)) H res H ∧ K res H
  | .callv x xs => match ov Gl r x with
    | .fn f cs => ∃ res, Con P Gl f (xs.map (ov Gl r) ++ cs) H res H ∧ K res H
    | _ => False
  | _ => False

def evQ (i : I) (K : AV → List Ent → Prop) (r : Regs) (H : List Ent) : Prop :=
  match i with
  | .call f xs => ∃ res, (∀ H, Con P Gl f (xs.map (ov Gl r)) H res H) ∧ K res H
  | .callv x xs => match ov Gl r x with
    | .fn f cs => ∃ res, (∀ H, Con P Gl f (xs.map (ov Gl r) ++ cs) H res H) ∧ K res H
    | _ => False
  | i => match step Gl 0 r [] i with
    | some (a, none, none) => K a H
    | _ => False

def evOp (o : OpI) (K : AV → List Ent → Prop) (r : Regs) (H : List Ent) : Prop :=
  match o.q with
  | 0 => evI P Gl o.i K r H
  | 1 => evR P Gl o.i K r H
  | _ => evQ P Gl o.i K r H

def evG (o : OpI) (K : Regs → List Ent → Prop) (r : Regs) (H : List Ent) : Prop :=
  match o.g with
  | none => evOp P Gl o (fun a H1 => K (putR o.dst a r) H1) r H
  | some (d, b) => match look r d with
    | .bo c => (c = b → evOp P Gl o (fun a H1 => K (putR o.dst a r) H1) r H) ∧ (c ≠ b → K (putR o.dst .un r) H)
    | _ => False

def evOps (K : Regs → List Ent → Prop) : List OpI → Regs → List Ent → Prop
  | [], r, H => K r H
  | o :: os, r, H => evG P Gl o (evOps K os) r H

def evD (K : Regs → List Ent → Prop) : DT → Regs → List Ent → Prop
  | .dn, r, H => K r H
  | .op o d, r, H => evG P Gl o (evD K d) r H
  | .both a b, r, H => evD K a r H ∧ evD K b r H
  | .tt, _, _ => True

/-- The registers that are kept. -/
def keepR (l : List Nat) (r : Regs) : Regs := l.map fun t => (t, look r t)

def ev (keep : List Nat) : C → (X → Regs → List Ent → Prop) → Regs → List Ent → Prop
  | .sk, Q, r, H => Q .normal r H
  | .rg ops, Q, r, H => evOps P Gl (fun r' H' => Q .normal (keepR keep r') H') ops r H
  | .dr d, Q, r, H => evD P Gl (fun r' H' => Q .normal (keepR keep r') H') d r H
  | .sq a b, Q, r, H => ev keep a (fun x r' H' => match x with
    | .normal => ev keep b Q r' H'
    | x => Q x r' H') r H
  | .cd c a b, Q, r, H => match ov Gl r c with
    | .bo t => (t = true → ev keep a Q r H) ∧ (t = false → ev keep b Q r H)
    | _ => False
  | .bl id b, Q, r, H => ev keep b (fun x r' H' => match x with
    | .exit id' => if id' = id then Q .normal r' H' else Q (.exit id') r' H'
    | x => Q x r' H') r H
  | .lp b, Q, r, H => ∀ I : Regs → List Ent → Prop, (∀ r H, ev keep b (fun x r' H' => match x with
    | .normal => I r' H'
    | x => Q x r' H') r H → I r H) → I r H
  | .ex id, Q, r, H => Q (.exit id) r H
  | .rt, Q, r, H => Q .ret r H
  | .rf, _, _, _ => False
end

end Go.Am
