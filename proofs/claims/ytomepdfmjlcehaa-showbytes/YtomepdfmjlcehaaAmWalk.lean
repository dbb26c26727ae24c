/- Rules for a walk through a body, one form of code at a time, what follows behind a variable. -/
import Derived.Test.YtomepdfmjlcehaaAmRuo
set_option linter.unusedVariables false
set_option linter.unusedSimpArgs false
namespace Go.Am

section
variable {P : Program} {Gl : Nat → AV} {keep : List Nat} {Q : X → Regs → List Ent → Prop} {r : Regs} {H : List Ent}

theorem ev_sk (h : Q .normal r H) : ev P Gl keep .sk Q r H := h
theorem ev_rt (h : Q .ret r H) : ev P Gl keep .rt Q r H := h
theorem ev_ex {id : Nat} (h : Q (.exit id) r H) : ev P Gl keep (.ex id) Q r H := h
theorem ev_rg {ops : List OpI} (h : ∀ K : Regs → List Ent → Prop, (∀ r H, Q .normal (keepR keep r) H → K r H) → evOps P Gl K ops r H) : ev P Gl keep (.rg ops) Q r H := h _ fun _ _ h => h
theorem ev_dr {d : DT} (h : ∀ K : Regs → List Ent → Prop, (∀ r H, Q .normal (keepR keep r) H → K r H) → evD P Gl K d r H) : ev P Gl keep (.dr d) Q r H := h _ fun _ _ h => h
theorem evOps_nil {K : Regs → List Ent → Prop} (h : K r H) : evOps P Gl K [] r H := h
theorem evOps_cons {K : Regs → List Ent → Prop} {o : OpI} {os : List OpI} (h : ∀ K' : Regs → List Ent → Prop, (∀ r H, evOps P Gl K os r H → K' r H) → evG P Gl o K' r H) : evOps P Gl K (o :: os) r H := h _ fun _ _ h => h
theorem evD_dn {K : Regs → List Ent → Prop} (h : K r H) : evD P Gl K .dn r H := h
theorem evD_op {K : Regs → List Ent → Prop} {o : OpI} {d : DT} (h : ∀ K' : Regs → List Ent → Prop, (∀ r H, evD P Gl K d r H → K' r H) → evG P Gl o K' r H) : evD P Gl K (.op o d) r H := h _ fun _ _ h => h
theorem evD_both {K : Regs → List Ent → Prop} {a b : DT} (ha : evD P Gl K a r H) (hb : evD P Gl K b r H) : evD P Gl K (.both a b) r H := ⟨ha, hb⟩
theorem evD_tt {K : Regs → List Ent → Prop} : evD P Gl K .tt r H := trivial

theorem ev_sq {a b : C} (h : ∀ Q' : X → Regs → List Ent → Prop, (∀ r H, ev P Gl keep b Q r H → Q' .normal r H) → (∀ id r H, Q (.exit id) r H → Q' (.exit id) r H) → (∀ r H, Q .ret r H → Q' .ret r H) → ev P Gl keep a Q' r H) : ev P Gl keep (.sq a b) Q r H :=
  h (fun x r' H' => match x with
    | .normal => ev P Gl keep b Q r' H'
    | x => Q x r' H') (fun _ _ h => h) (fun _ _ _ h => h) (fun _ _ h => h)

theorem ev_bl {id : Nat} {b : C} (h : ∀ Q' : X → Regs → List Ent → Prop, (∀ r H, Q .normal r H → Q' .normal r H) → (∀ id' r H, (if id' = id then Q .normal r H else Q (.exit id') r H) → Q' (.exit id') r H) → (∀ r H, Q .ret r H → Q' .ret r H) → ev P Gl keep b Q' r H) : ev P Gl keep (.bl id b) Q r H :=
  h (fun x r' H' => match x with
    | .exit id' => if id' = id then Q .normal r' H' else Q (.exit id') r' H'
    | x => Q x r' H') (fun _ _ h => h) (fun _ _ _ h => h) (fun _ _ h => h)

theorem ev_cd {c : O} {a b : C} {t : Bool} (hc : ov Gl r c = .bo t) (ha : t = true → ev P Gl keep a Q r H) (hb : t = false → ev P Gl keep b Q r H) : ev P Gl keep (.cd c a b) Q r H := by
  simp only [ev]
  rw [hc]
  exact ⟨ha, hb⟩

/-- A loop, its states numbered by data, with a measure. -/
theorem ev_lp {α : Type} (S : α → Regs × List Ent) (ok : α → Prop) (μ : α → Nat) {b : C} (a : α) (h0 : ok a) (hr : r = (S a).1) (hH : H = (S a).2)
    (h : ∀ a, ok a → ∀ Q' : X → Regs → List Ent → Prop, (∀ a' r H, ok a' → μ a' < μ a → r = (S a').1 → H = (S a').2 → Q' .normal r H) → (∀ id r H, Q (.exit id) r H → Q' (.exit id) r H) → (∀ r H, Q .ret r H → Q' .ret r H) → ev P Gl keep b Q' (S a).1 (S a).2) :
    ev P Gl keep (.lp b) Q r H := by
  subst hr; subst hH
  intro I hI
  have key : ∀ (n : Nat) (a : α), ok a → μ a = n → I (S a).1 (S a).2 := by
    intro n
    induction n using Nat.strongRecOn with
    | _ n ih =>
      intro a ha hn
      refine hI _ _ (h a ha _ (fun a' r H h1 h2 h3 h4 => ?_) (fun _ _ _ h => h) (fun _ _ h => h))
      subst h3; subst h4
      exact ih (μ a') (hn ▸ h2) a' h1 rfl
  exact key _ a h0 rfl

/-- A call, its arguments as they are. -/
theorem evI_call {f : FuncId} {xs : List O} {K : AV → List Ent → Prop} {args : List AV} {res : AV} {H' : List Ent} (ha : xs.map (ov Gl r) = args) (hc : Con P Gl f args H res H') (hK : K res H') : evI P Gl (.call f xs) K r H :=
  ⟨args, H, res, H', ha ▸ FrzL.same _ _, hc, hK⟩
theorem evR_call {f : FuncId} {xs : List O} {K : AV → List Ent → Prop} {args : List AV} {res : AV} (ha : xs.map (ov Gl r) = args) (hc : Con P Gl f args H res H) (hK : K res H) : evR P Gl (.call f xs) K r H :=
  ⟨res, ha ▸ hc, hK⟩
theorem evQ_call {f : FuncId} {xs : List O} {K : AV → List Ent → Prop} {args : List AV} {res : AV} (ha : xs.map (ov Gl r) = args) (hc : ∀ H, Con P Gl f args H res H) (hK : K res H) : evQ P Gl (.call f xs) K r H :=
  ⟨res, fun H => ha ▸ hc H, hK⟩
end

/-- A function whose arguments and whose answer lead nowhere, walked at the empty heap. -/
theorem FnOk.all {P : Program} {Gl : Nat → AV} {f : FuncId} {t : FnT} (h : FnOk P f t) (hm : P.follows .mixedOrders = true) (hg : ∀ n, Bel 0 (Gl n)) {args : List AV} (hl : args.length ≤ t.nt) {res : AV} (ha : ∀ a ∈ args, Bel 0 a) (hr : Bel 0 res)
    (he : ∀ Q : X → Regs → List Ent → Prop, (∀ r H1, (∃ a H2, resA H1 r t.rl = some a ∧ FrzV H1 a res H2) → Q .normal r H1) → (∀ r H1, (∃ a H2, resA H1 r t.rl = some a ∧ FrzV H1 a res H2) → Q .ret r H1) → ev P Gl t.keep t.c Q (initR 0 args) []) (H : List Ent) : Con P Gl f args H res H := by
  have key : Con P Gl f args [] res [] := h.con hm hl t.keep (he _ (fun r H1 ⟨a, H2, h1, h2⟩ => ⟨a, H2, h1, h2, ⟨⟨H2, rfl⟩, Nat.le_refl _, hr, fun g e hg => by simp at hg⟩⟩) (fun r H1 ⟨a, H2, h1, h2⟩ => ⟨a, H2, h1, h2, ⟨⟨H2, rfl⟩, Nat.le_refl _, hr, fun g e hg => by simp at hg⟩⟩))
  exact key.all hg ha hr H

end Go.Am
