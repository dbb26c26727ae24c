/- The interpreter with calls. -/
import Derived.Test.YtomepdfmjlcehaaAmRun
set_option linter.unusedVariables false
set_option linter.unusedSimpArgs false
namespace Go.Am

/-- A function, as the interpreter has it. -/
structure FnT where
  nt : Nat
  c : C
  rl : List RV
  keep : List Nat
  /-- whether the answer is frozen -/
  fz : Bool

def FnT.frz (t : FnT) (H : List Ent) (a : AV) : AV × List Ent := if t.fz then dFrz 64 H a else (a, H)

theorem FnT.frz_ok (t : FnT) (H : List Ent) (a : AV) : FrzV H a (t.frz H a).1 (t.frz H a).2 := by
  unfold FnT.frz
  split
  · exact dFrz_ok _ _ _
  · exact .same _ _

/-- That is the program's function. -/
structure FnOk (P : Program) (f : FuncId) (t : FnT) : Prop where
  ok : ∃ (fn : Func) (code : Code), P.funcs[f]? = some fn ∧ fn.body = some code ∧ (fn.name == "runtime.NumGoroutine") = false ∧ fn.ntmps = t.nt ∧ compile P t.nt code = some t.c ∧ mapM' (rvOf P) fn.results.toList = some t.rl

theorem FnOk.con {P : Program} {Gl : Nat → AV} {f : FuncId} {t : FnT} (h : FnOk P f t) (hm : P.follows .mixedOrders = true) {args : List AV} (ha : args.length ≤ t.nt) (keep : List Nat) {H H' : List Ent} {res : AV}
    (he : ev P Gl keep t.c (fun x r H1 => match x with
      | .exit _ => False
      | _ => Ends t.rl H r H1 res H') (initR 0 args) H) : Con P Gl f args H res H' := by
  obtain ⟨fn, code, h1, h2, h3, h4, h5, h6⟩ := h.ok
  exact con_of_ev hm h1 h2 h3 (h4 ▸ h5) h6 (h4 ▸ ha) keep he

def lookT {α : Type} : List (Nat × α) → Nat → Option α
  | [], _ => none
  | (k, a) :: l, f => if k = f then some a else lookT l f

theorem lookT_mem {α : Type} : ∀ {l : List (Nat × α)} {f : Nat} {a : α}, lookT l f = some a → (f, a) ∈ l
  | [], f, a, h => by cases h
  | (k, b) :: l, f, a, h => by
    simp only [lookT] at h
    split at h
    · rename_i e
      injection h with h
      subst e; subst h
      exact List.mem_cons_self
    · exact List.mem_cons_of_mem _ (lookT_mem h)

structure Tab where
  T : List (Nat × FnT)
  /-- pure contracts -/
  EP : List (Nat × (List AV → Option AV))
  /-- contracts that turn the heap -/
  EH : List (Nat × (List AV → List Ent → Option (AV × List Ent)))

section
variable (Gl : Nat → AV) (B : Tab) (L : Nat)

def endQ (t : FnT) : Option (X × Regs × List Ent) → Option AV
  | some (.exit _, _, _) => none
  | some (_, r, H1) => match resA H1 r t.rl with
    | some a => match t.frz H1 a with
      | (res, _) => if belB 64 0 res then some res else none
    | none => none
  | none => none

def endF (t : FnT) (n : Nat) : Option (X × Regs × List Ent) → Option (AV × List Ent)
  | some (.exit _, _, _) => none
  | some (_, r, H1) => match resA H1 r t.rl with
    | some a => match t.frz H1 a with
      | (res, H2) => if belB 64 n res && (H2.take n).all (belE 64 n) then some (res, H2.take n) else some (res, H2)
    | none => none
  | none => none

def callQ (cf : FuncId → List AV → List Ent → Option (AV × List Ent)) (cq : FuncId → List AV → Option AV) (f : FuncId) (args : List AV) : Option AV :=
  match lookT B.EP f with
  | some e => e args
  | none => match lookT B.T f with
    | some t => if args.all (belB 64 0) && decide (args.length ≤ t.nt) then endQ t (exC Gl cf cq L t.keep t.c (initR 0 args) []) else none
    | none => none

def callF (cf : FuncId → List AV → List Ent → Option (AV × List Ent)) (cq : FuncId → List AV → Option AV) (f : FuncId) (args : List AV) (H : List Ent) : Option (AV × List Ent) :=
  match callQ Gl B L cf cq f args with
  | some a => some (a, H)
  | none => match lookT B.EH f with
    | some e => e args H
    | none => match lookT B.T f with
      | some t => if decide (args.length ≤ t.nt) then endF t H.length (exC Gl cf cq L t.keep t.c (initR 0 args) H) else none
      | none => none

def rn : Nat → (FuncId → List AV → List Ent → Option (AV × List Ent)) × (FuncId → List AV → Option AV)
  | 0 => (fun _ _ _ => none, fun _ _ => none)
  | n + 1 => (callF Gl B L (rn n).1 (rn n).2, callQ Gl B L (rn n).1 (rn n).2)
end

structure TabOk (P : Program) (Gl : Nat → AV) (B : Tab) : Prop where
  mixed : P.follows .mixedOrders = true
  gl : ∀ n, Bel 0 (Gl n)
  T : ∀ f t, (f, t) ∈ B.T → FnOk P f t
  EP : ∀ f e, (f, e) ∈ B.EP → ∀ args a, e args = some a → ∀ H, Con P Gl f args H a H
  EH : ∀ f e, (f, e) ∈ B.EH → ∀ args H a H', e args H = some (a, H') → Con P Gl f args H a H'

section
variable {P : Program} {Gl : Nat → AV} {B : Tab} {L : Nat}

/-- A contract out of a body, nothing forgotten. -/
theorem FnOk.con' {f : FuncId} {t : FnT} (h : FnOk P f t) (hm : P.follows .mixedOrders = true) {args : List AV} (ha : args.length ≤ t.nt) (keep : List Nat) {H H' : List Ent} {res : AV}
    (he : ev P Gl keep t.c (fun x r H1 => match x with
      | .exit _ => False
      | _ => ∃ a H2, resA H1 r t.rl = some a ∧ FrzV H1 a res H2 ∧ ((H' = H2.take H.length ∧ Bel H.length res ∧ (∀ e ∈ H', BelE H.length e)) ∨ H' = H2)) (initR 0 args) H) : Con P Gl f args H res H' := by
  obtain ⟨fn, code, hf, hb, hn, hnt, hc, hr⟩ := h.ok
  rw [← hnt] at hc ha
  refine ⟨⟨fn, hf, by rw [hb]; rfl, hn⟩, fun K γ w vs st hg hl hv => calls_of_wp hf hb ?_⟩
  have iv : Iv Gl fn.ntmps ⟨K, γ, H⟩ w { tmps := vs ++ Array.replicate (fn.ntmps - vs.size) undef, defers := [] } w (initR 0 args) H := by
    refine ⟨K, γ, st, Wf.refl _ _, fun t => ?_, hg, by simp; omega, rfl⟩
    rw [look_initR, if_pos (Nat.zero_le _), Nat.sub_zero]
    by_cases ht : t < vs.size
    · have h1 : (vs ++ Array.replicate (fn.ntmps - vs.size) undef).getD t undef = vs[t] := by
        simp [Array.getElem?_append_left ht, ht]
      rw [h1]
      have h2 : args[t]? = some args[t] := List.getElem?_eq_getElem (by omega)
      rw [h2]
      exact hv t _ _ (Array.getElem?_eq_getElem ht) h2
    · have h2 : args[t]? = none := List.getElem?_eq_none (by omega)
      rw [h2]
      exact .un _
  refine wp_mono (code_sound hm code t.c hc _ _ w _ H iv he) fun e a' w' hq => ?_
  have fin : ∀ r H1, Iv Gl fn.ntmps ⟨K, γ, H⟩ w a' w' r H1 → (∃ a H2, resA H1 r t.rl = some a ∧ FrzV H1 a res H2 ∧ ((H' = H2.take H.length ∧ Bel H.length res ∧ (∀ e ∈ H', BelE H.length e)) ∨ H' = H2)) →
      a'.defers = [] ∧ ∃ v, (results fn a'.tmps).run P w' = .ok v w' ∧
      ∃ v' K' γ', Ending.returned v = .returned v' ∧ St ⟨K', γ', H'⟩ w' ∧ Wf ⟨K, γ, H⟩ w ⟨K', γ', H'⟩ w' ∧ Rl ⟨K', γ', H'⟩ v' res := by
    rintro r H1 ⟨K1, γ1, i1, i2, i3, i4, i5, i6⟩ ⟨x, H2, k1, k2, k3⟩
    obtain ⟨v, j1, j2⟩ := results_run hr i1 i3 k1
    obtain ⟨⟨K2, γ2, H2'⟩, e1, e2, e3, e4⟩ := frzV_ok k2 ⟨K1, γ1, H1⟩ rfl i1
    simp only at e1
    subst e1
    have wf := i2.trans e3
    rcases k3 with ⟨rfl, k3, k4⟩ | rfl
    · have hle : H.length ≤ H2'.length := wf.ext.len
      have hlen : (H2'.take H.length).length = H.length := by simp; omega
      obtain ⟨d1, d2, d3⟩ := drop_ok (G0 := ⟨K, γ, H⟩) (H' := H2'.take H.length) st e2 wf (e4 v j2) ⟨⟨H2'.drop H.length, (List.take_append_drop _ _).symm⟩, by simp only; omega, by rw [hlen]; exact k3, fun g e hg => .inr (by rw [hlen]; exact k4 e (List.mem_of_getElem? hg))⟩
      exact ⟨i6, v, j1, v, _, _, rfl, d1, d2, d3⟩
    · exact ⟨i6, v, j1, v, _, _, rfl, e2, wf, e4 v j2⟩
  cases e with
  | normal =>
    obtain ⟨r, H1, iv1, h1⟩ := hq
    exact fin r H1 iv1 h1
  | ret =>
    obtain ⟨r, H1, iv1, h1⟩ := hq
    exact fin r H1 iv1 h1
  | exit id =>
    obtain ⟨r, H1, iv1, h1⟩ := hq
    exact h1.elim
  | _ => exact hq.elim

theorem rn_ok (hB : TabOk P Gl B) : ∀ n, (∀ f args H a H', (rn Gl B L n).1 f args H = some (a, H') → Con P Gl f args H a H') ∧ (∀ f args a, (rn Gl B L n).2 f args = some a → ∀ H, Con P Gl f args H a H)
  | 0 => ⟨fun f args H a H' h => by simp [rn] at h, fun f args a h => by simp [rn] at h⟩
  | n + 1 => by
    obtain ⟨ih1, ih2⟩ := rn_ok hB n
    have hq : ∀ f args a, callQ Gl B L (rn Gl B L n).1 (rn Gl B L n).2 f args = some a → ∀ H, Con P Gl f args H a H := by
      intro f args a h
      unfold callQ at h
      split at h
      · rename_i e he
        exact hB.EP f e (lookT_mem he) args a h
      · split at h
        · rename_i t ht
          split at h
          · rename_i hc
            simp only [Bool.and_eq_true, List.all_eq_true, decide_eq_true_eq] at hc
            generalize hz : exC Gl (rn Gl B L n).1 (rn Gl B L n).2 L t.keep t.c (initR 0 args) [] = z at h
            unfold endQ at h
            split at h
            · cases h
            · rename_i x r H1 hne
              split at h
              · rename_i b hb
                have hf := t.frz_ok H1 b
                generalize hd : t.frz H1 b = p at h hf
                obtain ⟨res, H2⟩ := p
                simp only at h
                split at h
                · rename_i hbel
                  injection h with h
                  subst h
                  have hcon : Con P Gl f args [] res H2 := (hB.T f t (lookT_mem ht)).con' hB.mixed hc.2 t.keep (exC_ok ih1 ih2 t.c _ _ _ x r H1 hz (by
                    cases x with
                    | exit id => exact absurd rfl (hne id)
                    | normal => exact ⟨b, H2, hb, hf, .inr rfl⟩
                    | ret => exact ⟨b, H2, hb, hf, .inr rfl⟩))
                  exact hcon.all hB.gl (fun x hx => belB_ok _ _ _ (hc.1 x hx)) (belB_ok _ _ _ hbel)
                · cases h
              · cases h
            · cases h
          · cases h
        · cases h
    refine ⟨fun f args H a H' h => ?_, fun f args a h => hq f args a h⟩
    simp only [rn] at h
    unfold callF at h
    split at h
    · rename_i b hb
      injection h with h
      injection h with h1 h2
      subst h1; subst h2
      exact hq f args _ hb _
    · split at h
      · rename_i e he
        exact hB.EH f e (lookT_mem he) args H a H' h
      · split at h
        · rename_i t ht
          split at h
          · rename_i hc
            simp only [decide_eq_true_eq] at hc
            generalize hz : exC Gl (rn Gl B L n).1 (rn Gl B L n).2 L t.keep t.c (initR 0 args) H = z at h
            unfold endF at h
            split at h
            · cases h
            · rename_i x r H1 hne
              split at h
              · rename_i b hb
                have hf := t.frz_ok H1 b
                generalize hd : t.frz H1 b = p at h hf
                obtain ⟨res, H2⟩ := p
                simp only at h
                have key : ∀ H', ((H' = H2.take H.length ∧ Bel H.length res ∧ (∀ e ∈ H', BelE H.length e)) ∨ H' = H2) → Con P Gl f args H res H' := fun H' hk =>
                  (hB.T f t (lookT_mem ht)).con' hB.mixed hc t.keep (exC_ok ih1 ih2 t.c _ _ _ x r H1 hz (by
                    cases x with
                    | exit id => exact absurd rfl (hne id)
                    | normal => exact ⟨b, H2, hb, hf, hk⟩
                    | ret => exact ⟨b, H2, hb, hf, hk⟩))
                split at h
                · rename_i hbel
                  injection h with h
                  injection h with h1 h2
                  subst h1; subst h2
                  simp only [Bool.and_eq_true, List.all_eq_true] at hbel
                  exact key _ (.inl ⟨rfl, belB_ok _ _ _ hbel.1, fun e he => belE_ok (hbel.2 e he)⟩)
                · injection h with h
                  injection h with h1 h2
                  subst h1; subst h2
                  exact key _ (.inr rfl)
              · cases h
            · cases h
          · cases h
        · cases h
end

end Go.Am
