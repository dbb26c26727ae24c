/- An interpreter of the small language, for closed computations, and that what it says is so. -/
import Derived.Test.YtomepdfmjlcehaaAmSnl
set_option linter.unusedVariables false
set_option linter.unusedSimpArgs false
namespace Go.Am

/-! ### Freezing, as far as it goes -/
def frzAll (F : List Ent → AV → AV × List Ent) : List Ent → List AV → List AV × List Ent
  | H, [] => ([], H)
  | H, a :: l => match F H a with
    | (b, H1) => match frzAll F H1 l with
      | (m, H2) => (b :: m, H2)

def dFrz : Nat → List Ent → AV → AV × List Ent
  | 0, H, a => (a, H)
  | n + 1, H, a => match a with
    | .nl => (.sl [], H)
    | .row g k => match H[g]? with
      | some (.row e sz xs f) => if xs.length = k then (match frzAll (dFrz n) (H.set g (.row e sz xs xs.length)) xs with
        | (ys, H1) => (.sl ys, H1)) else (.row g k, H)
      | _ => (.row g k, H)
    | .ag cs => match frzAll (dFrz n) H cs with
      | (ds, H1) => (.ag ds, H1)
    | .tp cs => match frzAll (dFrz n) H cs with
      | (ds, H1) => (.tp ds, H1)
    | a => (a, H)

theorem frzAll_ok {F : List Ent → AV → AV × List Ent} (hF : ∀ H a, FrzV H a (F H a).1 (F H a).2) : ∀ (l : List AV) (H : List Ent), FrzL H l (frzAll F H l).1 (frzAll F H l).2
  | [], H => .nil H
  | a :: l, H => by
    simp only [frzAll]
    exact .cons (hF H a) (frzAll_ok hF l _)

theorem dFrz_ok : ∀ (n : Nat) (H : List Ent) (a : AV), FrzV H a (dFrz n H a).1 (dFrz n H a).2
  | 0, H, a => .same H a
  | n + 1, H, a => by
    have ih := fun H a => dFrz_ok n H a
    simp only [dFrz]
    split
    · exact .nl H
    · split
      · rename_i hg
        split
        · rename_i hl
          exact .row hg hl (frzAll_ok ih _ _)
        · exact .same H _
      · exact .same H _
    · exact .ag (frzAll_ok ih _ _)
    · exact .tp (frzAll_ok ih _ _)
    · exact .same H _

/-! ### What leads nowhere beyond a number -/
def belB : Nat → Nat → AV → Bool
  | 0, _, _ => false
  | k + 1, n, a => match a with
    | .bo _ | .it _ _ | .st _ | .sc _ | .nl | .un => true
    | .sl xs => xs.all fun x => x.cells.all (belB k n)
    | .ag cs | .tp cs | .fn _ cs => cs.all (belB k n)
    | .row g _ | .ptr g _ | .el g _ _ _ => decide (g < n)
    | .fp xs _ _ => xs.all fun x => x.cells.all (belB k n)

theorem belB_ok : ∀ (k n : Nat) (a : AV), belB k n a = true → Bel n a
  | 0, n, a, h => by simp [belB] at h
  | k + 1, n, a, h => by
    have ih := fun a => belB_ok k n a
    cases a with
    | bo b => exact .bo b
    | it k m => exact .it k m
    | st s => exact .st s
    | sc v => exact .sc v
    | nl => exact .nl
    | un => exact .un
    | sl xs =>
      simp only [belB, List.all_eq_true] at h
      exact .sl xs fun x hx y hy => ih y (h x hx y hy)
    | fp xs i o =>
      simp only [belB, List.all_eq_true] at h
      exact .fp xs i o fun x hx y hy => ih y (h x hx y hy)
    | ag cs =>
      simp only [belB, List.all_eq_true] at h
      exact .ag cs fun c hc => ih c (h c hc)
    | tp cs =>
      simp only [belB, List.all_eq_true] at h
      exact .tp cs fun c hc => ih c (h c hc)
    | fn f cs =>
      simp only [belB, List.all_eq_true] at h
      exact .fn f cs fun c hc => ih c (h c hc)
    | row g m => exact .row g m (by simpa [belB] using h)
    | ptr g o => exact .ptr g o (by simpa [belB] using h)
    | el g m i o => exact .el g m i o (by simpa [belB] using h)

def belE (k n : Nat) : Ent → Bool
  | .box _ cs => cs.all (belB k n)
  | .row _ _ xs _ => xs.all fun x => x.cells.all (belB k n)
  | _ => true

theorem belE_ok {k n : Nat} {e : Ent} (h : belE k n e = true) : BelE n e := by
  cases e with
  | box t cs =>
    simp only [belE, List.all_eq_true] at h
    exact .box t cs fun c hc => belB_ok k n c (h c hc)
  | row e sz xs f =>
    simp only [belE, List.all_eq_true] at h
    exact .row e sz xs f fun x hx y hy => belB_ok k n y (h x hx y hy)
  | iter s p => exact .iter s p
  | res => exact .res
  | dead => exact .dead

/-! ### Values that are alike -/
def eqL {α : Type} (F : α → α → Bool) : List α → List α → Bool
  | [], [] => true
  | a :: l, b :: m => F a b && eqL F l m
  | _, _ => false

theorem eqL_ok {α : Type} {F : α → α → Bool} (h : ∀ a b, F a b = true → a = b) : ∀ {l m : List α}, eqL F l m = true → l = m
  | [], [], _ => rfl
  | a :: l, b :: m, e => by
    simp only [eqL, Bool.and_eq_true] at e
    rw [h a b e.1, eqL_ok h e.2]
  | [], b :: m, e => by simp [eqL] at e
  | a :: l, [], e => by simp [eqL] at e

def eqAV : Nat → AV → AV → Bool
  | 0, _, _ => false
  | k + 1, a, b => match a, b with
    | .bo x, .bo y => decide (x = y)
    | .it i x, .it j y => decide (i = j) && decide (x = y)
    | .st x, .st y => decide (x = y)
    | .nl, .nl => true
    | .un, .un => true
    | .sc (.pointer none), .sc (.pointer none) => true
    | .sc .nilFunc, .sc .nilFunc => true
    | .sc .nilIface, .sc .nilIface => true
    | .sl x, .sl y => eqL (eqAV k) x y
    | .ag x, .ag y => eqL (eqAV k) x y
    | .tp x, .tp y => eqL (eqAV k) x y
    | .row g n, .row h m => decide (g = h) && decide (n = m)
    | .ptr g n, .ptr h m => decide (g = h) && decide (n = m)
    | .el g n i o, .el h m j p => decide (g = h) && decide (n = m) && decide (i = j) && decide (o = p)
    | .fp x i o, .fp y j p => eqL (eqAV k) x y && decide (i = j) && decide (o = p)
    | .fn f x, .fn g y => decide (f = g) && eqL (eqAV k) x y
    | _, _ => false

theorem eqAV_ok : ∀ (k : Nat) (a b : AV), eqAV k a b = true → a = b
  | 0, a, b, h => by simp [eqAV] at h
  | k + 1, a, b, h => by
    have ih : ∀ {l m : List AV}, eqL (eqAV k) l m = true → l = m := fun e => eqL_ok (fun a b => eqAV_ok k a b) e
    unfold eqAV at h
    split at h <;> (try simp only [Bool.and_eq_true, decide_eq_true_eq] at h) <;> (try (cases h; done)) <;> (try rfl)
    · rw [h]
    · rw [h.1, h.2]
    · rw [h]
    · rw [ih h]
    · rw [ih h]
    · rw [ih h]
    · rw [h.1, h.2]
    · rw [h.1, h.2]
    · rw [h.1.1.1, h.1.1.2, h.1.2, h.2]
    · rw [ih h.1.1, h.1.2, h.2]
    · rw [h.1, ih h.2]

def eqEnt (k : Nat) : Ent → Ent → Bool
  | .box t x, .box u y => decide (t = u) && eqL (eqAV k) x y
  | .row e s x f, .row e' s' y f' => decide (e = e') && decide (s = s') && eqL (eqAV k) x y && decide (f = f')
  | .iter s p, .iter s' p' => decide (s = s') && decide (p = p')
  | .dead, .dead => true
  | .res, .res => true
  | _, _ => false

theorem eqEnt_ok (k : Nat) (a b : Ent) (h : eqEnt k a b = true) : a = b := by
  have ih : ∀ {l m : List AV}, eqL (eqAV k) l m = true → l = m := fun e => eqL_ok (fun a b => eqAV_ok k a b) e
  unfold eqEnt at h
  split at h <;> (try simp only [Bool.and_eq_true, decide_eq_true_eq] at h) <;> (try (cases h; done)) <;> (try rfl)
  · rw [h.1, ih h.2]
  · rw [h.1.1.1, h.1.1.2, ih h.1.2, h.2]
  · rw [h.1, h.2]

def eqReg (k : Nat) (a b : Nat × AV) : Bool := decide (a.1 = b.1) && eqAV k a.2 b.2
theorem eqReg_ok (k : Nat) (a b : Nat × AV) (h : eqReg k a b = true) : a = b := by
  simp only [eqReg, Bool.and_eq_true, decide_eq_true_eq] at h
  exact Prod.ext h.1 (eqAV_ok k _ _ h.2)

/-! ### The interpreter -/
structure FnI where
  c : C
  rl : List RV
  keep : List Nat

section
variable (Gl : Nat → AV) (cf : FuncId → List AV → List Ent → Option (AV × List Ent)) (cq : FuncId → List AV → Option AV)

def exI (q : Nat) (i : I) (r : Regs) (H : List Ent) : Option (AV × List Ent) :=
  match q with
  | 0 => match i with
    | .call f xs => cf f (xs.map (ov Gl r)) H
    | .callv x xs => match ov Gl r x with
      | .fn f cs => cf f (xs.map (ov Gl r) ++ cs) H
      | _ => none
    | i => match step Gl H.length r H i with
      | some (a, u, none) => some (a, appU H u)
      | some (a, u, some e) => some (a, appU H u ++ [e])
      | none => none
  | 1 => match i with
    | .call f xs => (cq f (xs.map (ov Gl r))).map fun a => (a, H)
    | .callv x xs => match ov Gl r x with
      | .fn f cs => (cq f (xs.map (ov Gl r) ++ cs)).map fun a => (a, H)
      | _ => none
    | _ => none
  | _ => match i with
    | .call f xs => (cq f (xs.map (ov Gl r))).map fun a => (a, H)
    | .callv x xs => match ov Gl r x with
      | .fn f cs => (cq f (xs.map (ov Gl r) ++ cs)).map fun a => (a, H)
      | _ => none
    | i => match step Gl 0 r [] i with
      | some (a, none, none) => some (a, H)
      | _ => none

def exG (o : OpI) (r : Regs) (H : List Ent) : Option (Regs × List Ent) :=
  match o.g with
  | none => (exI Gl cf cq o.q o.i r H).map fun p => (putR o.dst p.1 r, p.2)
  | some (d, b) => match look r d with
    | .bo c => if c = b then (exI Gl cf cq o.q o.i r H).map fun p => (putR o.dst p.1 r, p.2) else some (putR o.dst .un r, H)
    | _ => none

def exOps : List OpI → Regs → List Ent → Option (Regs × List Ent)
  | [], r, H => some (r, H)
  | o :: os, r, H => match exG Gl cf cq o r H with
    | some (r', H') => exOps os r' H'
    | none => none

def exD (keep : List Nat) : DT → Regs → List Ent → Option (Option (Regs × List Ent))
  | .dn, r, H => some (some (keepR keep r, H))
  | .op o d, r, H => match exG Gl cf cq o r H with
    | some (r', H') => exD keep d r' H'
    | none => none
  | .both a b, r, H => match exD keep a r H, exD keep b r H with
    | some (some x), some (some y) => if eqL (eqReg 64) x.1 y.1 && eqL (eqEnt 64) x.2 y.2 then some (some x) else none
    | some x, some none => some x
    | some none, some y => some y
    | _, _ => none
  | .tt, _, _ => some none

def iter (F : Regs → List Ent → Option (X × Regs × List Ent)) : Nat → Regs → List Ent → Option (X × Regs × List Ent)
  | 0, _, _ => none
  | n + 1, r, H => match F r H with
    | some (.normal, r', H') => iter F n r' H'
    | x => x

def exC (L : Nat) (keep : List Nat) : C → Regs → List Ent → Option (X × Regs × List Ent)
  | .sk, r, H => some (.normal, r, H)
  | .rg ops, r, H => (exOps Gl cf cq ops r H).map fun p => (.normal, keepR keep p.1, p.2)
  | .dr d, r, H => match exD Gl cf cq keep d r H with
    | some (some p) => some (.normal, p.1, p.2)
    | _ => none
  | .sq a b, r, H => match exC L keep a r H with
    | some (.normal, r', H') => exC L keep b r' H'
    | x => x
  | .cd c a b, r, H => match ov Gl r c with
    | .bo true => exC L keep a r H
    | .bo false => exC L keep b r H
    | _ => none
  | .bl id b, r, H => match exC L keep b r H with
    | some (.exit id', r', H') => if id' = id then some (.normal, r', H') else some (.exit id', r', H')
    | x => x
  | .lp b, r, H => iter (exC L keep b) L r H
  | .ex id, r, H => some (.exit id, r, H)
  | .rt, r, H => some (.ret, r, H)
  | .rf, _, _ => none
end

section
variable {P : Program} {Gl : Nat → AV} {cf : FuncId → List AV → List Ent → Option (AV × List Ent)} {cq : FuncId → List AV → Option AV}
  (hcf : ∀ f args H a H', cf f args H = some (a, H') → Con P Gl f args H a H') (hcq : ∀ f args a, cq f args = some a → ∀ H, Con P Gl f args H a H)
include hcf hcq

theorem exI_ok {o : OpI} {r : Regs} {H : List Ent} {a : AV} {H' : List Ent} (h : exI Gl cf cq o.q o.i r H = some (a, H')) {K : AV → List Ent → Prop} (hK : K a H') : evOp P Gl o K r H := by
  obtain ⟨d, i, g, q⟩ := o
  simp only at h
  unfold evOp
  simp only
  match q, h with
  | 0, h =>
    cases i with
    | call f xs => exact ⟨_, H, a, H', FrzL.same _ _, hcf _ _ _ _ _ h, hK⟩
    | callv x xs =>
      simp only [exI] at h
      simp only [evI]
      split at h
      · rename_i e; rw [e]; exact ⟨_, H, a, H', FrzL.same _ _, hcf _ _ _ _ _ h, hK⟩
      · cases h
    | _ =>
      simp only [exI] at h
      simp only [evI]
      split at h
      · rename_i hs; rw [hs]; injection h with h; injection h with e1 e2; subst e1; subst e2; exact hK
      · rename_i hs; rw [hs]; injection h with h; injection h with e1 e2; subst e1; subst e2; exact hK
      · cases h
  | 1, h =>
    cases i with
    | call f xs =>
      simp only [exI] at h
      cases hq : cq f (xs.map (ov Gl r)) with
      | none => rw [hq] at h; cases h
      | some b =>
        rw [hq] at h
        simp only [Option.map_some, Option.some.injEq, Prod.mk.injEq] at h
        obtain ⟨rfl, rfl⟩ := h
        exact ⟨b, hcq _ _ _ hq _, hK⟩
    | callv x xs =>
      simp only [exI] at h
      simp only [evR]
      split at h
      · rename_i f cs e
        rw [e]
        cases hq : cq f (xs.map (ov Gl r) ++ cs) with
        | none => rw [hq] at h; cases h
        | some b =>
          rw [hq] at h
          simp only [Option.map_some, Option.some.injEq, Prod.mk.injEq] at h
          obtain ⟨rfl, rfl⟩ := h
          exact ⟨b, hcq _ _ _ hq _, hK⟩
      · cases h
    | _ => simp [exI] at h
  | n + 2, h =>
    cases i with
    | call f xs =>
      simp only [exI] at h
      cases hq : cq f (xs.map (ov Gl r)) with
      | none => rw [hq] at h; cases h
      | some b =>
        rw [hq] at h
        simp only [Option.map_some, Option.some.injEq, Prod.mk.injEq] at h
        obtain ⟨rfl, rfl⟩ := h
        exact ⟨b, hcq _ _ _ hq, hK⟩
    | callv x xs =>
      simp only [exI] at h
      simp only [evQ]
      split at h
      · rename_i f cs e
        rw [e]
        cases hq : cq f (xs.map (ov Gl r) ++ cs) with
        | none => rw [hq] at h; cases h
        | some b =>
          rw [hq] at h
          simp only [Option.map_some, Option.some.injEq, Prod.mk.injEq] at h
          obtain ⟨rfl, rfl⟩ := h
          exact ⟨b, hcq _ _ _ hq, hK⟩
      · cases h
    | _ =>
      simp only [exI] at h
      simp only [evQ]
      split at h
      · rename_i hs; rw [hs]; injection h with h; injection h with e1 e2; subst e1; subst e2; exact hK
      · cases h

theorem exG_ok {o : OpI} {r : Regs} {H : List Ent} {r' : Regs} {H' : List Ent} (h : exG Gl cf cq o r H = some (r', H')) {K : Regs → List Ent → Prop} (hK : K r' H') : evG P Gl o K r H := by
  have run : (exI Gl cf cq o.q o.i r H).map (fun p => (putR o.dst p.1 r, p.2)) = some (r', H') → evOp P Gl o (fun a H1 => K (putR o.dst a r) H1) r H := by
    intro h
    cases he : exI Gl cf cq o.q o.i r H with
    | none => rw [he] at h; cases h
    | some p =>
      rw [he] at h
      simp only [Option.map_some, Option.some.injEq, Prod.mk.injEq] at h
      obtain ⟨rfl, rfl⟩ := h
      exact exI_ok hcf hcq (a := p.1) (H' := p.2) he hK
  unfold exG at h
  unfold evG
  split at h
  · rename_i hg; rw [hg]; exact run h
  · rename_i d b hg
    rw [hg]
    simp only
    split at h
    · rename_i c hc
      rw [hc]
      split at h
      · rename_i e; exact ⟨fun _ => run h, fun n => absurd e n⟩
      · rename_i e
        injection h with h
        injection h with h1 h2
        subst h1; subst h2
        exact ⟨fun n => absurd n e, fun _ => hK⟩
    · cases h

theorem exOps_ok {K : Regs → List Ent → Prop} : ∀ (os : List OpI) (r : Regs) (H : List Ent) (r' : Regs) (H' : List Ent), exOps Gl cf cq os r H = some (r', H') → K r' H' → evOps P Gl K os r H
  | [], r, H, r', H', h, hK => by
    simp only [exOps, Option.some.injEq, Prod.mk.injEq] at h
    obtain ⟨rfl, rfl⟩ := h
    exact hK
  | o :: os, r, H, r', H', h, hK => by
    simp only [exOps] at h
    split at h
    · rename_i r1 H1 h1
      exact exG_ok hcf hcq h1 (exOps_ok os r1 H1 r' H' h hK)
    · cases h

theorem exD_ok {keep : List Nat} {K : Regs → List Ent → Prop} : ∀ (d : DT) (r : Regs) (H : List Ent) (x : Option (Regs × List Ent)), exD Gl cf cq keep d r H = some x → (∀ p, x = some p → K p.1 p.2) → evD P Gl (fun r H => K (keepR keep r) H) d r H
  | .dn, r, H, x, h, hK => by
    simp only [exD, Option.some.injEq] at h
    exact hK _ h.symm
  | .op o d, r, H, x, h, hK => by
    simp only [exD] at h
    split at h
    · rename_i r1 H1 h1
      exact exG_ok hcf hcq h1 (exD_ok d r1 H1 x h hK)
    · cases h
  | .tt, r, H, x, h, hK => trivial
  | .both a b, r, H, x, h, hK => by
    simp only [exD] at h
    split at h
    · rename_i x1 y1 h1 h2
      split at h
      · rename_i he
        injection h with h
        subst h
        simp only [Bool.and_eq_true] at he
        have e1 := eqL_ok (eqReg_ok 64) he.1
        have e2 := eqL_ok (eqEnt_ok 64) he.2
        have hxy : x1 = y1 := Prod.ext e1 e2
        subst hxy
        exact ⟨exD_ok a r H _ h1 hK, exD_ok b r H _ h2 hK⟩
      · cases h
    · rename_i x1 h1 h2
      injection h with h
      subst h
      exact ⟨exD_ok a r H _ h1 hK, exD_ok b r H _ h2 fun p e => by cases e⟩
    · rename_i x1 h1 h2
      injection h with h
      subst h
      exact ⟨exD_ok a r H _ h1 (fun p e => by cases e), exD_ok b r H _ h2 hK⟩
    · cases h

theorem exC_ok {L : Nat} {keep : List Nat} : ∀ (c : C) (Q : X → Regs → List Ent → Prop) (r : Regs) (H : List Ent) (x : X) (r' : Regs) (H' : List Ent), exC Gl cf cq L keep c r H = some (x, r', H') → Q x r' H' → ev P Gl keep c Q r H
  | .sk, Q, r, H, x, r', H', h, hQ => by
    simp only [exC, Option.some.injEq, Prod.mk.injEq] at h
    obtain ⟨rfl, rfl, rfl⟩ := h
    exact hQ
  | .rg ops, Q, r, H, x, r', H', h, hQ => by
    simp only [exC] at h
    cases he : exOps Gl cf cq ops r H with
    | none => rw [he] at h; cases h
    | some p =>
      rw [he] at h
      simp only [Option.map_some, Option.some.injEq, Prod.mk.injEq] at h
      obtain ⟨rfl, rfl, rfl⟩ := h
      exact exOps_ok hcf hcq ops r H p.1 p.2 he hQ
  | .dr d, Q, r, H, x, r', H', h, hQ => by
    simp only [exC] at h
    split at h
    · rename_i p he
      injection h with h
      injection h with h1 h
      injection h with h2 h3
      subst h1; subst h2; subst h3
      exact exD_ok hcf hcq (K := fun r H => Q .normal r H) d r H _ he fun q e => by injection e with e; subst e; exact hQ
    · cases h
  | .sq a b, Q, r, H, x, r', H', h, hQ => by
    simp only [exC] at h
    split at h
    · rename_i r1 H1 h1
      exact exC_ok a _ r H .normal r1 H1 h1 (exC_ok b Q r1 H1 x r' H' h hQ)
    · rename_i hne
      refine exC_ok a _ r H x r' H' h ?_
      cases x with
      | normal => exact absurd h (hne r' H')
      | _ => exact hQ
  | .cd c a b, Q, r, H, x, r', H', h, hQ => by
    simp only [exC] at h
    simp only [ev]
    split at h
    · rename_i e; rw [e]; exact ⟨fun _ => exC_ok a Q r H x r' H' h hQ, fun e => by cases e⟩
    · rename_i e; rw [e]; exact ⟨(fun e => by cases e), fun _ => exC_ok b Q r H x r' H' h hQ⟩
    · cases h
  | .bl id b, Q, r, H, x, r', H', h, hQ => by
    simp only [exC] at h
    split at h
    · rename_i id' r1 H1 h1
      refine exC_ok b _ r H _ r1 H1 h1 ?_
      split at h
      · rename_i e
        injection h with h
        injection h with e1 h
        injection h with e2 e3
        subst e1; subst e2; subst e3
        simp only [e, if_true]
        exact hQ
      · rename_i e
        injection h with h
        injection h with e1 h
        injection h with e2 e3
        subst e1; subst e2; subst e3
        simp only [e, if_false]
        exact hQ
    · rename_i hne
      refine exC_ok b _ r H x r' H' h ?_
      cases x with
      | exit id' => exact absurd h (hne id' r' H')
      | _ => exact hQ
  | .lp b, Q, r, H, x, r', H', h, hQ => by
    simp only [exC] at h
    simp only [ev]
    intro I hI
    have key : ∀ (n : Nat) (r : Regs) (H : List Ent), iter (exC Gl cf cq L keep b) n r H = some (x, r', H') → I r H := by
      intro n
      induction n with
      | zero => intro r H h; simp [iter] at h
      | succ n ih =>
        intro r H h
        simp only [iter] at h
        split at h
        · rename_i r1 H1 h1
          exact hI r H (exC_ok b _ r H .normal r1 H1 h1 (ih r1 H1 h))
        · rename_i hne
          refine hI r H (exC_ok b _ r H x r' H' h ?_)
          cases x with
          | normal => exact absurd h (hne r' H')
          | _ => exact hQ
    exact key L r H h
  | .ex id, Q, r, H, x, r', H', h, hQ => by
    simp only [exC, Option.some.injEq, Prod.mk.injEq] at h
    obtain ⟨rfl, rfl, rfl⟩ := h
    exact hQ
  | .rt, Q, r, H, x, r', H', h, hQ => by
    simp only [exC, Option.some.injEq, Prod.mk.injEq] at h
    obtain ⟨rfl, rfl, rfl⟩ := h
    exact hQ
  | .rf, Q, r, H, x, r', H', h, hQ => by simp [exC] at h
end

end Go.Am
