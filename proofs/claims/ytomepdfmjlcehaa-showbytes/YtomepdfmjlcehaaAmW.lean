/- Rules for a walk through a body, in the form that the simplifier takes. -/
import Derived.Test.YtomepdfmjlcehaaAmWalk
set_option linter.unusedVariables false
set_option linter.unusedSimpArgs false
namespace Go.Am

section
variable {P : Program} {Gl : Nat → AV} {keep : List Nat} {Q : X → Regs → List Ent → Prop} {r : Regs} {H : List Ent}

/-- A call, its arguments told. -/
def evCall (P : Program) (Gl : Nat → AV) (f : FuncId) (args : List AV) (K : AV → List Ent → Prop) (H : List Ent) : Prop := ∃ as H0 res H1, FrzL H args as H0 ∧ Con P Gl f as H0 res H1 ∧ K res H1
def evCallR (P : Program) (Gl : Nat → AV) (f : FuncId) (args : List AV) (K : AV → List Ent → Prop) (H : List Ent) : Prop := ∃ res, Con P Gl f args H res H ∧ K res H
def evCallQ (P : Program) (Gl : Nat → AV) (f : FuncId) (args : List AV) (K : AV → List Ent → Prop) (H : List Ent) : Prop := ∃ res, (∀ H, Con P Gl f args H res H) ∧ K res H

theorem evCall_con {f : FuncId} {args : List AV} {K : AV → List Ent → Prop} {res : AV} {H' : List Ent} (hc : Con P Gl f args H res H') (hK : K res H') : evCall P Gl f args K H := ⟨args, H, res, H', FrzL.same _ _, hc, hK⟩
theorem evCall_frz {f : FuncId} {args as : List AV} {K : AV → List Ent → Prop} {res : AV} {H0 H' : List Ent} (hf : FrzL H args as H0) (hc : Con P Gl f as H0 res H') (hK : K res H') : evCall P Gl f args K H := ⟨as, H0, res, H', hf, hc, hK⟩
theorem evCall_pure {f : FuncId} {args : List AV} {K : AV → List Ent → Prop} {res : AV} (hc : ∀ H, Con P Gl f args H res H) (hK : K res H) : evCall P Gl f args K H := ⟨args, H, res, H, FrzL.same _ _, hc H, hK⟩
theorem evCallR_pure {f : FuncId} {args : List AV} {K : AV → List Ent → Prop} {res : AV} (hc : ∀ H, Con P Gl f args H res H) (hK : K res H) : evCallR P Gl f args K H := ⟨res, hc H, hK⟩
theorem evCallQ_pure {f : FuncId} {args : List AV} {K : AV → List Ent → Prop} {res : AV} (hc : ∀ H, Con P Gl f args H res H) (hK : K res H) : evCallQ P Gl f args K H := ⟨res, hc, hK⟩
theorem evCallR_con {f : FuncId} {args : List AV} {K : AV → List Ent → Prop} {res : AV} (hc : Con P Gl f args H res H) (hK : K res H) : evCallR P Gl f args K H := ⟨res, hc, hK⟩

/-- What goes on with a value, if there is one. -/
def go1 (o : Option AV) (K : AV → List Ent → Prop) (H : List Ent) : Prop := match o with
  | some v => K v H
  | none => False
def go2 (o : Option (AV × Option (Nat × Ent) × Option Ent)) (K : AV → List Ent → Prop) (H : List Ent) : Prop := match o with
  | some (a, u, none) => K a (appU H u)
  | some (a, u, some e) => K a (appU H u ++ [e])
  | none => False

theorem go1_some (v : AV) (K : AV → List Ent → Prop) (H : List Ent) : go1 (some v) K H = K v H := rfl
theorem go1_none (K : AV → List Ent → Prop) (H : List Ent) : go1 none K H = False := rfl
theorem go1_ite (c : Prop) [Decidable c] (o : Option AV) (K : AV → List Ent → Prop) (H : List Ent) : go1 (if c then o else none) K H = (c ∧ go1 o K H) := by
  by_cases h : c <;> simp [h, go1]
theorem go2_n (a : AV) (u) (K : AV → List Ent → Prop) (H : List Ent) : go2 (some (a, u, none)) K H = K a (appU H u) := rfl
theorem go2_e (a : AV) (u) (e : Ent) (K : AV → List Ent → Prop) (H : List Ent) : go2 (some (a, u, some e)) K H = K a (appU H u ++ [e]) := rfl
theorem go2_none (K : AV → List Ent → Prop) (H : List Ent) : go2 none K H = False := rfl
theorem go2_ite (c : Prop) [Decidable c] (o) (K : AV → List Ent → Prop) (H : List Ent) : go2 (if c then o else none) K H = (c ∧ go2 o K H) := by
  by_cases h : c <;> simp [h, go2]

def nocall : I → Bool
  | .call _ _ | .callv _ _ => false
  | _ => true

theorem evI_step {i : I} {K : AV → List Ent → Prop} (h : nocall i = true) : evI P Gl i K r H = go2 (step Gl H.length r H i) K H := by
  cases i <;> first | rfl | (cases h)

section
variable {K : AV → List Ent → Prop}
theorem evI_call' (f : FuncId) (xs : List O) : evI P Gl (.call f xs) K r H = evCall P Gl f (xs.map (ov Gl r)) K H := rfl
theorem evI_callv' (x : O) (xs : List O) : evI P Gl (.callv x xs) K r H = (match ov Gl r x with
    | .fn f cs => evCall P Gl f (xs.map (ov Gl r) ++ cs) K H
    | _ => False) := rfl
theorem evR_call' (f : FuncId) (xs : List O) : evR P Gl (.call f xs) K r H = evCallR P Gl f (xs.map (ov Gl r)) K H := rfl
theorem evQ_call' (f : FuncId) (xs : List O) : evQ P Gl (.call f xs) K r H = evCallQ P Gl f (xs.map (ov Gl r)) K H := rfl
theorem evR_callv' (x : O) (xs : List O) : evR P Gl (.callv x xs) K r H = (match ov Gl r x with
    | .fn f cs => evCallR P Gl f (xs.map (ov Gl r) ++ cs) K H
    | _ => False) := rfl
theorem evQ_callv' (x : O) (xs : List O) : evQ P Gl (.callv x xs) K r H = (match ov Gl r x with
    | .fn f cs => evCallQ P Gl f (xs.map (ov Gl r) ++ cs) K H
    | _ => False) := rfl
theorem evQ_slA (e sz : Nat) (x : O) (lo hi : Option O) : evQ P Gl (.slA e sz x lo hi) K r H = (match step Gl 0 r [] (.slA e sz x lo hi) with
    | some (a, none, none) => K a H
    | _ => False) := rfl

theorem evI_nrow (e sz : Nat) : evI P Gl (.nrow e sz) K r H = go2 (step Gl H.length r H (.nrow e sz)) K H := rfl
theorem evI_cvMk (x : O) : evI P Gl (.cvMk x) K r H = go2 (step Gl H.length r H (.cvMk x)) K H := rfl
theorem evI_alloc (t : Nat) (z : List AV) : evI P Gl (.alloc t z) K r H = go2 (step Gl H.length r H (.alloc t z)) K H := rfl
theorem evI_box (t : Nat) (x : O) : evI P Gl (.box t x) K r H = go2 (step Gl H.length r H (.box t x)) K H := rfl
theorem evI_build (z : List AV) (ps : List (Nat × Nat × O)) : evI P Gl (.build z ps) K r H = go2 (step Gl H.length r H (.build z ps)) K H := rfl
theorem evI_mks (e sz : Nat) (z : List AV) (n : Nat) (ps : List (Nat × O)) : evI P Gl (.mks e sz z n ps) K r H = go2 (step Gl H.length r H (.mks e sz z n ps)) K H := rfl
theorem evI_ld (g : Option Nat) (a : O) : evI P Gl (.ld g a) K r H = go2 (step Gl H.length r H (.ld g a)) K H := rfl
theorem evI_stv (n : Nat) (a x : O) : evI P Gl (.stv n a x) K r H = go2 (step Gl H.length r H (.stv n a x)) K H := rfl
theorem evI_nilc (x : O) : evI P Gl (.nilc x) K r H = go2 (step Gl H.length r H (.nilc x)) K H := rfl
theorem evI_eqv (neg : Bool) (d : EqD) (x y : O) : evI P Gl (.eqv neg d x y) K r H = go2 (step Gl H.length r H (.eqv neg d x y)) K H := rfl
theorem evI_cvI (k : IntKind) (x : O) : evI P Gl (.cvI k x) K r H = go2 (step Gl H.length r H (.cvI k x)) K H := rfl
theorem evI_cvSB (e : Nat) (x : O) : evI P Gl (.cvSB e x) K r H = go2 (step Gl H.length r H (.cvSB e x)) K H := rfl
theorem evI_cvBS (x : O) : evI P Gl (.cvBS x) K r H = go2 (step Gl H.length r H (.cvBS x)) K H := rfl
theorem evI_cvIS (x : O) : evI P Gl (.cvIS x) K r H = go2 (step Gl H.length r H (.cvIS x)) K H := rfl
theorem evI_cvSS (x : O) : evI P Gl (.cvSS x) K r H = go2 (step Gl H.length r H (.cvSS x)) K H := rfl
theorem evI_fa (o : Nat) (x : O) : evI P Gl (.fa o x) K r H = go2 (step Gl H.length r H (.fa o x)) K H := rfl
theorem evI_iaa (n sz : Nat) (x i : O) : evI P Gl (.iaa n sz x i) K r H = go2 (step Gl H.length r H (.iaa n sz x i)) K H := rfl
theorem evI_fl (o : Nat) (g : Option Nat) (x : O) : evI P Gl (.fl o g x) K r H = go2 (step Gl H.length r H (.fl o g x)) K H := rfl
theorem evI_ixa (n sz : Nat) (g : Option Nat) (x i : O) : evI P Gl (.ixa n sz g x i) K r H = go2 (step Gl H.length r H (.ixa n sz g x i)) K H := rfl
theorem evI_ext (k : Nat) (x : O) : evI P Gl (.ext k x) K r H = go2 (step Gl H.length r H (.ext k x)) K H := rfl
theorem evI_app (e sz bytes : Nat) (str : Bool) (x y : O) : evI P Gl (.app e sz bytes str x y) K r H = go2 (step Gl H.length r H (.app e sz bytes str x y)) K H := rfl
theorem evI_len (b : Bool) (x : O) : evI P Gl (.len b x) K r H = go2 (step Gl H.length r H (.len b x)) K H := rfl
theorem evI_lenA (n : Nat) : evI P Gl (.lenA n) K r H = go2 (step Gl H.length r H (.lenA n)) K H := rfl
theorem evI_mxn (b : Bool) (xs : List O) : evI P Gl (.mxn b xs) K r H = go2 (step Gl H.length r H (.mxn b xs)) K H := rfl
theorem evI_mkf (f : FuncId) (cs : List O) : evI P Gl (.mkf f cs) K r H = go2 (step Gl H.length r H (.mkf f cs)) K H := rfl
theorem evI_rng (x : O) : evI P Gl (.rng x) K r H = go2 (step Gl H.length r H (.rng x)) K H := rfl
theorem evI_nxt (x : O) : evI P Gl (.nxt x) K r H = go2 (step Gl H.length r H (.nxt x)) K H := rfl
theorem evI_mksl (e sz bytes : Nat) (z : List AV) (l c : O) : evI P Gl (.mksl e sz bytes z l c) K r H = go2 (step Gl H.length r H (.mksl e sz bytes z l c)) K H := rfl
theorem evI_cvPU (x : O) : evI P Gl (.cvPU x) K r H = go2 (step Gl H.length r H (.cvPU x)) K H := rfl
theorem evI_cvUP (l : List (Nat × Nat)) (x : O) : evI P Gl (.cvUP l x) K r H = go2 (step Gl H.length r H (.cvUP l x)) K H := rfl
theorem evI_eqp (neg : Bool) (x y : O) : evI P Gl (.eqp neg x y) K r H = go2 (step Gl H.length r H (.eqp neg x y)) K H := rfl
theorem evI_usd (x : O) : evI P Gl (.usd x) K r H = go2 (step Gl H.length r H (.usd x)) K H := rfl
theorem evI_ust (e : Nat) (x n : O) : evI P Gl (.ust e x n) K r H = go2 (step Gl H.length r H (.ust e x n)) K H := rfl

def goB (o : Option (Nat × Nat)) (F : Nat → Nat → Prop) : Prop := match o with
  | some (l, h) => F l h
  | none => False
theorem goB_lh (len : Nat) (k k' : IntKind) (l h : Int) (F : Nat → Nat → Prop) : goB (cutB len (some (.it k l)) (some (.it k' h))) F = ((0 ≤ l ∧ l ≤ h ∧ h ≤ len) ∧ F l.toNat h.toNat) := by
  by_cases c : 0 ≤ l ∧ l ≤ h ∧ h ≤ len <;> simp [goB, cutB, bnd, c]
theorem goB_l (len : Nat) (k : IntKind) (l : Int) (F : Nat → Nat → Prop) : goB (cutB len (some (.it k l)) none) F = ((0 ≤ l ∧ l ≤ len) ∧ F l.toNat len) := by
  by_cases c : 0 ≤ l ∧ l ≤ len <;> simp [goB, cutB, bnd, c]
theorem goB_h (len : Nat) (k : IntKind) (h : Int) (F : Nat → Nat → Prop) : goB (cutB len none (some (.it k h))) F = ((0 ≤ h ∧ h ≤ len) ∧ F 0 h.toNat) := by
  by_cases c : 0 ≤ h ∧ h ≤ len <;> simp [goB, cutB, bnd, c]
theorem goB_n (len : Nat) (F : Nat → Nat → Prop) : goB (cutB len none none) F = F 0 len := by
  simp [goB, cutB, bnd]

/-- A byte of a text. -/
def goIx (s : List UInt8) (k : Int) (F : UInt8 → Prop) : Prop := 0 ≤ k ∧ match s[k.toNat]? with
  | some b => F b
  | none => False
theorem goIx_get {s : List UInt8} {k : Int} {F : UInt8 → Prop} (h0 : 0 ≤ k) (h1 : k < (s.length : Int)) (h : ∀ b, s[k.toNat]? = some b → F b) : goIx s k F := by
  refine ⟨h0, ?_⟩
  have hl : k.toNat < s.length := by omega
  rw [List.getElem?_eq_getElem hl]
  exact h _ (List.getElem?_eq_getElem hl)
theorem goIx_at {s : List UInt8} {k : Int} {F : UInt8 → Prop} {b : UInt8} (h0 : 0 ≤ k) (hb : s[k.toNat]? = some b) (h : F b) : goIx s k F := by
  refine ⟨h0, ?_⟩
  rw [hb]; exact h
theorem goIx_nat (s : List UInt8) (k : Nat) (F : UInt8 → Prop) : goIx s (k : Int) F = (match s[k]? with
  | some b => F b
  | none => False) := by simp [goIx]
theorem goIx_zero (s : List UInt8) (F : UInt8 → Prop) : goIx s 0 F = (match s[0]? with
  | some b => F b
  | none => False) := by simp [goIx]
theorem goIx_lit (s : List UInt8) (n : Nat) (F : UInt8 → Prop) : goIx s (no_index (OfNat.ofNat n)) F = (match s[n]? with
  | some b => F b
  | none => False) := by
  have : (OfNat.ofNat n : Int) = ((n : Nat) : Int) := rfl
  rw [this, goIx_nat]
theorem goIx_add (s : List UInt8) (a n : Nat) (F : UInt8 → Prop) : goIx s ((a : Int) + (no_index (OfNat.ofNat n))) F = (match s[a + OfNat.ofNat n]? with
  | some b => F b
  | none => False) := by
  have : ((a : Int) + (OfNat.ofNat n : Int)) = ((a + OfNat.ofNat n : Nat) : Int) := by simp
  rw [this, goIx_nat]

/-- An element of a slice that is read. -/
def goIa (xs : List AV) (sz : Nat) (k : Int) (F : Nat → Prop) : Prop := 0 ≤ k ∧ match xs[k.toNat]? with
  | some y => y.cells.length = sz ∧ F k.toNat
  | none => False
theorem goIa_get {xs : List AV} {sz : Nat} {k : Int} {F : Nat → Prop} (h0 : 0 ≤ k) (h1 : k < (xs.length : Int)) (hx : ∀ x ∈ xs, x.cells.length = sz) (h : ∀ y, xs[k.toNat]? = some y → F k.toNat) : goIa xs sz k F := by
  refine ⟨h0, ?_⟩
  have hl : k.toNat < xs.length := by omega
  rw [List.getElem?_eq_getElem hl]
  exact ⟨hx _ (List.getElem_mem hl), h _ (List.getElem?_eq_getElem hl)⟩

theorem evI_ix (x i : O) : evI P Gl (.ix x i) K r H = (match ov Gl r x, ov Gl r i with
    | .st s, .it _ k => goIx s k fun b => K (b8 b) H
    | _, _ => False) := by
  simp only [evI, step]
  split
  · rename_i heq
    split at heq
    · rename_i s k k' h1 h2
      rw [h1, h2]
      simp only [goIx]
      split at heq
      · rename_i hk
        split at heq
        · rename_i b hb
          rw [hb]; simp only [Option.some.injEq, Prod.mk.injEq] at heq; obtain ⟨rfl, rfl, -⟩ := heq; simp [hk]
        · cases heq
      · cases heq
    · cases heq
  · rename_i heq
    split at heq
    · split at heq
      · split at heq <;> cases heq
      · cases heq
    · cases heq
  · rename_i heq
    split at heq
    · rename_i s k k' h1 h2
      rw [h1, h2]
      simp only [goIx]
      split at heq
      · split at heq
        · cases heq
        · rename_i hb; rw [hb]; simp
      · rename_i hk; simp [hk]
    · rename_i hne
      split
      · rename_i h1 h2; exact absurd h2 (hne _ _ _ h1)
      · rfl

theorem evI_ia (sz : Nat) (x i : O) : evI P Gl (.ia sz x i) K r H = (match ov Gl r x, ov Gl r i with
    | .sl xs, .it _ k => goIa xs sz k fun n => K (.fp xs n 0) H
    | .row g n, .it _ k => go2 (match H[g]? with
      | some (.row _ sz' xs _) => if 0 ≤ k ∧ k < n ∧ xs.length = n ∧ sz' = sz then some (.el g n k.toNat 0, none, none) else none
      | _ => none) K H
    | _, _ => False) := by
  cases hx : ov Gl r x with
  | sl xs =>
    cases hi : ov Gl r i with
    | it k n =>
      simp only [evI, step, hx, hi, goIa]
      by_cases hk : 0 ≤ n
      · cases hy : xs[n.toNat]? with
        | none => simp [hk]
        | some y => by_cases hl : y.cells.length = sz <;> simp [hk, hl]
      · simp [hk]
    | _ => simp only [evI, step, hx, hi]
  | row g n =>
    cases hi : ov Gl r i with
    | it k m => simp only [evI, step, hx, hi]; rfl
    | _ => simp only [evI, step, hx, hi]
  | _ => simp only [evI, step, hx]

theorem evI_slS (x : O) (lo hi : Option O) : evI P Gl (.slS x lo hi) K r H = (match ov Gl r x with
    | .st s => goB (cutB s.length (lo.map (ov Gl r)) (hi.map (ov Gl r))) fun l h => K (.st ((s.take h).drop l)) H
    | _ => False) := by
  simp only [evI, step]
  cases hx : ov Gl r x <;> simp only <;> try rfl
  cases hc : cutB _ (lo.map (ov Gl r)) (hi.map (ov Gl r)) with
  | none => simp only [goB]
  | some p => obtain ⟨l, h⟩ := p; simp only [goB, appU]

theorem evI_slA (e sz : Nat) (x : O) (lo hi : Option O) : evI P Gl (.slA e sz x lo hi) K r H = (match ov Gl r x with
    | .sl xs => goB (cutB xs.length (lo.map (ov Gl r)) (hi.map (ov Gl r))) fun l h => xs.all (fun x => decide (x.cells.length = sz)) = true ∧ K (.sl ((xs.take h).drop l)) H
    | .row g n => match H[g]? with
      | some (.row e' sz' xs f) => goB (cutB n (lo.map (ov Gl r)) (hi.map (ov Gl r))) fun l h => (xs.length = n ∧ sz' = sz) ∧
            go2 (if f = 0 then (if l = 0 then some (.row H.length h, some (g, .dead), some (.row e' sz' (xs.take h) 0)) else none)
             else if h ≤ f then some (.sl ((xs.take h).drop l), none, none) else none) K H
      | _ => False
    | _ => False) := by
  simp only [evI, step]
  cases hx : ov Gl r x <;> simp only <;> try rfl
  · cases hc : cutB _ (lo.map (ov Gl r)) (hi.map (ov Gl r)) with
    | none => simp only [goB]
    | some p =>
      obtain ⟨l, h⟩ := p
      simp only [goB, appU]
      split <;> rename_i hs
      · split at hs
        · rename_i ha; simp only [Option.some.injEq, Prod.mk.injEq] at hs; obtain ⟨rfl, rfl, -⟩ := hs; simp [ha]
        · cases hs
      · split at hs
        · simp at hs
        · cases hs
      · split at hs
        · cases hs
        · rename_i ha; simp [ha]
  · rename_i g n
    cases hg : H[g]? with
    | none => rfl
    | some en =>
      cases en with
      | row e' sz' xs f =>
        simp only
        cases hc : cutB n (lo.map (ov Gl r)) (hi.map (ov Gl r)) with
        | none => simp only [goB]
        | some p =>
          obtain ⟨l, h⟩ := p
          simp only [goB]
          by_cases c : xs.length = n ∧ sz' = sz
          · simp only [c, and_self, if_true, true_and]; rfl
          · simp only [c, if_false, false_and]
      | _ => rfl

theorem unb8_map (l : List UInt8) : unb8 (l.map b8) = some l := by
  induction l with
  | nil => rfl
  | cons a l ih => simp only [List.map_cons, b8, unb8, ih]; simp
theorem take_mapb8 (l : List UInt8) (n : Nat) : (l.map b8).take n = (l.take n).map b8 := (List.map_take).symm
theorem drop_mapb8 (l : List UInt8) (n : Nat) : (l.map b8).drop n = (l.drop n).map b8 := (List.map_drop).symm
theorem all_b8 (l : List UInt8) : (l.map b8).all (elemOk 1) = true := by
  simp only [List.all_map, List.all_eq_true]; intro x _; rfl
theorem all_b8' (l : List UInt8) : (l.map b8).all (fun x => decide (x.cells.length = 1)) = true := by
  simp only [List.all_map, List.all_eq_true]; intro x _; rfl
theorem all_b8s (l : List UInt8) : (l.map b8).all isB8 = true := by
  simp only [List.all_map, List.all_eq_true]; intro x _
  have := x.toNat_lt
  simp only [Function.comp, b8, isB8]; simp; omega
theorem appb8 (l m : List UInt8) : l.map b8 ++ m.map b8 = (l ++ m).map b8 := by simp
theorem appb8c (l : List UInt8) (c : UInt8) : l.map b8 ++ [.it .u8 (c.toNat : Int)] = (l ++ [c]).map b8 := by simp [b8]
theorem b8nil : ([] : List AV) = ([] : List UInt8).map b8 := rfl

theorem evI_mv (x : O) : evI P Gl (.mv x) K r H = K (ov Gl r x) H := rfl
theorem evI_pick (c a b : O) : evI P Gl (.pick c a b) K r H = go1 (match ov Gl r c with
    | .bo true => some (ov Gl r a)
    | .bo false => some (ov Gl r b)
    | _ => none) K H := by
  simp only [evI, step]; cases ov Gl r c with
  | bo b => cases b <;> rfl
  | _ => rfl
theorem evI_bin (op : BinOp) (x y : O) : evI P Gl (.bin op x y) K r H = go1 (s_bin op (ov Gl r x) (ov Gl r y)) K H := by
  simp only [evI, step]; cases s_bin op (ov Gl r x) (ov Gl r y) <;> rfl
theorem evI_un (op : UnOp) (x : O) : evI P Gl (.un op x) K r H = go1 (s_un op (ov Gl r x)) K H := by
  simp only [evI, step]; cases s_un op (ov Gl r x) <;> rfl
end

/-- A guard. -/
def evGd (c : AV) (b : Bool) (A B : Prop) : Prop := match c with
  | .bo c => (c = b → A) ∧ (c ≠ b → B)
  | _ => False
theorem evGd_tt (A B : Prop) : evGd (.bo true) true A B = A := by simp [evGd]
theorem evGd_tf (A B : Prop) : evGd (.bo true) false A B = B := by simp [evGd]
theorem evGd_ft (A B : Prop) : evGd (.bo false) true A B = B := by simp [evGd]
theorem evGd_ff (A B : Prop) : evGd (.bo false) false A B = A := by simp [evGd]
theorem evGd_dt (p : Prop) [Decidable p] {A B : Prop} (ha : p → A) (hb : ¬ p → B) : evGd (.bo (decide p)) true A B := by
  by_cases h : p <;> simp [evGd, h, ha, hb]
theorem evGd_df (p : Prop) [Decidable p] {A B : Prop} (ha : p → B) (hb : ¬ p → A) : evGd (.bo (decide p)) false A B := by
  by_cases h : p <;> simp [evGd, h, ha, hb]
theorem evGd_b (c b : Bool) {A B : Prop} (ha : c = b → A) (hb : (c == b) = false → B) : evGd (.bo c) b A B := ⟨ha, fun h => hb (by simpa using h)⟩
theorem evGd_bt (c : Bool) {A B : Prop} (ha : c = true → A) (hb : c = false → B) : evGd (.bo c) true A B := ⟨ha, fun h => hb (by simpa using h)⟩
theorem evGd_bf (c : Bool) {A B : Prop} (ha : c = true → B) (hb : c = false → A) : evGd (.bo c) false A B := ⟨hb, fun h => ha (by simpa using h)⟩

theorem evG_n (d : Option Nat) (i : I) (K : Regs → List Ent → Prop) : evG P Gl ⟨d, i, none, 0⟩ K r H = evI P Gl i (fun a H1 => K (putR d a r) H1) r H := rfl
theorem evG_n1 (d : Option Nat) (i : I) (K : Regs → List Ent → Prop) : evG P Gl ⟨d, i, none, 1⟩ K r H = evR P Gl i (fun a H1 => K (putR d a r) H1) r H := rfl
theorem evG_n2 (d : Option Nat) (i : I) (K : Regs → List Ent → Prop) : evG P Gl ⟨d, i, none, 2⟩ K r H = evQ P Gl i (fun a H1 => K (putR d a r) H1) r H := rfl
theorem evG_g (d : Option Nat) (i : I) (t : Nat) (b : Bool) (K : Regs → List Ent → Prop) : evG P Gl ⟨d, i, some (t, b), 0⟩ K r H = evGd (look r t) b (evI P Gl i (fun a H1 => K (putR d a r) H1) r H) (K (putR d .un r) H) := rfl
theorem evG_g1 (d : Option Nat) (i : I) (t : Nat) (b : Bool) (K : Regs → List Ent → Prop) : evG P Gl ⟨d, i, some (t, b), 1⟩ K r H = evGd (look r t) b (evR P Gl i (fun a H1 => K (putR d a r) H1) r H) (K (putR d .un r) H) := rfl
theorem evG_g2 (d : Option Nat) (i : I) (t : Nat) (b : Bool) (K : Regs → List Ent → Prop) : evG P Gl ⟨d, i, some (t, b), 2⟩ K r H = evGd (look r t) b (evQ P Gl i (fun a H1 => K (putR d a r) H1) r H) (K (putR d .un r) H) := rfl

theorem putR_s (t : Nat) (a : AV) (r : Regs) : putR (some t) a r = (t, a) :: r := rfl
theorem putR_n (a : AV) (r : Regs) : putR none a r = r := rfl
theorem look_c (k t : Nat) (a : AV) (r : Regs) : look ((k, a) :: r) t = if k = t then a else look r t := rfl
theorem ov_t (n : Nat) : ov Gl r (.t n) = look r n := rfl
theorem ov_c (a : AV) : ov Gl r (.c a) = a := rfl
theorem ov_g (n : Nat) : ov Gl r (.g n) = Gl n := rfl
theorem ov_f (n : FuncId) : ov Gl r (.f n) = .fn n [] := rfl

theorem keepR_c (t : Nat) (l : List Nat) (r : Regs) : keepR (t :: l) r = (t, look r t) :: keepR l r := rfl
theorem keepR_n (r : Regs) : keepR [] r = [] := rfl

/-- A condition. -/
def evC (c : AV) (A B : Prop) : Prop := match c with
  | .bo t => (t = true → A) ∧ (t = false → B)
  | _ => False
theorem ev_cd' {c : O} {a b : C} {v : AV} (hc : ov Gl r c = v) (h : evC v (ev P Gl keep a Q r H) (ev P Gl keep b Q r H)) : ev P Gl keep (.cd c a b) Q r H := by
  subst hc; exact h
theorem evC_t {A B : Prop} (h : A) : evC (.bo true) A B := ⟨fun _ => h, fun e => by cases e⟩
theorem evC_f {A B : Prop} (h : B) : evC (.bo false) A B := ⟨(fun e => by cases e), fun _ => h⟩
theorem evC_d {p : Prop} [Decidable p] {A B : Prop} (ha : p → A) (hb : ¬ p → B) : evC (.bo (decide p)) A B := ⟨fun h => ha (of_decide_eq_true h), fun h => hb (of_decide_eq_false h)⟩
theorem evC_nd {p : Prop} [Decidable p] {A B : Prop} (ha : ¬ p → A) (hb : p → B) : evC (.bo (!decide p)) A B := ⟨fun h => ha (by simpa using h), fun h => hb (by simpa using h)⟩
theorem evC_n {b : Bool} {A B : Prop} (ha : b = false → A) (hb : b = true → B) : evC (.bo (!b)) A B := ⟨fun h => ha (by simpa using h), fun h => hb (by simpa using h)⟩
theorem evC_b {b : Bool} {A B : Prop} (ha : b = true → A) (hb : b = false → B) : evC (.bo b) A B := ⟨ha, hb⟩

theorem wrap_i64 {n : Int} (h1 : -9223372036854775808 ≤ n) (h2 : n ≤ 9223372036854775807) : IntKind.i64.wrap n = n := by
  simp only [IntKind.wrap, IntKind.bits, IntKind.signed, Bool.true_and, Bool.false_and, decide_eq_true_eq, Nat.reduceSub, Int.reducePow, Nat.reducePow, ge_iff_le, Bool.false_eq_true, if_false]
  first | omega | (split <;> omega)
theorem wrap_i32 {n : Int} (h1 : -2147483648 ≤ n) (h2 : n ≤ 2147483647) : IntKind.i32.wrap n = n := by
  simp only [IntKind.wrap, IntKind.bits, IntKind.signed, Bool.true_and, Bool.false_and, decide_eq_true_eq, Nat.reduceSub, Int.reducePow, Nat.reducePow, ge_iff_le, Bool.false_eq_true, if_false]
  first | omega | (split <;> omega)
theorem wrap_u8 {n : Int} (h1 : 0 ≤ n) (h2 : n ≤ 255) : IntKind.u8.wrap n = n := by
  simp only [IntKind.wrap, IntKind.bits, IntKind.signed, Bool.true_and, Bool.false_and, decide_eq_true_eq, Nat.reduceSub, Int.reducePow, Nat.reducePow, ge_iff_le, Bool.false_eq_true, if_false]
  first | omega | (split <;> omega)
theorem wrap_u64 {n : Int} (h1 : 0 ≤ n) (h2 : n ≤ 18446744073709551615) : IntKind.u64.wrap n = n := by
  simp only [IntKind.wrap, IntKind.bits, IntKind.signed, Bool.true_and, Bool.false_and, decide_eq_true_eq, Nat.reduceSub, Int.reducePow, Nat.reducePow, ge_iff_le, Bool.false_eq_true, if_false]
  first | omega | (split <;> omega)

theorem cells_ag (cs : List AV) : (AV.ag cs).cells = cs := rfl
theorem cells_nl : AV.nl.cells = [AV.nl] := rfl
theorem one_nl : AV.nl.isOne = true := rfl
theorem cells_bo (b : Bool) : (AV.bo b).cells = [.bo b] := rfl
theorem one_bo (b : Bool) : (AV.bo b).isOne = true := rfl
theorem cells_it (k : IntKind) (n : Int) : (AV.it k n).cells = [.it k n] := rfl
theorem one_it (k : IntKind) (n : Int) : (AV.it k n).isOne = true := rfl
theorem cells_st (s : List UInt8) : (AV.st s).cells = [.st s] := rfl
theorem one_st (s : List UInt8) : (AV.st s).isOne = true := rfl
theorem cells_sc (v : Value) : (AV.sc v).cells = [.sc v] := rfl
theorem one_sc (v : Value) : (AV.sc v).isOne = true := rfl
theorem cells_sl (xs : List AV) : (AV.sl xs).cells = [.sl xs] := rfl
theorem one_sl (xs : List AV) : (AV.sl xs).isOne = true := rfl
theorem cells_row (g n : Nat) : (AV.row g n).cells = [.row g n] := rfl
theorem one_row (g n : Nat) : (AV.row g n).isOne = true := rfl
theorem cells_ptr (g o : Nat) : (AV.ptr g o).cells = [.ptr g o] := rfl
theorem one_ptr (g o : Nat) : (AV.ptr g o).isOne = true := rfl
theorem cells_el (g n i o : Nat) : (AV.el g n i o).cells = [.el g n i o] := rfl
theorem one_el (g n i o : Nat) : (AV.el g n i o).isOne = true := rfl
theorem cells_fp (xs : List AV) (i o : Nat) : (AV.fp xs i o).cells = [.fp xs i o] := rfl
theorem one_fp (xs : List AV) (i o : Nat) : (AV.fp xs i o).isOne = true := rfl
theorem cells_fn (f : FuncId) (c : List AV) : (AV.fn f c).cells = [.fn f c] := rfl
theorem one_fn (f : FuncId) (c : List AV) : (AV.fn f c).isOne = true := rfl
theorem b8_def (c : UInt8) : b8 c = .it .u8 (c.toNat : Int) := rfl
theorem beq_dec {α : Type} [DecidableEq α] (a b : α) : (a == b) = decide (a = b) := by
  by_cases h : a = b <;> simp [h]
theorem toNat_lit (a n : Nat) : ((a : Int) + (no_index (OfNat.ofNat n))).toNat = a + OfNat.ofNat n := by
  have : ((a : Int) + (OfNat.ofNat n : Int)) = ((a + OfNat.ofNat n : Nat) : Int) := by simp
  rw [this]; rfl
theorem map_b8_get (s : List UInt8) (i : Nat) : (s.map b8)[i]? = (s[i]?).map b8 := by simp

theorem belA_nil {n : Nat} : ∀ a ∈ ([] : List AV), Bel n a := fun _ h => by cases h
theorem belA_cons {n : Nat} {a : AV} {l : List AV} (h : Bel n a) (hl : ∀ x ∈ l, Bel n x) : ∀ x ∈ a :: l, Bel n x := fun x hx => by
  rcases List.mem_cons.1 hx with rfl | hx
  · exact h
  · exact hl x hx
theorem bel_b8s {n : Nat} (l : List UInt8) : Bel n (.sl (l.map b8)) := .sl _ fun x hx c hc => by
  obtain ⟨b, _, rfl⟩ := List.mem_map.1 hx
  rw [b8_def, cells_it] at hc
  obtain rfl := List.mem_singleton.1 hc
  exact .it _ _
theorem bel_sl0 {n : Nat} : Bel n (.sl []) := .sl _ fun x hx => by cases hx
theorem bel_sl {n : Nat} {α : Type} {f : α → AV} {l : List α} (h : ∀ a ∈ l, ∀ c ∈ (f a).cells, Bel n c) : Bel n (.sl (l.map f)) := .sl _ fun x hx c hc => by
  obtain ⟨b, hb, rfl⟩ := List.mem_map.1 hx
  exact h b hb c hc
theorem bel_sts {n : Nat} (l : List (List UInt8)) : Bel n (.sl (l.map .st)) := bel_sl fun a _ c hc => by
  rw [cells_st] at hc
  obtain rfl := List.mem_singleton.1 hc
  exact .st _

/-- A body's end. -/
theorem end_same {rl : List RV} {H1 : List Ent} {res : AV} (h : resA H1 r rl = some res) : ∃ a H2, resA H1 r rl = some a ∧ FrzV H1 a res H2 := ⟨res, H1, h, .same _ _⟩
theorem end_frz {rl : List RV} {H1 : List Ent} {a res : AV} {H2 : List Ent} (h : resA H1 r rl = some a) (hf : dFrz 8 H1 a = (res, H2)) : ∃ a H2, resA H1 r rl = some a ∧ FrzV H1 a res H2 := ⟨a, H2, h, by
  have := dFrz_ok 8 H1 a; rw [hf] at this; exact this⟩
end

attribute [go_sem] evG_n evG_n1 evG_n2 evG_g evG_g1 evG_g2 evGd_tt evGd_tf evGd_ft evGd_ff evI_call' evI_callv' evR_call' evQ_call' evR_callv' evQ_callv' evQ_slA
  evI_mv evI_pick evI_bin evI_un evI_nrow evI_cvMk evI_alloc evI_box evI_build evI_mks evI_ld evI_stv evI_nilc evI_eqv evI_cvI evI_cvSB evI_cvBS evI_cvIS evI_cvSS evI_slS evI_slA evI_fa evI_ia evI_iaa evI_fl evI_ix evI_ixa evI_ext evI_app evI_len evI_lenA evI_mxn evI_mkf evI_rng evI_nxt evI_mksl evI_cvPU evI_cvUP evI_eqp evI_usd evI_ust step go1_some go1_none go1_ite go2_n go2_e go2_none go2_ite
  putR_s putR_n look_c ov_t ov_c ov_g ov_f initR keepR_c keepR_n cells_ag cells_nl one_nl cells_bo one_bo cells_it one_it cells_st one_st cells_sc one_sc cells_sl one_sl cells_row one_row cells_ptr one_ptr cells_el one_el cells_fp one_fp cells_fn one_fn appU cellsAt takeV splice putIn s_store elems srcOf goB_lh goB_l goB_h goB_n goIx_nat goIx_lit goIx_add goIx_zero unb8_map take_mapb8 drop_mapb8 all_b8 all_b8' all_b8s appb8 appb8c List.getElem?_map fillC mxs elemOk zel s_bin s_un s_eq leafEq allEq unb8 isB8 isIt
  List.all_cons List.all_nil List.length_cons List.length_nil List.nil_append List.cons_append List.append_nil List.map_cons List.map_nil List.getElem?_cons_zero List.getElem?_cons_succ List.getElem?_nil
  List.take_zero List.take_succ_cons List.drop_zero List.drop_succ_cons List.set_cons_zero List.set_cons_succ List.length_map List.length_set List.length_append
  Option.map_some Option.map_none Option.getD_some Option.getD_none
  Bool.and_self Bool.and_true Bool.true_and Bool.and_false Bool.false_and Bool.or_true Bool.true_or Bool.or_false Bool.false_or Bool.not_true Bool.not_false Bool.xor_false Bool.false_xor Bool.true_xor Bool.xor_true Bool.not_not
  if_true if_false Nat.zero_add Nat.add_zero Int.zero_add Int.add_zero Int.sub_zero ite_true ite_false
  decide_eq_true_eq decide_eq_false_iff_not ne_eq Decidable.not_not not_true_eq_false not_false_eq_true false_implies true_implies forall_const and_true true_and implies_true and_self decide_true decide_false
  gt_iff_lt ge_iff_le beq_dec bne b8_def toNat_lit Int.toNat_natCast Int.ofNat_eq_natCast
  Nat.le_refl Int.le_refl
  resA rv mapM' dFrz frzAll
end Go.Am
