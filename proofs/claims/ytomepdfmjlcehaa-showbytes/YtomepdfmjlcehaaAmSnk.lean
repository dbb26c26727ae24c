/- Whole bodies: what is told of them comes true. -/
import Derived.Test.YtomepdfmjlcehaaAmSnj
set_option linter.unusedVariables false
set_option linter.unusedSimpArgs false
namespace Go.Am

/-! ### The results -/
inductive RV where
  | tmp (t : Nat)
  | cell (t : Nat) (g : Option Nat)

def rvOf (P : Program) : ResultVar → Option RV
  | .tmp t => some (.tmp t)
  | .cell t ty => (aggOf P ty).map (.cell t)

def rv (H : List Ent) (r : Regs) : RV → Option AV
  | .tmp t => some (look r t)
  | .cell t g => match cellsAt H (look r t) with
    | some (cs, o) => takeV cs o g
    | none => none

def resA (H : List Ent) (r : Regs) (l : List RV) : Option AV := match mapM' (rv H r) l with
  | some [a] => some a
  | some as => some (.tp as)
  | none => none

/-- A body's end: its answer, frozen, and the heap that is left. -/
def Ends (rl : List RV) (H : List Ent) (r : Regs) (H1 : List Ent) (res : AV) (H' : List Ent) : Prop :=
  ∃ a H2, resA H1 r rl = some a ∧ FrzV H1 a res H2 ∧ Drop H H2 H' res

def initR : Nat → List AV → Regs
  | _, [] => []
  | k, a :: l => (k, a) :: initR (k + 1) l

theorem look_initR : ∀ (l : List AV) (k t : Nat), look (initR k l) t = if k ≤ t then (l[t - k]?).getD .un else .un
  | [], k, t => by simp [initR, look]
  | a :: l, k, t => by
    simp only [initR, look]
    split
    · rename_i h; subst h; simp
    · rename_i h
      rw [look_initR l (k + 1) t]
      by_cases h1 : k + 1 ≤ t
      · rw [if_pos h1, if_pos (by omega)]
        have : t - k = (t - (k + 1)) + 1 := by omega
        rw [this]; rfl
      · rw [if_neg h1, if_neg (by omega)]

theorem look_keepR : ∀ (l : List Nat) (r : Regs) (t : Nat), look (keepR l r) t = look r t ∨ look (keepR l r) t = .un
  | [], r, t => .inr rfl
  | k :: l, r, t => by
    simp only [keepR, List.map_cons, look]
    split
    · rename_i h; subst h; exact .inl rfl
    · exact look_keepR l r t

section
variable {P : Program} {Gl : Nat → AV} {nt : Nat} {G0 : Gho} {w0 : World} {keep : List Nat}

/-- What is told of an exit comes true. -/
def PX (Gl : Nat → AV) (nt : Nat) (G0 : Gho) (w0 : World) (Q : X → Regs → List Ent → Prop) : Exit → Act → World → Prop
  | .normal, a, w => ∃ r H, Iv Gl nt G0 w0 a w r H ∧ Q .normal r H
  | .exit id, a, w => ∃ r H, Iv Gl nt G0 w0 a w r H ∧ Q (.exit id) r H
  | .ret, a, w => ∃ r H, Iv Gl nt G0 w0 a w r H ∧ Q .ret r H
  | _, _, _ => False

theorem Iv.kept {a : Act} {w : World} {r : Regs} {H : List Ent} (h : Iv Gl nt G0 w0 a w r H) : Iv Gl nt G0 w0 a w (keepR keep r) H := by
  obtain ⟨K, γ, h1, h2, h3, h4⟩ := h
  refine ⟨K, γ, h1, h2, fun t => ?_, h4⟩
  rcases look_keepR keep r t with e | e
  · rw [e]; exact h3 t
  · rw [e]; exact .un _

theorem Iv.drew {a : Act} {w : World} {r : Regs} {H : List Ent} (h : Iv Gl nt G0 w0 a w r H) : Iv Gl nt G0 w0 a { w with drawn := w.drawn + 1 } r H := by
  obtain ⟨K, γ, h1, h2, h3⟩ := h
  exact ⟨K, γ, h1.drew, h2.trans (Wf.drew _ _), h3⟩

theorem code_sound (hm : P.follows .mixedOrders = true) : ∀ (code : Code) (c : C), compile P nt code = some c → ∀ (Q : X → Regs → List Ent → Prop) (a : Act) (w : World) (r : Regs) (H : List Ent),
    Iv Gl nt G0 w0 a w r H → ev P Gl keep c Q r H → code.wp P (PX Gl nt G0 w0 Q) a w
  | .skip, c, hc, Q, a, w, r, H, iv, h => by
    simp only [compile, Option.some.injEq] at hc
    subst hc
    exact wp_skip ⟨r, H, iv, h⟩
  | .region id ops false, c, hc, Q, a, w, r, H, iv, h => by
    simp only [compile] at hc
    cases hm' : mapM' (cOp P nt ops) ops.toList with
    | none => rw [hm'] at hc; cases hc
    | some cs =>
      rw [hm'] at hc
      simp only [Option.map_some, Option.some.injEq] at hc
      subst hc
      exact wp_region_list (evOps_sound (fun a w r H iv h => ⟨_, H, iv.kept, h⟩) ops.toList cs a w r H hm' iv h)
  | .region id ops true, c, hc, Q, a, w, r, H, iv, h => by
    simp only [compile] at hc
    cases hm' : mapM' (cOp P nt ops) ops.toList with
    | none => rw [hm'] at hc; cases hc
    | some cs =>
      rw [hm'] at hc
      simp only at hc
      cases hp : plan ops (setQ ops cs) ops.size (Array.replicate ops.size false) with
      | none => rw [hp] at hc; cases hc
      | some d =>
        rw [hp] at hc
        simp only [Option.map_some, Option.some.injEq] at hc
        subst hc
        obtain ⟨h1, h2⟩ := cops_of hm'
        have h3 := evD_plan (Gl := Gl) (G0 := G0) (w0 := w0) h1 h2 (fun r r' H e h => by
          have : keepR keep r = keepR keep r' := by simp only [keepR]; exact List.map_congr_left fun t _ => by rw [e t]
          rw [← this]; exact h) _ _ _ _ _ hp ⟨a, w, iv⟩ h
        exact wp_region_any hm (evAny_sound h1 (fun a w r H iv h => ⟨_, H, iv.kept, h⟩) _ _ a _ r H iv.drew h3)
  | .seq x y, c, hc, Q, a, w, r, H, iv, h => by
    simp only [compile] at hc
    split at hc
    · rename_i cx cy hx hy
      injection hc with hc
      subst hc
      refine wp_seq (wp_mono (code_sound hm x cx hx _ a w r H iv h) fun e a w hq => ?_)
      cases e with
      | normal =>
        obtain ⟨r1, H1, iv1, h1⟩ := hq
        exact code_sound hm y cy hy Q a w r1 H1 iv1 h1
      | exit id => exact hq
      | ret => exact hq
      | _ => exact hq.elim
    · cases hc
  | .cond o x y, c, hc, Q, a, w, r, H, iv, h => by
    simp only [compile] at hc
    split at hc
    · rename_i o' cx cy ho hx hy
      injection hc with hc
      subst hc
      simp only [ev] at h
      split at h
      · rename_i t ht
        obtain ⟨K, γ, h1, h2, h3, h4, h5⟩ := iv
        have hv := rl_O (act := a) h3 h4 ho
        rw [ht] at hv
        have he : a.eval o = .bool t := by
          generalize a.eval o = v at hv
          cases hv; rfl
        exact wp_cond_split he (fun e => code_sound hm x cx hx Q a w r H ⟨K, γ, h1, h2, h3, h4, h5⟩ (h.1 e)) (fun e => code_sound hm y cy hy Q a w r H ⟨K, γ, h1, h2, h3, h4, h5⟩ (h.2 e))
      · exact h.elim
    · cases hc
  | .block id x, c, hc, Q, a, w, r, H, iv, h => by
    simp only [compile] at hc
    cases hx : compile P nt x with
    | none => rw [hx] at hc; cases hc
    | some cx =>
      rw [hx] at hc
      simp only [Option.map_some, Option.some.injEq] at hc
      subst hc
      refine wp_block (wp_mono (code_sound hm x cx hx _ a w r H iv h) fun e a w hq => ?_)
      cases e with
      | normal => exact hq
      | exit id' =>
        obtain ⟨r1, H1, iv1, h1⟩ := hq
        simp only [Exit.inBlock]
        split
        · rename_i e; simp only [e, if_true] at h1; exact ⟨r1, H1, iv1, h1⟩
        · rename_i e; simp only [e, if_false] at h1; exact ⟨r1, H1, iv1, h1⟩
      | ret => exact hq
      | _ => exact hq.elim
  | .loop x, c, hc, Q, a, w, r, H, iv, h => by
    simp only [compile] at hc
    cases hx : compile P nt x with
    | none => rw [hx] at hc; cases hc
    | some cx =>
      rw [hx] at hc
      simp only [Option.map_some, Option.some.injEq] at hc
      subst hc
      have key := h (fun r H => ∀ a w, Iv Gl nt G0 w0 a w r H → ∀ (b : Frame) (k : List Item) (cs : List Frame),
        ∃ e a' w', PX Gl nt G0 w0 Q e a' w' ∧ Arrives P (lone (b.at a (.code x :: .inLoop x :: k)) cs w) b k cs e a' w') fun r H hb a w iv b k cs => by
          obtain ⟨e, a₁, w₁, hq, harr⟩ := code_sound hm x cx hx _ a w r H iv hb b (.inLoop x :: k) cs
          cases e with
          | normal =>
            obtain ⟨r1, H1, iv1, h1⟩ := hq
            obtain ⟨e₂, a₂, w₂, hq₂, harr₂⟩ := h1 a₁ w₁ iv1 b k cs
            exact ⟨e₂, a₂, w₂, hq₂, .of_steps (Steps.trans harr (.one step_inLoop)) harr₂⟩
          | exit id =>
            obtain ⟨r1, H1, iv1, h1⟩ := hq
            exact ⟨.exit id, a₁, w₁, ⟨r1, H1, iv1, h1⟩, .pass (x := .inLoop x) rfl (fun _ _ => .inl (by simp)) harr⟩
          | ret =>
            obtain ⟨r1, H1, iv1, h1⟩ := hq
            exact ⟨.ret, a₁, w₁, ⟨r1, H1, iv1, h1⟩, .pass (x := .inLoop x) rfl (fun _ _ => .inl (by simp)) harr⟩
          | goto l => exact hq.elim
          | panic ch => exact hq.elim
          | outgrown => exact hq.elim
      intro b k cs
      obtain ⟨e, a', w', hq, harr⟩ := key a w iv b k cs
      exact ⟨e, a', w', hq, .of_steps (.one step_loop) harr⟩
  | .exit id, c, hc, Q, a, w, r, H, iv, h => by
    simp only [compile, Option.some.injEq] at hc
    subst hc
    exact wp_exit ⟨r, H, iv, h⟩
  | .ret, c, hc, Q, a, w, r, H, iv, h => by
    simp only [compile, Option.some.injEq] at hc
    subst hc
    exact wp_ret ⟨r, H, iv, h⟩
  | .rangeFunc _ _ _ _, c, hc, Q, a, w, r, H, iv, h => by simp [compile] at hc
  | .scope _, c, hc, Q, a, w, r, H, iv, h => by simp [compile] at hc
  | .label _, c, hc, Q, a, w, r, H, iv, h => by simp [compile] at hc
  | .goto _, c, hc, Q, a, w, r, H, iv, h => by simp [compile] at hc
  | .refuse _, c, hc, Q, a, w, r, H, iv, h => by
    simp only [compile, Option.some.injEq] at hc
    subst hc
    exact h.elim

def resSem (tmps : Array Value) : ResultVar → Sem Value := fun
  | .tmp t => pure (tmps.getD t undef)
  | .cell a t => do loadVar t (← asAddr (tmps.getD a undef))

theorem results_run {fn : Func} {rl : List RV} (hr : mapM' (rvOf P) fn.results.toList = some rl) {K γ H} {w : World} (st : St ⟨K, γ, H⟩ w) {tmps : Array Value} {r : Regs} (ho : RegsOk ⟨K, γ, H⟩ tmps r) {a : AV}
    (ha : resA H r rl = some a) : ∃ v, (results fn tmps).run P w = .ok v w ∧ Rl ⟨K, γ, H⟩ v a := by
  have one : ∀ (x : ResultVar) (y : RV) (b : AV), rvOf P x = some y → rv H r y = some b → ∃ v, (resSem tmps x).run P w = .ok v w ∧ Rl ⟨K, γ, H⟩ v b := by
    intro x y b hx hy
    cases x with
    | tmp t =>
      simp only [rvOf, Option.some.injEq] at hx
      subst hx
      simp only [rv, Option.some.injEq] at hy
      subst hy
      exact ⟨_, rfl, ho t⟩
    | cell t ty =>
      simp only [rvOf] at hx
      cases hg : aggOf P ty with
      | none => rw [hg] at hx; cases hx
      | some g =>
        rw [hg] at hx
        simp only [Option.map_some, Option.some.injEq] at hx
        subst hx
        simp only [rv] at hy
        split at hy
        · rename_i cs o hc
          obtain ⟨b', p, e, hcell⟩ := rl_addr (G := ⟨K, γ, H⟩) st (ho t) hc
          obtain ⟨u, h1, h2⟩ := run_loadVar (P := P) hg hcell hy
          refine ⟨u, ?_, h2⟩
          simp only [resSem, e, asAddr]
          simpa using h1
        · cases hy
  have many : ∀ (xs : List ResultVar) (ys : List RV) (bs : List AV), mapM' (rvOf P) xs = some ys → mapM' (rv H r) ys = some bs → ∃ vs : List Value, (xs.mapM (resSem tmps)).run P w = .ok vs w ∧ vs.length = bs.length ∧ ∀ (j : Nat) (v : Value) (c : AV), vs[j]? = some v → bs[j]? = some c → Rl ⟨K, γ, H⟩ v c := by
    intro xs
    induction xs with
    | nil =>
      intro ys bs h1 h2
      simp only [mapM', Option.some.injEq] at h1
      subst h1
      simp only [mapM', Option.some.injEq] at h2
      subst h2
      exact ⟨[], by simp, rfl, fun j v c h => by simp at h⟩
    | cons x xs ih =>
      intro ys bs h1 h2
      obtain ⟨y, ys', rfl, k1, k2⟩ := mapM'_cons h1
      obtain ⟨b, bs', rfl, k3, k4⟩ := mapM'_cons h2
      obtain ⟨v, e1, e2⟩ := one x y b k1 k3
      obtain ⟨vs, e3, e4, e5⟩ := ih ys' bs' k2 k4
      refine ⟨v :: vs, by simp [List.mapM_cons, e1, e3], by simp [e4], fun j u c hj hc => ?_⟩
      cases j with
      | zero => simp at hj hc; subst hj; subst hc; exact e2
      | succ j => exact e5 j u c (by simpa using hj) (by simpa using hc)
  unfold resA at ha
  cases hb : mapM' (rv H r) rl with
  | none => rw [hb] at ha; cases ha
  | some bs =>
    rw [hb] at ha
    obtain ⟨vs, e1, e2, e3⟩ := many _ _ _ hr hb
    have hrun : (results fn tmps).run P w = .ok (if h : vs.toArray.size = 1 then vs.toArray[0] else .tuple vs.toArray) w := by
      have : results fn tmps = (do
        let vs ← fn.results.mapM (resSem tmps)
        pure (if h : vs.size = 1 then vs[0] else .tuple vs)) := rfl
      rw [this, Array.mapM_eq_mapM_toList]
      simp [e1]
    refine ⟨_, hrun, ?_⟩
    clear hrun hb e1
    cases bs with
    | nil =>
      simp only [Option.some.injEq] at ha
      subst ha
      cases vs with
      | nil => exact .tp _ _ rfl fun j v c h => by simp at h
      | cons v vs => cases e2
    | cons b bs => cases bs with
      | nil =>
        simp only [Option.some.injEq] at ha
        subst ha
        cases vs with
        | nil => cases e2
        | cons v vs => cases vs with
          | nil => exact e3 0 v b rfl rfl
          | cons v' vs => simp at e2
      | cons b' bs =>
        simp only [Option.some.injEq] at ha
        subst ha
        cases vs with
        | nil => cases e2
        | cons v vs => cases vs with
          | nil => simp at e2
          | cons v' vs => exact .tp _ _ (by simpa using e2) fun j u c h k => e3 j u c (by simpa using h) k

/-- A function's contract, out of its body. -/
theorem con_of_ev (hm : P.follows .mixedOrders = true) {f : FuncId} {fn : Func} {code : Code} {c : C} {rl : List RV} (hf : P.funcs[f]? = some fn) (hb : fn.body = some code) (hn : (fn.name == "runtime.NumGoroutine") = false)
    (hc : compile P fn.ntmps code = some c) (hr : mapM' (rvOf P) fn.results.toList = some rl) {args : List AV} (ha : args.length ≤ fn.ntmps) (keep : List Nat) {H H' : List Ent} {res : AV}
    (h : ev P Gl keep c (fun x r H1 => match x with
      | .exit _ => False
      | _ => Ends rl H r H1 res H') (initR 0 args) H) : Con P Gl f args H res H' := by
  refine ⟨⟨fn, hf, by rw [hb]; rfl, hn⟩, fun K γ w vs st hg hl hv => calls_of_wp hf hb ?_⟩
  have iv : Iv Gl fn.ntmps ⟨K, γ, H⟩ w { tmps := vs ++ Array.replicate (fn.ntmps - vs.size) undef, defers := [] } w (initR 0 args) H := by
    refine ⟨K, γ, st, Wf.refl _ _, fun t => ?_, hg, by simp; omega, rfl⟩
    rw [look_initR, if_pos (Nat.zero_le _), Nat.sub_zero]
    by_cases ht : t < vs.size
    · have h1 : (vs ++ Array.replicate (fn.ntmps - vs.size) undef).getD t undef = vs[t] := by
        simp [Array.getElem?_append_left ht, ht]
      rw [h1]
      have h2 : args[t]? = some args[t] := List.getElem?_eq_getElem (by omega)
      rw [h2]
      exact hv t _ _ (Array.getElem?_eq_getElem ht) h2
    · have h2 : args[t]? = none := List.getElem?_eq_none (by omega)
      rw [h2]
      exact .un _
  refine wp_mono (code_sound hm code c hc _ _ w _ H iv h) fun e a' w' hq => ?_
  have fin : ∀ r H1, Iv Gl fn.ntmps ⟨K, γ, H⟩ w a' w' r H1 → Ends rl H r H1 res H' → a'.defers = [] ∧ ∃ v, (results fn a'.tmps).run P w' = .ok v w' ∧
      ∃ v' K' γ', Ending.returned v = .returned v' ∧ St ⟨K', γ', H'⟩ w' ∧ Wf ⟨K, γ, H⟩ w ⟨K', γ', H'⟩ w' ∧ Rl ⟨K', γ', H'⟩ v' res := by
    rintro r H1 ⟨K1, γ1, i1, i2, i3, i4, i5, i6⟩ ⟨x, H2, k1, k2, k3⟩
    obtain ⟨v, j1, j2⟩ := results_run hr i1 i3 k1
    obtain ⟨⟨K2, γ2, H2'⟩, e1, e2, e3, e4⟩ := frzV_ok k2 ⟨K1, γ1, H1⟩ rfl i1
    simp only at e1
    subst e1
    obtain ⟨d1, d2, d3⟩ := drop_ok (G0 := ⟨K, γ, H⟩) st e2 (i2.trans e3) (e4 v j2) k3
    exact ⟨i6, v, j1, v, _, _, rfl, d1, d2, d3⟩
  cases e with
  | normal =>
    obtain ⟨r, H1, iv1, h1⟩ := hq
    exact fin r H1 iv1 h1
  | ret =>
    obtain ⟨r, H1, iv1, h1⟩ := hq
    exact fin r H1 iv1 h1
  | exit id =>
    obtain ⟨r, H1, iv1, h1⟩ := hq
    exact h1.elim
  | _ => exact hq.elim

end
end Go.Am
