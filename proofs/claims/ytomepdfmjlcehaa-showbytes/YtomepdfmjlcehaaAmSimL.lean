/- The step as a whole: whatever instruction an operation has turned into, the machine does what the step says. -/
import Derived.Test.YtomepdfmjlcehaaAmSimM
set_option linter.unusedVariables false
set_option linter.unusedSimpArgs false
namespace Go.Am
section
variable {P : Program} {G : Gho} {w : World} {id : Nat} {act : Act} {r : Regs} {Gl : Nat → AV}

def Done (P : Program) (G : Gho) (w : World) (id : Nat) (s : Sem Next) (a : AV) (H' : List Ent) (new : Option Ent) : Prop :=
  ∃ v w' G', (s.run P w = .ok (.value v) w' ∨ (s.run P w = .ok .skip w' ∧ v = undef)) ∧ St G' w' ∧ Wf G w G' w' ∧ G'.H = hp H' id new ∧ Rl G' v a

theorem Out.done {x : Sem Value} {s : Sem Next} {a : AV} {H' : List Ent} {new : Option Ent} (h : Out P G w id x a H' new) (e : s = (do pure (Next.value (← x)))) : Done P G w id s a H' new := by
  obtain ⟨v, w', G', h1, h2⟩ := h
  refine ⟨v, w', G', .inl ?_, h2⟩
  rw [e]
  simp [h1]

theorem opt_lo (hr : RegsOk G act.tmps r) (hg : GlOk G Gl) {x : Option Operand} {y : Option O} (h : cOpt x = some y) :
    (∀ u, x.map act.eval = some u → ∃ c, y.map (ov Gl r) = some c ∧ Rl G u c) ∧ (x.map act.eval = none → y.map (ov Gl r) = none) := by
  cases x with
  | none => simp [cOpt] at h; subst h; simp
  | some o =>
    simp only [cOpt] at h
    cases ho : cO o with
    | none => rw [ho] at h; cases h
    | some z =>
      rw [ho] at h
      injection h with h
      subst h
      refine ⟨fun u hu => ⟨_, rfl, ?_⟩, fun hu => by simp at hu⟩
      simp only [Option.map_some, Option.some.injEq] at hu
      subst hu
      exact rl_O hr hg ho

theorem args_one {α : Type} {a : Array α} {x : α} (h : a.toList = [x]) : a = #[x] := by
  apply Array.ext'
  simpa using h
theorem args_two {α : Type} {a : Array α} {x y : α} (h : a.toList = [x, y]) : a = #[x, y] := by
  apply Array.ext'
  simpa using h

theorem out_lenS (st : St G w) {ats : Array TypeId} {ty t : TypeId} (h0 : ats[0]? = some t) (ht : P.underlying t = some .string) {v : Value} {s : List UInt8} (hv : Rl G v (.st s)) : Out P G w id (Builtin.len_ ats ty #[v]) (.it .i64 s.length) G.H none := by
  cases rl_st hv
  exact Out.quiet st (v := goInt s.length) (by simp [Builtin.len_, h0, run_underlying ht, size_mk]) (.it _ _)

theorem out_lenL (st : St G w) {ats : Array TypeId} {ty t e : TypeId} (h0 : ats[0]? = some t) (ht : P.underlying t = some (.slice e)) {v : Value} {x : AV} {n : Nat} (hv : Rl G v x)
    (h : x = .row n n ∨ (∃ g, x = .row g n) ∨ (∃ xs, x = .sl xs ∧ n = xs.length) ∨ (x = .nl ∧ n = 0)) : Out P G w id (Builtin.len_ ats ty #[v]) (.it .i64 n) G.H none := by
  have hvv : ∃ A c, v = .slice A n c := by
    rcases h with rfl | ⟨g, rfl⟩ | ⟨xs, rfl, rfl⟩ | ⟨rfl, rfl⟩
    · cases hv; exact ⟨_, _, rfl⟩
    · cases hv; exact ⟨_, _, rfl⟩
    · cases hv with
      | sl0 A c => exact ⟨_, _, rfl⟩
      | sl b o n c sz _ us hnc hn => subst hn; exact ⟨_, _, rfl⟩
    · cases hv; exact ⟨_, _, rfl⟩
  obtain ⟨A, c, rfl⟩ := hvv
  exact Out.quiet st (v := goInt n) (by simp [Builtin.len_, h0, run_underlying ht]) (.it _ _)

theorem exec_builtin {o : Oper} {c : Call} {b : Builtin} (hop : o.op = .call c) (hb : c.callee = .builtin b) :
    ∃ K, execOp act.eval o = builtin b c.argTypes o.type K (c.args.map act.eval) := by
  refine ⟨c.args.map fun | .const _ => true | _ => false, ?_⟩
  unfold execOp
  simp only [hop, resolve, hb]
  rfl

theorem step_sound (st : St G w) (hr : RegsOk G act.tmps r) (hgl : GlOk G Gl) (hid : G.H[id]? = some .res) {o : Oper} {x : I} (hc : (cNil P o.type o.op).or (cI P o.op) = some x)
    {a : AV} {H' : Option (Nat × Ent)} {new : Option Ent} (hs : step Gl id r G.H x = some (a, H', new)) : Done P G w id (execOp act.eval o) a (appU G.H H') new := by
  have hv := fun {o : Operand} {x : O} (h : cO o = some x) => rl_O (G := G) (act := act) hr hgl h
  have hlt : id < G.H.length := (List.getElem?_eq_some_iff.1 hid).1
  cases hop : o.op with
  | move y =>
    simp only [hop, cNil, cI, Option.none_or] at hc
    cases hy : cO y with
    | none => rw [hy] at hc; cases hc
    | some y' =>
      rw [hy] at hc; injection hc with hc; subst hc
      simp only [step, Option.some.injEq, Prod.mk.injEq] at hs
      obtain ⟨rfl, rfl, rfl⟩ := hs
      exact (Out.quiet st (x := pure (act.eval y)) rfl (hv hy)).done (by simp [execOp, hop])
  | assign y =>
    simp only [hop] at hc
    cases hn : cNil P o.type (.assign y) with
    | none =>
      rw [hn] at hc
      simp only [cI, Option.none_or] at hc
      cases hy : cO y with
      | none => rw [hy] at hc; cases hc
      | some y' =>
        rw [hy] at hc; injection hc with hc; subst hc
        simp only [step, Option.some.injEq, Prod.mk.injEq] at hs
        obtain ⟨rfl, rfl, rfl⟩ := hs
        exact (Out.quiet st (x := pure (act.eval y)) rfl (hv hy)).done (by simp [execOp, hop])
    | some n =>
      rw [hn] at hc
      simp only [Option.some_or, Option.some.injEq] at hc
      subst hc
      unfold cNil at hn
      split at hn
      · rename_i e
        injection e with e
        subst e
        split at hn
        · rename_i e0 he0
          cases hi : P.info? e0 with
          | none => rw [hi] at hn; cases hn
          | some i =>
            rw [hi] at hn; injection hn with hn; subst hn
            simp only [step, Option.some.injEq, Prod.mk.injEq] at hs
            obtain ⟨rfl, rfl, rfl⟩ := hs
            refine (Out.of (x := pure (.slice none 0 0)) (v := .slice none 0 0) rfl (new_none (e := .row e0 i.size [] 0) st hid (by simp)) rfl ?_).done (by simp [execOp, hop, Act.eval])
            exact rl_nil_row (e := e0) (sz := i.size) (by simp [List.getElem?_set, hlt]) (by simp)
        · cases hn
      · cases hn
  | pick c y z =>
    simp only [hop, cNil, cI, Option.none_or] at hc
    split at hc
    · rename_i c' y' z' h1 h2 h3
      injection hc with hc; subst hc
      simp only [step] at hs
      have hb := hv h1
      split at hs
      · rename_i e
        rw [e] at hb
        simp only [Option.some.injEq, Prod.mk.injEq] at hs
        obtain ⟨rfl, rfl, rfl⟩ := hs
        exact (Out.quiet st (x := pure (act.eval y)) rfl (hv h2)).done (by simp [execOp, hop, rl_bo hb, asBool])
      · rename_i e
        rw [e] at hb
        simp only [Option.some.injEq, Prod.mk.injEq] at hs
        obtain ⟨rfl, rfl, rfl⟩ := hs
        exact (Out.quiet st (x := pure (act.eval z)) rfl (hv h3)).done (by simp [execOp, hop, rl_bo hb, asBool])
      · cases hs
    · cases hc
  | alloc e =>
    simp only [hop, cNil, cI, Option.none_or] at hc
    cases hz : zeroOf P e with
    | none => rw [hz] at hc; cases hc
    | some z =>
      rw [hz] at hc; injection hc with hc; subst hc
      simp only [step, Option.some.injEq, Prod.mk.injEq] at hs
      obtain ⟨rfl, rfl, rfl⟩ := hs
      exact (out_alloc st hid hz).done (by simp [execOp, hop])
  | box e y =>
    simp only [hop, cNil, cI, Option.none_or] at hc
    cases hy : cO y with
    | none => rw [hy] at hc; cases hc
    | some y' =>
      rw [hy] at hc; injection hc with hc; subst hc
      simp only [step] at hs
      split at hs
      · rename_i h1
        simp only [Option.some.injEq, Prod.mk.injEq] at hs
        obtain ⟨rfl, rfl, rfl⟩ := hs
        exact (out_box (e := e) st hid (hv hy) h1).done (by simp [execOp, hop])
      · cases hs
  | build t ps =>
    simp only [hop, cNil, cI, Option.none_or] at hc
    split at hc
    · rename_i fs z ht hz
      split at hc
      · rename_i hall
        cases hm : mapM' (cPart P fs) ps.toList with
        | none => rw [hm] at hc; cases hc
        | some qs =>
          rw [hm] at hc; injection hc with hc; subst hc
          obtain ⟨hml, hmp⟩ := mapM'_some hm
          simp only [step] at hs
          split at hs
          · rename_i cs hcs
            simp only [Option.some.injEq, Prod.mk.injEq] at hs
            obtain ⟨rfl, rfl, rfl⟩ := hs
            refine (out_build (parts := ps.map fun (i, x) => (i, act.eval x)) st ht hz (by simp [hml]) (fun j p q hp hq => ?_) hall hcs).done (by simp [execOp, hop])
            simp only [Array.toList_map, List.getElem?_map, Option.map_eq_some_iff] at hp hq
            obtain ⟨p0, hp0, rfl⟩ := hp
            obtain ⟨q0, hq0, rfl⟩ := hq
            have hh := hmp j p0 q0 hp0 hq0
            unfold cPart at hh
            split at hh
            · rename_i f x hf hx
              split at hh
              · rename_i i hi
                injection hh with hh
                subst hh
                exact ⟨hv hx, f, i, hf, hi, rfl, rfl⟩
              · cases hh
            · cases hh
          · cases hs
      · cases hc
    · cases hc
  | buildSlice t n ps =>
    simp only [hop, cNil, cI, Option.none_or] at hc
    split at hc
    · rename_i e ht
      split at hc
      · rename_i i z hi hz
        split at hc
        · rename_i hcond
          cases hm : mapM' (fun (p : Nat × Operand) => (cO p.2).map fun x => (p.1, x)) ps.toList with
          | none => rw [hm] at hc; cases hc
          | some qs =>
            rw [hm] at hc; injection hc with hc; subst hc
            obtain ⟨hml, hmp⟩ := mapM'_some hm
            simp only [step] at hs
            split at hs
            · rename_i h1
              obtain ⟨hrange, hok⟩ := h1
              simp only [Option.some.injEq, Prod.mk.injEq] at hs
              obtain ⟨rfl, rfl, rfl⟩ := hs
              have hql : qs.length = n := by have := congrArg List.length hrange; simpa using this
              have hpt : ∀ (j : Nat) (p0 : Nat × Operand) (q0 : Nat × O), ps.toList[j]? = some p0 → qs[j]? = some q0 → p0.1 = j ∧ Rl G (act.eval p0.2) (ov Gl r q0.2) := fun j p0 q0 hp0 hq0 => by
                have hh := hmp j p0 q0 hp0 hq0
                cases hx : cO p0.2 with
                | none => rw [hx] at hh; cases hh
                | some x =>
                  rw [hx] at hh
                  injection hh with hh
                  subst hh
                  have := congrArg (fun l => l[j]?) hrange
                  simp only [List.getElem?_map, hq0, Option.map_some] at this
                  have hj : j < n := by rw [← hql]; exact (List.getElem?_eq_some_iff.1 hq0).1
                  rw [List.getElem?_range hj] at this
                  injection this with this
                  exact ⟨this, hv hx⟩
              refine (out_mks (parts := ps.map fun (i, x) => (i, act.eval x)) st hid ht hi hz hcond.1 hcond.2 (by simp [hml]) (fun j p hp => ?_) (by simpa using hql) (fun j p x hp hx => ?_) hok).done (by simp [execOp, hop])
              · simp only [Array.toList_map, List.getElem?_map, Option.map_eq_some_iff] at hp
                obtain ⟨p0, hp0, rfl⟩ := hp
                have hj : j < qs.length := by rw [hml]; exact (List.getElem?_eq_some_iff.1 hp0).1
                exact (hpt j p0 _ hp0 (List.getElem?_eq_getElem hj)).1
              · simp only [Array.toList_map, List.getElem?_map, Option.map_eq_some_iff] at hp hx
                obtain ⟨p0, hp0, rfl⟩ := hp
                obtain ⟨q0, hq0, rfl⟩ := hx
                exact (hpt j p0 q0 hp0 hq0).2
            · cases hs
        · cases hc
      · cases hc
    · cases hc
  | load t y =>
    simp only [hop, cNil, cI, Option.none_or] at hc
    split at hc
    · rename_i g y' hg hy
      injection hc with hc; subst hc
      simp only [step] at hs
      split at hs
      · rename_i cs k hcell
        split at hs
        · rename_i v hv'
          simp only [Option.some.injEq, Prod.mk.injEq] at hs
          obtain ⟨rfl, rfl, rfl⟩ := hs
          obtain ⟨b, p, e1, e2⟩ := rl_addr st (hv hy) hcell
          obtain ⟨u, h1, h2⟩ := run_loadVar (P := P) hg e2 hv'
          refine (Out.quiet st (x := Instr.loadAt t (act.eval y)) (v := u) ?_ h2).done (by simp [execOp, hop])
          rw [e1]
          simp [Instr.loadAt, Instr.sureAddr, h1]
        · cases hs
      · cases hs
    · cases hc
  | store t y z =>
    simp only [hop, cNil, cI, Option.none_or] at hc
    split at hc
    · rename_i i y' z' hi hy hz
      injection hc with hc; subst hc
      simp only [step] at hs
      split at hs
      · rename_i H1 hst
        simp only [Option.some.injEq, Prod.mk.injEq] at hs
        obtain ⟨rfl, rfl, rfl⟩ := hs
        obtain ⟨w', G', h1, h2, h3, h4⟩ := run_storeAt (P := P) st hi (hv hy) (hv hz) hst
        refine ⟨undef, w', G', .inr ⟨?_, rfl⟩, h2, h3, h4, .un _⟩
        simp [execOp, hop, h1]
      · cases hs
    · cases hc
  | nilCheck y =>
    simp only [hop, cNil, cI, Option.none_or] at hc
    cases hy : cO y with
    | none => rw [hy] at hc; cases hc
    | some y' =>
      rw [hy] at hc; injection hc with hc; subst hc
      simp only [step] at hs
      have hb := hv hy
      split at hs
      · rename_i e
        rw [e] at hb
        simp only [Option.some.injEq, Prod.mk.injEq] at hs
        obtain ⟨rfl, rfl, rfl⟩ := hs
        refine (Out.quiet st (x := pure (act.eval y)) rfl hb).done ?_
        cases hq : act.eval y <;> rw [hq] at hb <;> cases hb
        simp [execOp, hop, hq]
      · rename_i e
        rw [e] at hb
        simp only [Option.some.injEq, Prod.mk.injEq] at hs
        obtain ⟨rfl, rfl, rfl⟩ := hs
        refine (Out.quiet st (x := pure (act.eval y)) rfl hb).done ?_
        cases hq : act.eval y <;> rw [hq] at hb <;> cases hb
        simp [execOp, hop, hq]
      · rename_i e
        rw [e] at hb
        simp only [Option.some.injEq, Prod.mk.injEq] at hs
        obtain ⟨rfl, rfl, rfl⟩ := hs
        refine (Out.quiet st (x := pure (act.eval y)) rfl hb).done ?_
        cases hq : act.eval y <;> rw [hq] at hb <;> cases hb
        simp [execOp, hop, hq]
      · rename_i e
        rw [e] at hb
        simp only [Option.some.injEq, Prod.mk.injEq] at hs
        obtain ⟨rfl, rfl, rfl⟩ := hs
        refine (Out.quiet st (x := pure (act.eval y)) rfl hb).done ?_
        cases hq : act.eval y <;> rw [hq] at hb <;> cases hb
        simp [execOp, hop, hq]
      · cases hs
  | binOp bop t y z u =>
    simp only [hop, cNil, cI, Option.none_or] at hc
    split at hc
    · rename_i y' z' hy hz
      have eqc : ∀ (neg : Bool) (d : EqD), bop = eqNe neg → eqOf P t = some d → x = .eqv neg d y' z' → Done P G w id (execOp act.eval o) a (appU G.H H') new := by
        intro neg d hb hd hx
        subst hx
        simp only [step] at hs
        split at hs
        · rename_i b hb'
          simp only [Option.some.injEq, Prod.mk.injEq] at hs
          obtain ⟨rfl, rfl, rfl⟩ := hs
          refine (Out.quiet st (run_eqv (neg := neg) (x := y) (y := z) hd (hv hy) (hv hz) hb') (.bo _)).done ?_
          simp [execOp, hop, hb]
        · cases hs
      have binc : x = .bin bop y' z' → Done P G w id (execOp act.eval o) a (appU G.H H') new := by
        intro hx
        subst hx
        simp only [step] at hs
        split at hs
        · rename_i c hc'
          simp only [Option.some.injEq, Prod.mk.injEq] at hs
          obtain ⟨rfl, rfl, rfl⟩ := hs
          obtain ⟨v, h1, h2⟩ := run_bin (P := P) (w := w) (t := t) (x := y) (y := z) (hv hy) (hv hz) hc'
          refine (Out.quiet st h1 h2).done ?_
          simp [execOp, hop]
        · cases hs
      have eqpc : ∀ (neg : Bool) (e : TypeId) (j : TypeInfo), bop = eqNe neg → P.underlying t = some (.pointer e) → P.info? e = some j → x = .eqp neg y' z' → Done P G w id (execOp act.eval o) a (appU G.H H') new := by
        intro neg e j hb ht hj hx
        subst hx
        simp only [step] at hs
        split at hs
        · rename_i g o1 g' o1' e1 e2
          split at hs
          · rename_i ty cs hg
            split at hs
            · rename_i hgo
              obtain ⟨rfl, rfl⟩ := hgo
              simp only [Option.some.injEq, Prod.mk.injEq] at hs
              obtain ⟨rfl, rfl, rfl⟩ := hs
              have hy' := hv hy
              have hz' := hv hz
              rw [e1] at hy'
              rw [e2] at hz'
              refine (Out.quiet st (run_eqp st (neg := neg) (x := y) (y := z) ht hj hy' hz' hg) (.bo _)).done ?_
              simp [execOp, hop, hb]
            · cases hs
          · cases hs
        · cases hs
      split at hc
      · injection hc with hc; exact binc hc.symm
      · injection hc with hc; exact binc hc.symm
      · rename_i e ht
        split at hc
        · split at hc
          · cases hd : eqOf P t with
            | none => rw [hd] at hc; cases hc
            | some d => rw [hd] at hc; injection hc with hc; exact eqc false d rfl hd hc.symm
          · cases hd : eqOf P t with
            | none => rw [hd] at hc; cases hc
            | some d => rw [hd] at hc; injection hc with hc; exact eqc true d rfl hd hc.symm
          · cases hc
        · split at hc
          · rename_i j hj
            injection hc with hc
            exact eqpc false e j rfl ht hj hc.symm
          · rename_i j hj
            injection hc with hc
            exact eqpc true e j rfl ht hj hc.symm
          · cases hc
      · split at hc
        · cases hd : eqOf P t with
          | none => rw [hd] at hc; cases hc
          | some d => rw [hd] at hc; injection hc with hc; exact eqc false d rfl hd hc.symm
        · cases hd : eqOf P t with
          | none => rw [hd] at hc; cases hc
          | some d => rw [hd] at hc; injection hc with hc; exact eqc true d rfl hd hc.symm
        · cases hc
    · cases hc
  | unOp uop t y =>
    simp only [hop, cNil, cI, Option.none_or] at hc
    cases hy : cO y with
    | none => rw [hy] at hc; cases hc
    | some y' =>
      rw [hy] at hc; injection hc with hc; subst hc
      simp only [step] at hs
      split at hs
      · rename_i c hc'
        simp only [Option.some.injEq, Prod.mk.injEq] at hs
        obtain ⟨rfl, rfl, rfl⟩ := hs
        obtain ⟨v, h1, h2⟩ := run_un (P := P) (w := w) (hv hy) hc'
        exact (Out.quiet st h1 h2).done (by simp [execOp, hop])
      · cases hs
  | convert s d y =>
    simp only [hop, cNil, cI, Option.none_or] at hc
    have ex : execOp act.eval o = (do pure (Next.value (← convert s d (act.eval y)))) := by simp [execOp, hop]
    split at hc
    · rename_i k0 k y' h1 h2 hy
      injection hc with hc; subst hc
      simp only [step] at hs
      have hb := hv hy
      split at hs
      · rename_i e
        rw [e] at hb
        simp only [Option.some.injEq, Prod.mk.injEq] at hs
        obtain ⟨rfl, rfl, rfl⟩ := hs
        exact (out_cvI st h1 h2 hb).done ex
      · cases hs
    · rename_i e y' h1 h2 hy
      split at hc
      · rename_i he
        injection hc with hc; subst hc
        simp only [step] at hs
        have hb := hv hy
        split at hs
        · rename_i e'
          rw [e'] at hb
          split at hs
          · rename_i hl
            simp only [Option.some.injEq, Prod.mk.injEq] at hs
            obtain ⟨rfl, rfl, rfl⟩ := hs
            exact (out_cvSB st h1 h2 he hb hl).done ex
          · cases hs
        · cases hs
      · cases hc
    · rename_i e y' h1 h2 hy
      split at hc
      · rename_i he
        injection hc with hc; subst hc
        simp only [step] at hs
        have hb := hv hy
        split at hs
        · rename_i xs hxs
          split at hs
          · rename_i l hl
            simp only [Option.some.injEq, Prod.mk.injEq] at hs
            obtain ⟨rfl, rfl, rfl⟩ := hs
            exact (out_cvBS st h1 h2 he hb hxs hl).done ex
          · cases hs
        · cases hs
      · cases hc
    · rename_i k y' h1 h2 hy
      injection hc with hc; subst hc
      simp only [step] at hs
      have hb := hv hy
      split at hs
      · rename_i e
        rw [e] at hb
        simp only [Option.some.injEq, Prod.mk.injEq] at hs
        obtain ⟨rfl, rfl, rfl⟩ := hs
        exact (out_cvIS st h1 h2 hb).done ex
      · cases hs
    · rename_i y' h1 h2 hy
      injection hc with hc; subst hc
      simp only [step] at hs
      have hb := hv hy
      split at hs
      · rename_i e
        rw [e] at hb
        simp only [Option.some.injEq, Prod.mk.injEq] at hs
        obtain ⟨rfl, rfl, rfl⟩ := hs
        exact (out_cvSS st h1 h2 hb).done ex
      · cases hs
    · rename_i e0 e y' h1 h2 hy
      split at hc
      · rename_i he
        split at hc
        · rename_i hsd
          subst hsd
          injection hc with hc; subst hc
          simp only [step] at hs
          have hb := hv hy
          split at hs
          · rename_i g n e'
            rw [e'] at hb
            split at hs
            · rename_i e2 xs f hg
              split at hs
              · rename_i hcond
                simp only [Option.some.injEq, Prod.mk.injEq] at hs
                obtain ⟨rfl, rfl, rfl⟩ := hs
                exact (out_cvMk st h2 he hb hg hcond.1 hcond.2.1 hcond.2.2).done ex
              · cases hs
            · cases hs
          · cases hs
        · cases hc
      · cases hc
    · rename_i t y' h1 h2 hy
      split at hc
      · rename_i j hj
        split at hc
        · cases hc
        · rename_i h0
          injection hc with hc; subst hc
          simp only [step] at hs
          have hb := hv hy
          split at hs
          · rename_i g o1 e'
            rw [e'] at hb
            split at hs
            · rename_i ty cs hg
              split at hs
              · rename_i hlt'
                simp only [Option.some.injEq, Prod.mk.injEq] at hs
                obtain ⟨rfl, rfl, rfl⟩ := hs
                obtain ⟨b, hb', hγ, hsh⟩ := rl_box st hb hg
                rw [hb'] at ex hb
                exact (Out.quiet st (Lib.run_to_unsafe w ⟨b, o1, none⟩ h1 h2 hj h0 hsh hlt') hb).done ex
              · cases hs
            · cases hs
          · cases hs
      · cases hc
    · rename_i u y' h1 h2 hy
      split at hc
      · rename_i j hj
        injection hc with hc; subst hc
        simp only [step] at hs
        have hb := hv hy
        split at hs
        · rename_i g o1 e'
          rw [e'] at hb
          split at hs
          · rename_i ty cs hg
            split at hs
            · rename_i hcond
              obtain ⟨rfl, hany⟩ := hcond
              simp only [Option.some.injEq, Prod.mk.injEq] at hs
              obtain ⟨rfl, rfl, rfl⟩ := hs
              obtain ⟨b, hb', hγ, hsh⟩ := rl_box st hb hg
              rw [hb'] at ex hb
              simp only [List.any_eq_true, Bool.and_eq_true, beq_iff_eq, upOk, List.mem_filterMap] at hany
              obtain ⟨p, ⟨tt, _, hp⟩, hp1, hp2⟩ := hany
              cases hti : P.info? tt with
              | none => rw [hti] at hp; cases hp
              | some i =>
                rw [hti] at hp
                simp only at hp
                split at hp
                · rename_i hlies
                  injection hp with hp
                  subst hp
                  simp only at hp1 hp2
                  subst hp1
                  rw [hp2] at hlies
                  exact (Out.quiet st (Lib.run_from_unsafe w ⟨b, 0, none⟩ h1 h2 hj hsh hlies) hb).done ex
                · cases hp
            · cases hs
          · cases hs
        · cases hs
      · cases hc
    · cases hc
  | makeFunc f first caps =>
    simp only [hop, cNil, Option.none_or] at hc
    cases f with
    | func f =>
      simp only [cI] at hc
      split at hc
      · rename_i h0
        cases hm : mapM' cO caps.toList with
        | none => rw [hm] at hc; cases hc
        | some cs =>
          rw [hm] at hc; injection hc with hc; subst hc
          simp only [step, Option.some.injEq, Prod.mk.injEq] at hs
          obtain ⟨rfl, rfl, rfl⟩ := hs
          obtain ⟨h1, h2⟩ := rl_Os (G := G) hr hgl hm
          have hf0 : first = #[] := Array.eq_empty_of_size_eq_zero h0
          subst hf0
          refine (Out.quiet st (x := Instr.makeFunc (.func f) #[] (caps.map act.eval)) rfl (.fn f _ _ (by simpa using h1) fun j v c hj hcj => ?_)).done (by simp [execOp, hop])
          exact h2 j v c (by simpa using hj) hcj
      · cases hc
    | _ => simp [cI] at hc
  | slice t y lo hi mx =>
    simp only [hop, cNil, Option.none_or] at hc
    cases mx with
    | some m => simp [cI] at hc
    | none =>
      simp only [cI] at hc
      have ex : execOp act.eval o = (do pure (Next.value (← Instr.sliceAt t (act.eval y) (lo.map act.eval) (hi.map act.eval) none))) := by simp [execOp, hop]
      split at hc
      · rename_i y' l h ht hy hl hh
        injection hc with hc; subst hc
        obtain ⟨l1, l2⟩ := opt_lo hr hgl hl
        obtain ⟨u1, u2⟩ := opt_lo hr hgl hh
        simp only [step] at hs
        have hb := hv hy
        split at hs
        · rename_i s e
          rw [e] at hb
          split at hs
          · rename_i a1 b1 hcut
            simp only [Option.some.injEq, Prod.mk.injEq] at hs
            obtain ⟨rfl, rfl, rfl⟩ := hs
            exact (out_slS st ht hb l1 l2 u1 u2 hcut).done ex
          · cases hs
        · cases hs
      · rename_i e y' l h ht hy hl hh
        split at hc
        · rename_i i hi'
          injection hc with hc; subst hc
          obtain ⟨l1, l2⟩ := opt_lo hr hgl hl
          obtain ⟨u1, u2⟩ := opt_lo hr hgl hh
          simp only [step] at hs
          have hb := hv hy
          split at hs
          · rename_i xs e'
            rw [e'] at hb
            split at hs
            · rename_i a1 b1 hcut
              split at hs
              · rename_i hall
                simp only [Option.some.injEq, Prod.mk.injEq] at hs
                obtain ⟨rfl, rfl, rfl⟩ := hs
                exact (out_slA_sl st ht hi' hb l1 l2 u1 u2 hcut (fun x hx => by simpa using List.all_eq_true.1 hall x hx)).done ex
              · cases hs
            · cases hs
          · rename_i g n e'
            rw [e'] at hb
            split at hs
            · rename_i e2 sz' xs f hg
              split at hs
              · rename_i a1 b1 hcut
                split at hs
                · rename_i hcond
                  obtain ⟨hl', hsz⟩ := hcond
                  subst hsz
                  split at hs
                  · rename_i hf0
                    subst hf0
                    split at hs
                    · rename_i ha0
                      subst ha0
                      simp only [Option.some.injEq, Prod.mk.injEq] at hs
                      obtain ⟨rfl, rfl, rfl⟩ := hs
                      exact (out_slA_cut st hid ht hi' hb hg hl' l1 l2 u1 u2 hcut).done ex
                    · cases hs
                  · split at hs
                    · rename_i hbf
                      simp only [Option.some.injEq, Prod.mk.injEq] at hs
                      obtain ⟨rfl, rfl, rfl⟩ := hs
                      exact (out_slA_fz st ht hi' hb hg hl' l1 l2 u1 u2 hcut hbf).done ex
                    · cases hs
                · cases hs
              · cases hs
            · cases hs
          · cases hs
        · cases hc
      · cases hc
  | fieldAddr t y f =>
    simp only [hop, cNil, cI, Option.none_or] at hc
    have ex : execOp act.eval o = (do pure (Next.value (← Instr.fieldAt t (act.eval y) f))) := by simp [execOp, hop]
    split at hc
    · rename_i fs y' ht hy
      split at hc
      · rename_i fd hfd
        split at hc
        · rename_i i hi
          split at hc
          · cases hc
          · rename_i h0
            injection hc with hc; subst hc
            simp only [step] at hs
            have hb := hv hy
            split at hs
            · rename_i e
              rw [e] at hb
              simp only [Option.some.injEq, Prod.mk.injEq] at hs
              obtain ⟨rfl, rfl, rfl⟩ := hs
              exact (out_fa st ht hfd hi h0 hb rfl).done ex
            · rename_i e
              rw [e] at hb
              simp only [Option.some.injEq, Prod.mk.injEq] at hs
              obtain ⟨rfl, rfl, rfl⟩ := hs
              exact (out_fa st ht hfd hi h0 hb rfl).done ex
            · rename_i e
              rw [e] at hb
              simp only [Option.some.injEq, Prod.mk.injEq] at hs
              obtain ⟨rfl, rfl, rfl⟩ := hs
              exact (out_fa st ht hfd hi h0 hb rfl).done ex
            · cases hs
        · cases hc
      · cases hc
    · cases hc
  | indexAddr t y z =>
    simp only [hop, cNil, cI, Option.none_or] at hc
    have ex : execOp act.eval o = (do pure (Next.value (← Instr.indexAt t (act.eval y) (act.eval z)))) := by simp [execOp, hop]
    split at hc
    · rename_i e y' z' ht hy hz
      cases hi : P.info? e with
      | none => rw [hi] at hc; cases hc
      | some i =>
        rw [hi] at hc; injection hc with hc; subst hc
        simp only [step] at hs
        have hb := hv hy
        have hb2 := hv hz
        split at hs
        · rename_i e1 e2
          rw [e1] at hb
          rw [e2] at hb2
          split at hs
          · rename_i h0
            split at hs
            · rename_i x hx
              split at hs
              · rename_i hsz
                simp only [Option.some.injEq, Prod.mk.injEq] at hs
                obtain ⟨rfl, rfl, rfl⟩ := hs
                exact (out_ia_sl st ht hi hb hb2 h0 hx hsz).done ex
              · cases hs
            · cases hs
          · cases hs
        · rename_i e1 e2
          rw [e1] at hb
          rw [e2] at hb2
          split at hs
          · rename_i hg
            split at hs
            · rename_i hcond
              obtain ⟨c1, c2, c3, c4⟩ := hcond
              subst c4
              simp only [Option.some.injEq, Prod.mk.injEq] at hs
              obtain ⟨rfl, rfl, rfl⟩ := hs
              exact (out_ia_row st ht hi hb hb2 hg c3 c1 c2).done ex
            · cases hs
          · cases hs
        · cases hs
    · rename_i N e y' z' ht hy hz
      cases hi : P.info? e with
      | none => rw [hi] at hc; cases hc
      | some i =>
        rw [hi] at hc; injection hc with hc; subst hc
        simp only [step] at hs
        have hb := hv hy
        have hb2 := hv hz
        split at hs
        · rename_i e1 e2
          rw [e1] at hb
          rw [e2] at hb2
          split at hs
          · rename_i hcond
            obtain ⟨c1, c2, c3, c4⟩ := hcond
            simp only [Option.some.injEq, Prod.mk.injEq] at hs
            obtain ⟨rfl, rfl, rfl⟩ := hs
            exact (out_iaa st ht hi hb hb2 c1 c2 c3 (fun x hx => by simpa using List.all_eq_true.1 c4 x hx)).done ex
          · cases hs
        · cases hs
    · cases hc
  | field t y f =>
    simp only [hop, cNil, cI, Option.none_or] at hc
    split at hc
    · rename_i fs y' ht hy
      split at hc
      · rename_i fd hfd
        cases hg : aggOf P fd.type with
        | none => rw [hg] at hc; cases hc
        | some g =>
          rw [hg] at hc; injection hc with hc; subst hc
          simp only [step] at hs
          have hb := hv hy
          split at hs
          · rename_i e
            rw [e] at hb
            split at hs
            · rename_i hx
              simp only [Option.some.injEq, Prod.mk.injEq] at hs
              obtain ⟨rfl, rfl, rfl⟩ := hs
              exact (out_fl st ht hfd hg hb hx).done (by simp [execOp, hop])
            · cases hs
          · cases hs
      · cases hc
    · cases hc
  | index t y z =>
    simp only [hop, cNil, cI, Option.none_or] at hc
    have ex : execOp act.eval o = (do pure (Next.value (← Instr.index t (act.eval y) (act.eval z)))) := by simp [execOp, hop]
    split at hc
    · rename_i y' z' ht hy hz
      injection hc with hc; subst hc
      simp only [step] at hs
      have hb := hv hy
      have hb2 := hv hz
      split at hs
      · rename_i e1 e2
        rw [e1] at hb
        rw [e2] at hb2
        split at hs
        · rename_i h0
          split at hs
          · rename_i hx
            simp only [Option.some.injEq, Prod.mk.injEq] at hs
            obtain ⟨rfl, rfl, rfl⟩ := hs
            exact (out_ix st ht hb hb2 h0 hx).done ex
          · cases hs
        · cases hs
      · cases hs
    · rename_i N e y' z' ht hy hz
      split at hc
      · rename_i i g hi hg
        injection hc with hc; subst hc
        simp only [step] at hs
        have hb := hv hy
        have hb2 := hv hz
        split at hs
        · rename_i e1 e2
          rw [e1] at hb
          rw [e2] at hb2
          split at hs
          · rename_i h0
            split at hs
            · rename_i hx
              simp only [Option.some.injEq, Prod.mk.injEq] at hs
              obtain ⟨rfl, rfl, rfl⟩ := hs
              exact (out_ixa st ht hi hg hb hb2 h0.1 h0.2 hx).done ex
            · cases hs
          · cases hs
        · cases hs
      · cases hc
    · cases hc
  | extract y k =>
    simp only [hop, cNil, cI, Option.none_or] at hc
    cases hy : cO y with
    | none => rw [hy] at hc; cases hc
    | some y' =>
      rw [hy] at hc; injection hc with hc; subst hc
      simp only [step] at hs
      have hb := hv hy
      split at hs
      · rename_i e
        rw [e] at hb
        split at hs
        · rename_i hx
          simp only [Option.some.injEq, Prod.mk.injEq] at hs
          obtain ⟨rfl, rfl, rfl⟩ := hs
          exact (out_ext st hb hx).done (by simp [execOp, hop])
        · cases hs
      · cases hs
  | range t y =>
    simp only [hop, cNil, cI, Option.none_or] at hc
    split at hc
    · rename_i ht
      cases hy : cO y with
      | none => rw [hy] at hc; cases hc
      | some y' =>
        rw [hy] at hc; injection hc with hc; subst hc
        simp only [step] at hs
        have hb := hv hy
        split at hs
        · rename_i e
          rw [e] at hb
          simp only [Option.some.injEq, Prod.mk.injEq] at hs
          obtain ⟨rfl, rfl, rfl⟩ := hs
          exact (out_rng st hid ht hb).done (by simp [execOp, hop])
        · cases hs
    · cases hc
  | next y b =>
    simp only [hop, cNil, Option.none_or] at hc
    cases b with
    | false => simp [cI] at hc
    | true =>
      simp only [cI] at hc
      cases hy : cO y with
      | none => rw [hy] at hc; cases hc
      | some y' =>
        rw [hy] at hc; injection hc with hc; subst hc
        simp only [step] at hs
        have hb := hv hy
        split at hs
        · rename_i e
          rw [e] at hb
          split at hs
          · rename_i s p hg
            have hn := out_nxt (P := P) (id := id) (ty := o.type) st hb hg
            split at hs
            · rename_i hp
              rw [if_pos hp] at hn
              simp only [Option.some.injEq, Prod.mk.injEq] at hs
              obtain ⟨rfl, rfl, rfl⟩ := hs
              exact hn.done (by simp [execOp, hop])
            · rename_i hp
              rw [if_neg hp] at hn
              simp only [Option.some.injEq, Prod.mk.injEq] at hs
              obtain ⟨rfl, rfl, rfl⟩ := hs
              exact hn.done (by simp [execOp, hop])
          · cases hs
        · cases hs
  | makeSlice t l c =>
    simp only [hop, cNil, cI, Option.none_or] at hc
    split at hc
    · rename_i e l' c' ht hl hcc
      split at hc
      · rename_i i z hi hz
        split at hc
        · rename_i hpos
          injection hc with hc; subst hc
          simp only [step] at hs
          have hb := hv hl
          have hb2 := hv hcc
          split at hs
          · rename_i e1 e2
            rw [e1] at hb
            rw [e2] at hb2
            split at hs
            · rename_i hcond
              obtain ⟨c1, c2, c3, c4, c5⟩ := hcond
              subst c1
              simp only [Option.some.injEq, Prod.mk.injEq] at hs
              obtain ⟨rfl, rfl, rfl⟩ := hs
              exact (out_mksl st hid ht hi hz hpos hb hb2 c2 c3 c4).done (by simp [execOp, hop])
            · cases hs
          · cases hs
        · cases hc
      · cases hc
    · cases hc
  | call c =>
    simp only [hop, cNil, cI, Option.none_or] at hc
    unfold cCall at hc
    split at hc
    · split at hc
      · split at hc
        · rename_i f hf fn hfn hb
          cases hm : mapM' cO c.args.toList with
          | none => rw [hm] at hc; cases hc
          | some cs => rw [hm] at hc; injection hc with hc; subst hc; simp [step] at hs
        · rename_i f hcal _ fn hfn _
          split at hc
          · rename_i hcond
            split at hc
            · rename_i y hargs
              have ha := args_one hargs
              cases hy : cO y with
              | none => rw [hy] at hc; cases hc
              | some y' =>
                rw [hy] at hc; injection hc with hc; subst hc
                simp only [step, Option.some.injEq, Prod.mk.injEq] at hs
                obtain ⟨rfl, rfl, rfl⟩ := hs
                simp only [Bool.and_eq_true, beq_iff_eq] at hcond
                have hrun := run_noEsc (w := w) hfn hcond.1.1 hcond.1.2 hcond.2 (act.eval y)
                refine ⟨act.eval y, w, G, .inl ?_, st, Wf.refl _ _, rfl, hv hy⟩
                simp only [execOp, hop, resolve, hcal, Deferred.ofValue, invoke, ha]
                simpa [Act.eval] using hrun
            · cases hc
          · cases hc
      · cases hc
    · split at hc
      · rename_i y hy
        cases hm : mapM' cO c.args.toList with
        | none => rw [hm] at hc; cases hc
        | some cs => rw [hm] at hc; injection hc with hc; subst hc; simp [step] at hs
      · cases hc
    · rename_i hcal
      split at hc
      · rename_i y t hargs ht0
        have ha := args_one hargs
        have ex : execOp act.eval o = (do pure (Next.value (← Builtin.len_ c.argTypes o.type #[act.eval y]))) := by
          obtain ⟨K, hK⟩ := exec_builtin (act := act) hop hcal
          rw [hK, ha]
          simp [builtin]
        split at hc
        · rename_i ht
          cases hy : cO y with
          | none => rw [hy] at hc; cases hc
          | some y' =>
            rw [hy] at hc; injection hc with hc; subst hc
            simp only [step] at hs
            have hb := hv hy
            split at hs
            · rename_i e
              rw [e] at hb
              simp only [Option.some.injEq, Prod.mk.injEq] at hs
              obtain ⟨rfl, rfl, rfl⟩ := hs
              exact (out_lenS st ht0 ht hb).done ex
            · cases hs
        · rename_i e0 ht
          cases hy : cO y with
          | none => rw [hy] at hc; cases hc
          | some y' =>
            rw [hy] at hc; injection hc with hc; subst hc
            simp only [step] at hs
            have hb := hv hy
            split at hs
            · rename_i e
              rw [e] at hb
              simp only [Option.some.injEq, Prod.mk.injEq] at hs
              obtain ⟨rfl, rfl, rfl⟩ := hs
              exact (out_lenL st ht0 ht hb (.inr (.inr (.inl ⟨_, rfl, rfl⟩)))).done ex
            · rename_i e
              rw [e] at hb
              simp only [Option.some.injEq, Prod.mk.injEq] at hs
              obtain ⟨rfl, rfl, rfl⟩ := hs
              exact (out_lenL st ht0 ht hb (.inr (.inl ⟨_, rfl⟩))).done ex
            · rename_i e
              rw [e] at hb
              simp only [Option.some.injEq, Prod.mk.injEq] at hs
              obtain ⟨rfl, rfl, rfl⟩ := hs
              exact (out_lenL (n := 0) st ht0 ht hb (.inr (.inr (.inr ⟨rfl, rfl⟩)))).done ex
            · cases hs
        · rename_i N e0 ht
          injection hc with hc; subst hc
          simp only [step, Option.some.injEq, Prod.mk.injEq] at hs
          obtain ⟨rfl, rfl, rfl⟩ := hs
          exact (Out.quiet st (x := Builtin.len_ c.argTypes o.type #[act.eval y]) (v := goInt N) (by simp [Builtin.len_, ht0, run_underlying ht]) (.it _ _)).done ex
        · cases hc
      · cases hc
    · rename_i hcal
      split at hc
      · rename_i y z t u hargs ht0 ht1
        have ha := args_two hargs
        have ex : execOp act.eval o = (do pure (Next.value (← Builtin.append_ c.argTypes o.type #[act.eval y, act.eval z]))) := by
          obtain ⟨K, hK⟩ := exec_builtin (act := act) hop hcal
          rw [hK, ha]
          simp [builtin]
        split at hc
        · rename_i e e2 ht hu
          split at hc
          · rename_i i zz y' z' hi hz hy hz'
            split at hc
            · rename_i hpos
              injection hc with hc; subst hc
              obtain ⟨i2, zv, hi2, hzv, hzs, _, _⟩ := zeroOf_inv hz
              rw [hi] at hi2
              injection hi2 with hi2
              subst hi2
              simp only [step, srcOf] at hs
              split at hs
              · rename_i ys hys
                split at hs
                · rename_i hok
                  obtain ⟨news, src⟩ := src_elems (P := P) st (hv hz') hys hok
                  have hb := hv hy
                  split at hs
                  · rename_i e3
                    rw [e3] at hb
                    split at hs
                    · rename_i hg
                      split at hs
                      · rename_i hcond
                        obtain ⟨c1, c2, c3, c4, c5⟩ := hcond
                        subst c2; subst c3
                        simp only [Option.some.injEq, Prod.mk.injEq] at hs
                        obtain ⟨rfl, rfl, rfl⟩ := hs
                        obtain ⟨v', w', G', k1, k2, k3, k4, k5⟩ := run_appS (ty := o.type) st ht0 ht1 ht hu (by simp) hi hzv hzs hb hg c1 hok src c5 c4
                        exact Out.done (H' := _) ⟨v', w', G', k1, k2, k3, k4, k5⟩ ex
                      · cases hs
                    · cases hs
                  · rename_i e3
                    rw [e3] at hb
                    split at hs
                    · rename_i hcond
                      simp only [Option.some.injEq, Prod.mk.injEq] at hs
                      obtain ⟨rfl, rfl, rfl⟩ := hs
                      obtain ⟨v', w', G', k1, k2, k3, k4, k5⟩ := run_appN (ty := o.type) st ht0 ht1 ht hu (by simp) hi hzv hzs hid hok src hcond.2 hcond.1
                      rw [← rl_nl hb] at k1
                      exact Out.done (H' := _) ⟨v', w', G', k1, k2, k3, k4, k5⟩ ex
                    · cases hs
                  · cases hs
                · cases hs
              · cases hs
            · cases hc
          · cases hc
        · rename_i e ht hu
          split at hc
          · rename_i i zz y' z' hi hz hy hz'
            split at hc
            · rename_i hpos
              injection hc with hc; subst hc
              obtain ⟨i2, zv, hi2, hzv, hzs, _, _⟩ := zeroOf_inv hz
              rw [hi] at hi2
              injection hi2 with hi2
              subst hi2
              simp only [step, srcOf] at hs
              have hbz := hv hz'
              split at hs
              · rename_i ys hys
                split at hys
                · rename_i l e4
                  rw [e4] at hbz
                  injection hys with hys
                  subst hys
                  split at hs
                  · rename_i hok
                    have src : ∃ news, Src P G w i.size (act.eval z) (l.map b8) news := by
                      rw [rl_st hbz, hpos]
                      exact ⟨_, src_str⟩
                    obtain ⟨news, src⟩ := src
                    have hb := hv hy
                    split at hs
                    · rename_i e3
                      rw [e3] at hb
                      split at hs
                      · rename_i hg
                        split at hs
                        · rename_i hcond
                          obtain ⟨c1, c2, c3, c4, c5⟩ := hcond
                          subst c2; subst c3
                          simp only [Option.some.injEq, Prod.mk.injEq] at hs
                          obtain ⟨rfl, rfl, rfl⟩ := hs
                          obtain ⟨v', w', G', k1, k2, k3, k4, k5⟩ := run_appS (ty := o.type) st ht0 ht1 ht hu (by simp) hi hzv hzs hb hg c1 hok src c5 c4
                          exact Out.done (H' := _) ⟨v', w', G', k1, k2, k3, k4, k5⟩ ex
                        · cases hs
                      · cases hs
                    · rename_i e3
                      rw [e3] at hb
                      split at hs
                      · rename_i hcond
                        simp only [Option.some.injEq, Prod.mk.injEq] at hs
                        obtain ⟨rfl, rfl, rfl⟩ := hs
                        obtain ⟨v', w', G', k1, k2, k3, k4, k5⟩ := run_appN (ty := o.type) st ht0 ht1 ht hu (by simp) hi hzv hzs hid hok src hcond.2 hcond.1
                        rw [← rl_nl hb] at k1
                        exact Out.done (H' := _) ⟨v', w', G', k1, k2, k3, k4, k5⟩ ex
                      · cases hs
                    · cases hs
                  · cases hs
                · cases hys
              · cases hs
            · cases hc
          · cases hc
        · cases hc
      · cases hc
    · rename_i hcal
      split at hc
      · rename_i y hargs
        have ha := args_one hargs
        have ex : execOp act.eval o = (do pure (Next.value (← Builtin.unsafeSliceData_ c.argTypes o.type #[act.eval y]))) := by
          obtain ⟨K, hK⟩ := exec_builtin (act := act) hop hcal
          rw [hK, ha]
          simp [builtin]
        cases hy : cO y with
        | none => rw [hy] at hc; cases hc
        | some y' =>
          rw [hy] at hc; injection hc with hc; subst hc
          simp only [step] at hs
          have hb := hv hy
          split at hs
          · rename_i e'
            rw [e'] at hb
            simp only [Option.some.injEq, Prod.mk.injEq] at hs
            obtain ⟨rfl, rfl, rfl⟩ := hs
            have hnl := rl_nl hb
            rw [hnl] at ex
            exact (Out.quiet st (Lib.run_unsafeSliceData_nil w c.argTypes o.type 0 0) (.sc _ trivial)).done ex
          · rename_i g n e'
            rw [e'] at hb
            split at hs
            · rename_i e2 sz xs f hg
              split at hs
              · rename_i hcond
                simp only [Option.some.injEq, Prod.mk.injEq] at hs
                obtain ⟨rfl, rfl, rfl⟩ := hs
                generalize hev : act.eval y = v at hb ex
                cases hb with
                | row _ _ A cc lt hn hrr =>
                  obtain ⟨k1, k2, k3⟩ := hrr _ _ _ _ hg
                  rcases k3 hcond.1.symm with ⟨b, hγ, rfl⟩ | ⟨_, h0, _⟩
                  · cases st.ent g b cc _ hγ hg with
                    | row _ _ _ _ vs h2 h3 h4 h5 h6 q1 q2 h7 =>
                      refine (Out.quiet st (Lib.run_unsafeSliceData_row w c.argTypes o.type ⟨b, 0, none⟩ n cc (by omega)) (.el g n 0 0 b 0 lt hn fun e sz xs f hh => ?_)).done ex
                      rw [hg] at hh
                      injection hh with hh
                      injection hh with hh1 hh2 hh3 hh4
                      subst hh3
                      exact ⟨k1, fun _ => ⟨⟨cc, hγ⟩, by simp⟩⟩
                  · omega
              · cases hs
            · cases hs
          · cases hs
      · cases hc
    · rename_i hcal
      split at hc
      · rename_i y z pt it hargs hts
        have ha := args_two hargs
        have hats := args_two hts
        have ex : execOp act.eval o = (do pure (Next.value (← Builtin.unsafeString_ c.argTypes o.type #[act.eval y, act.eval z]))) := by
          obtain ⟨K, hK⟩ := exec_builtin (act := act) hop hcal
          rw [hK, ha]
          simp [builtin]
        rw [hats] at ex
        split at hc
        · rename_i e y' z' hpt hy hz
          split at hc
          · rename_i hcell
            injection hc with hc; subst hc
            simp only [step] at hs
            have hb := hv hy
            have hb2 := hv hz
            split at hs
            · rename_i m e1 e2
              rw [e1] at hb
              rw [e2] at hb2
              have h1 := rl_sc hb
              have h2 := rl_it hb2
              split at hs
              · rename_i hm0
                subst hm0
                simp only [Option.some.injEq, Prod.mk.injEq] at hs
                obtain ⟨rfl, rfl, rfl⟩ := hs
                rw [h1, h2] at ex
                exact (Out.quiet st (Lib.run_unsafeString_none w pt it o.type none) (.st [])).done ex
              · cases hs
            · rename_i g k m e1 e2
              rw [e1] at hb
              rw [e2] at hb2
              have h2 := rl_it hb2
              split at hs
              · rename_i ee xs f hg
                split at hs
                · rename_i hcond
                  obtain ⟨hl, rfl, hk, rfl, h8⟩ := hcond
                  split at hs
                  · rename_i s hs8
                    simp only [Option.some.injEq, Prod.mk.injEq] at hs
                    obtain ⟨rfl, rfl, rfl⟩ := hs
                    rw [h2] at ex
                    exact (out_ust st hpt hcell hb hg hl hk hs8 h8).done ex
                  · cases hs
                · cases hs
              · cases hs
            · cases hs
          · cases hc
        · cases hc
      · cases hc
    · rename_i hcal
      cases hm : mapM' cO c.args.toList with
      | none => rw [hm] at hc; cases hc
      | some cs =>
        rw [hm] at hc; injection hc with hc; subst hc
        simp only [step] at hs
        obtain ⟨h1, h2⟩ := rl_Os (G := G) hr hgl hm
        split at hs
        · rename_i k a0 l el
          rw [el] at h1 h2
          split at hs
          · rename_i v hv'
            simp only [Option.some.injEq, Prod.mk.injEq] at hs
            obtain ⟨rfl, rfl, rfl⟩ := hs
            cases hal : c.args.toList.map act.eval with
            | nil => rw [hal] at h1; simp at h1
            | cons u0 ul =>
              rw [hal] at h1 h2
              have hu0 := rl_it (h2 0 u0 _ rfl rfl)
              subst hu0
              obtain ⟨z, k1, k2⟩ := out_mxn (P := P) (w := w) true ul l k a0 v (by simpa using h1) (fun j v c hj hc => h2 (j + 1) v c (by simpa using hj) (by simpa using hc)) hv'
              refine (Out.quiet st (x := Builtin.max_ c.argTypes o.type (c.args.map act.eval)) (v := z) ?_ k2).done (by obtain ⟨K, hK⟩ := exec_builtin (act := act) hop hcal; rw [hK]; simp [builtin])
              simp only [Builtin.max_, Array.toList_map, hal]
              exact k1
          · cases hs
        · cases hs
    · rename_i hcal
      cases hm : mapM' cO c.args.toList with
      | none => rw [hm] at hc; cases hc
      | some cs =>
        rw [hm] at hc; injection hc with hc; subst hc
        simp only [step] at hs
        obtain ⟨h1, h2⟩ := rl_Os (G := G) hr hgl hm
        split at hs
        · rename_i k a0 l el
          rw [el] at h1 h2
          split at hs
          · rename_i v hv'
            simp only [Option.some.injEq, Prod.mk.injEq] at hs
            obtain ⟨rfl, rfl, rfl⟩ := hs
            cases hal : c.args.toList.map act.eval with
            | nil => rw [hal] at h1; simp at h1
            | cons u0 ul =>
              rw [hal] at h1 h2
              have hu0 := rl_it (h2 0 u0 _ rfl rfl)
              subst hu0
              obtain ⟨z, k1, k2⟩ := out_mxn (P := P) (w := w) false ul l k a0 v (by simpa using h1) (fun j v c hj hc => h2 (j + 1) v c (by simpa using hj) (by simpa using hc)) hv'
              refine (Out.quiet st (x := Builtin.min_ c.argTypes o.type (c.args.map act.eval)) (v := z) ?_ k2).done (by obtain ⟨K, hK⟩ := exec_builtin (act := act) hop hcal; rw [hK]; simp [builtin])
              simp only [Builtin.min_, Array.toList_map, hal]
              exact k1
          · cases hs
        · cases hs
    · cases hc
  | _ => simp [hop, cNil, cI] at hc
end
end Go.Am
