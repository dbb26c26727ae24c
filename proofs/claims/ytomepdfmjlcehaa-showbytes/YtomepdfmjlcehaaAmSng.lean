/- One operation is carried out as it is told. -/
import Derived.Test.YtomepdfmjlcehaaAmSnf
set_option linter.unusedVariables false
set_option linter.unusedSimpArgs false
namespace Go.Am

theorem s_store_lt {H : List Ent} {n : Nat} {a x : AV} {g : Nat} {e : Ent} (h : s_store H n a x = some (g, e)) : g < H.length := by
  unfold s_store at h
  split at h
  · split at h
    · split at h
      · rename_i hg
        split at h
        · injection h with h
          injection h with h1 h2
          subst h1
          exact (List.getElem?_eq_some_iff.1 hg).1
        · cases h
      · cases h
    · split at h
      · rename_i hg
        split at h
        · split at h
          · injection h with h
            injection h with h1 h2
            subst h1
            exact (List.getElem?_eq_some_iff.1 hg).1
          · cases h
        · cases h
      · cases h
    · cases h
  · cases h

/-- An entry that turns is one that there is. -/
theorem step_u_lt {Gl : Nat → AV} {id : Nat} {r : Regs} {H : List Ent} {i : I} {a : AV} {g : Nat} {e : Ent} {new : Option Ent} (h : step Gl id r H i = some (a, some (g, e), new)) : g < H.length := by
  cases i with
  | cvMk y =>
    simp only [step] at h
    split at h
    · split at h
      · rename_i hg
        split at h
        · injection h with h
          injection h with h1 h
          injection h with h h2
          injection h with h
          injection h with h3 h4
          subst h3
          exact (List.getElem?_eq_some_iff.1 hg).1
        · cases h
      · cases h
    · cases h
  | stv n x y =>
    simp only [step] at h
    split at h
    · rename_i hc
      injection h with h
      injection h with h1 h
      injection h with h h2
      injection h with h
      subst h
      exact s_store_lt hc
    · cases h
  | slA e' sz y lo hi =>
    simp only [step] at h
    split at h
    · (repeat' split at h) <;> simp at h
    · split at h
      · rename_i hg
        (repeat' split at h) <;> simp at h
        obtain ⟨_, ⟨h3, _⟩, _⟩ := h
        subst h3
        exact (List.getElem?_eq_some_iff.1 hg).1
      · cases h
    · cases h
  | app e' sz bytes str y z =>
    simp only [step] at h
    split at h
    · split at h
      · split at h
        · split at h
          · rename_i hg
            split at h
            · simp at h
              obtain ⟨_, ⟨h3, _⟩, _⟩ := h
              subst h3
              exact (List.getElem?_eq_some_iff.1 hg).1
            · cases h
          · cases h
        · split at h <;> simp at h
        · cases h
      · cases h
    · cases h
  | nxt y =>
    simp only [step] at h
    split at h
    · split at h
      · rename_i hg
        split at h
        · simp at h
          obtain ⟨_, ⟨h3, _⟩, _⟩ := h
          subst h3
          exact (List.getElem?_eq_some_iff.1 hg).1
        · simp at h
      · cases h
    · cases h
  | len b y => cases b <;> simp only [step] at h <;> (repeat' split at h) <;> simp at h
  | ust e' y z =>
    simp only [step] at h
    split at h
    · split at h <;> simp at h
    · split at h
      · rename_i hg
        split at h
        · split at h
          · simp at h
            obtain ⟨_, ⟨h3, _⟩, _⟩ := h
            subst h3
            exact (List.getElem?_eq_some_iff.1 hg).1
          · cases h
        · cases h
      · cases h
    · cases h
  | _ => simp only [step] at h <;> (try (repeat' split at h)) <;> simp at h

/-- A step that makes no entry and turns none does not hang on the number of the next entry. -/
theorem step_id {Gl : Nat → AV} {id : Nat} (id' : Nat) {r : Regs} {H : List Ent} {i : I} {a : AV} (h : step Gl id r H i = some (a, none, none)) : step Gl id' r H i = some (a, none, none) := by
  cases i with
  | nrow e sz => simp [step] at h
  | alloc t z => simp [step] at h
  | box t x => simp [step] at h
  | mks e sz z n ps => simp [step] at h
  | rng x => simp only [step] at h; split at h <;> simp at h
  | mksl e sz bytes z l c => simp only [step] at h; (repeat' split at h) <;> simp at h
  | slA e' sz y lo hi =>
    simp only [step] at h ⊢
    split at h
    · exact h
    · split at h
      · split at h
        · split at h
          · split at h
            · split at h <;> simp at h
            · rename_i hg hc hx hf
              rw [if_pos hx, if_neg hf]
              exact h
          · cases h
        · cases h
      · cases h
    · cases h
  | app e' sz bytes str y z =>
    simp only [step] at h
    (repeat' split at h) <;> simp at h
  | len b y => cases b <;> exact h
  | _ => exact h

theorem step_quiet {Gl : Nat → AV} {r : Regs} {H : List Ent} {id : Nat} {i : I} {a : AV} (h : step Gl 0 r [] i = some (a, none, none)) : step Gl id r H i = some (a, none, none) :=
  step_id id (step_mono (fun g e h => by simp at h) h)

theorem Wf.pad {K γ H} (w : World) : Wf ⟨K, γ, H⟩ w ⟨K, γ, H ++ [.res]⟩ w :=
  ⟨Ext.pad _ _ _, Nat.le_refl _, rfl, rfl, rfl, fun _ _ _ => rfl, fun g b c h _ => ⟨g, c, h⟩, fun _ _ _ _ _ h => h⟩

theorem Wf.unpad {G : Gho} {K γ H} {w w' : World} (h : Wf G w ⟨K, γ, H ++ [.res]⟩ w') (hl : G.H.length ≤ H.length) : Wf G w ⟨K, γ, H⟩ w' :=
  ⟨h.ext.unpad hl, h.size, h.os, h.tape, h.output, h.other, h.fresh, h.old⟩

theorem knows_pad (H : List Ent) : Knows H (H ++ [.res]) := fun g e h hn => by
  rw [List.getElem?_append_left (List.getElem?_eq_some_iff.1 h).1]; exact h

section
variable {P : Program} {Gl : Nat → AV} {nt : Nat} {G0 : Gho} {w0 : World} {a : Act} {w : World} {r : Regs} {H : List Ent}

/-- A step of the abstract machine, room for its entry made. -/
theorem step_done {o : Oper} {i : I} (hc : (cNil P o.type o.op).or (cI P o.op) = some i) {K γ} (st : St ⟨K, γ, H⟩ w) (hr : RegsOk ⟨K, γ, H⟩ a.tmps r) (hg : GlOk ⟨K, γ, H⟩ Gl) {x : AV} {u new}
    (hs : step Gl H.length r H i = some (x, u, new)) : ∃ v w' K' γ', ((execOp a.eval o).run P w = .ok (.value v) w' ∨ ((execOp a.eval o).run P w = .ok .skip w' ∧ v = undef)) ∧
      St ⟨K', γ', appU H u ++ new.toList⟩ w' ∧ Wf ⟨K, γ, H⟩ w ⟨K', γ', appU H u ++ new.toList⟩ w' ∧ Rl ⟨K', γ', appU H u ++ new.toList⟩ v x := by
  have hs2 := step_mono (knows_pad H) hs
  obtain ⟨v, w', ⟨K', γ', H'⟩, h1, h2, h3, h4, h5⟩ := step_sound (G := ⟨K, γ, H ++ [.res]⟩) st.pad (hr.mono (Ext.pad _ _ _)) (hg.mono (Ext.pad _ _ _)) (by simp) hc hs2
  simp only at h4
  have happ : appU (H ++ [.res]) u = appU H u ++ [.res] := by
    cases u with
    | none => rfl
    | some p =>
      obtain ⟨g, e⟩ := p
      have := step_u_lt hs
      simp only [appU]
      rw [List.set_append_left _ _ this]
  have hlen : (appU H u).length = H.length := by cases u <;> simp [appU]
  rw [happ] at h4
  cases new with
  | none =>
    simp only [hp] at h4
    subst h4
    refine ⟨v, w', K', γ', h1, by simpa using h2.unpad, by simpa using ((Wf.pad w).trans h3).unpad (by simp [hlen]), by simpa using h5.unpad⟩
  | some e =>
    simp only [hp] at h4
    have : (appU H u ++ [Ent.res]).set H.length e = appU H u ++ [e] := by
      rw [← hlen]
      simp
    rw [this] at h4
    subst h4
    exact ⟨v, w', K', γ', h1, by simpa using h2, by simpa using (Wf.pad w).trans h3, by simpa using h5⟩

/-- A call of the abstract machine. -/
theorem call_done {f : FuncId} {as0 as : List AV} {H0 H1 : List Ent} {x : AV} {K γ} (st : St ⟨K, γ, H⟩ w) (hg : GlOk ⟨K, γ, H⟩ Gl) {vs : Array Value} (hl : vs.size = as0.length)
    (hv : ∀ (j : Nat) (v : Value) (c : AV), vs[j]? = some v → as0[j]? = some c → Rl ⟨K, γ, H⟩ v c) (hf : FrzL H as0 as H0) (hc : Con P Gl f as H0 x H1) :
    Calls P f vs w fun e w' => ∃ v K' γ', e = .returned v ∧ St ⟨K', γ', H1⟩ w' ∧ Wf ⟨K, γ, H⟩ w ⟨K', γ', H1⟩ w' ∧ Rl ⟨K', γ', H1⟩ v x := by
  obtain ⟨⟨K1, γ1, H1'⟩, e1, e2, e3, e4, e5, e6⟩ := frzL_ok hf ⟨K, γ, H⟩ rfl st
  simp only at e1
  subst e1
  refine (hc.run K1 γ1 w vs e2 (hg.mono e3.ext) (by rw [hl, e4]) fun j v c hj hc' => ?_).mono ?_
  · have hlt : j < as0.length := by rw [← hl]; exact (Array.getElem?_eq_some_iff.1 hj).1
    exact e5 j _ c (List.getElem?_eq_getElem hlt) hc' v (hv j v _ hj (List.getElem?_eq_getElem hlt))
  · rintro e w' ⟨v, K', γ', h1, h2, h3, h4⟩
    exact ⟨v, K', γ', h1, h2, e3.trans h3, h4⟩

theorem run_call {o : Oper} {c : Call} {y : Operand} {f : FuncId} {cap : Array Value} (ho : o.op = .call c) (hc : c.callee = .value y) (hy : a.eval y = .func (.func f) #[] cap) (hf : Callee P f) :
    (execOp a.eval o).run P w = .ok (.enter f (c.args.map a.eval ++ cap)) w := by
  have := run_callFunc hf (c.args.map a.eval ++ cap) w
  simp [execOp, ho, resolve, hc, hy, Deferred.ofValue, invoke, this]

/-- What an operation comes to, from where a walk stands. -/
def Lands (P : Program) (Gl : Nat → AV) (nt : Nat) (G0 : Gho) (w0 : World) (a : Act) (x : AV) (H' : List Ent) (r : Regs) (v : Value) (w' : World) : Prop :=
  ∃ K γ, St ⟨K, γ, H'⟩ w' ∧ Wf G0 w0 ⟨K, γ, H'⟩ w' ∧ RegsOk ⟨K, γ, H'⟩ a.tmps r ∧ GlOk ⟨K, γ, H'⟩ Gl ∧ Rl ⟨K, γ, H'⟩ v x

theorem eff_sound {o : Oper} {co : OpI} (hc : (cNil P o.type o.op).or (cI P o.op) = some co.i) (iv : Iv Gl nt G0 w0 a w r H) {x : AV} {H' : List Ent} (he : Eff P Gl co r H x H')
    {N : Act → World → Prop} {Q : Exit → Act → World → Prop} (hN : ∀ v w', Lands P Gl nt G0 w0 a x H' r v w' → N (a.put o.dst v) w') : o.wp P a w N Q := by
  obtain ⟨K, γ, st, wf, hr, hg, hsz, hd⟩ := iv
  have fin : ∀ {K' γ' v w'}, St ⟨K', γ', H'⟩ w' → Wf ⟨K, γ, H⟩ w ⟨K', γ', H'⟩ w' → Rl ⟨K', γ', H'⟩ v x → N (a.put o.dst v) w' := fun {K' γ' v w'} h1 h2 h3 =>
    hN v w' ⟨K', γ', h1, wf.trans h2, hr.mono h2.ext, hg.mono h2.ext, h3⟩
  -- the three kinds
  have stepCase : ∀ {u new}, step Gl H.length r H co.i = some (x, u, new) → H' = appU H u ++ new.toList → o.wp P a w N Q := by
    intro u new hs hH
    subst hH
    obtain ⟨v, w', K', γ', h1, h2, h3, h4⟩ := step_done (a := a) hc st hr hg hs
    unfold Oper.wp
    rcases h1 with h1 | ⟨h1, rfl⟩
    · rw [h1]; exact fin h2 h3 h4
    · rw [h1]; exact fin h2 h3 h4
  have callCase : ∀ {f xs as H0}, co.i = .call f xs → FrzL H (xs.map (ov Gl r)) as H0 → Con P Gl f as H0 x H' → o.wp P a w N Q := by
    intro f xs as H0 hi hf hcon
    rw [hi] at hc
    obtain ⟨c, ho, hcal, hm, hcl⟩ := cI_call hc
    obtain ⟨m1, m2⟩ := rl_Os (act := a) hr hg hm
    unfold Oper.wp
    rw [run_call (a := a) (w := w) ho hcal (f := f) (cap := #[]) rfl hcl]
    refine (call_done st hg (vs := c.args.map a.eval ++ #[]) (by simpa using m1) (fun j v c' hj hc' => m2 j v c' (by simpa using hj) hc') hf hcon).mono ?_
    rintro e w' ⟨v, K', γ', rfl, h2, h3, h4⟩
    exact fin h2 h3 h4
  have callvCase : ∀ {y xs f cs as H0}, co.i = .callv y xs → ov Gl r y = .fn f cs → FrzL H (xs.map (ov Gl r) ++ cs) as H0 → Con P Gl f as H0 x H' → o.wp P a w N Q := by
    intro y xs f cs as H0 hi hy hf hcon
    rw [hi] at hc
    obtain ⟨c, z, ho, hcal, hz, hm⟩ := cI_callv hc
    obtain ⟨m1, m2⟩ := rl_Os (act := a) hr hg hm
    have hv := rl_O (act := a) hr hg hz
    rw [hy] at hv
    generalize hev : a.eval z = vz at hv
    cases hv with
    | fn _ vs _ hs hc' =>
      unfold Oper.wp
      rw [run_call (a := a) (w := w) ho hcal hev hcon.has]
      refine (call_done st hg (vs := c.args.map a.eval ++ vs) (by simp [hs] at m1 ⊢; omega) (fun j v c'' hj hc'' => ?_) hf hcon).mono ?_
      · have hm1 : (c.args.map a.eval).size = (xs.map (ov Gl r)).length := by simpa using m1
        by_cases hlt : j < (c.args.map a.eval).size
        · rw [Array.getElem?_append_left hlt] at hj
          rw [List.getElem?_append_left (by rw [← hm1]; exact hlt)] at hc''
          exact m2 j v c'' (by simpa using hj) hc''
        · rw [Array.getElem?_append_right (by omega)] at hj
          rw [List.getElem?_append_right (by rw [← hm1]; omega), ← hm1] at hc''
          exact hc' _ v c'' hj hc''
      · rintro e w' ⟨v, K', γ', rfl, h2, h3, h4⟩
        exact fin h2 h3 h4
  unfold Eff at he
  split at he
  · rcases he with ⟨f, xs, as, H0, h1, h2, h3⟩ | ⟨y, xs, f, cs, as, H0, h1, h2, h3, h4⟩ | ⟨u, new, h1, h2⟩
    · exact callCase h1 h2 h3
    · exact callvCase h1 h2 h3 h4
    · exact stepCase h1 h2
  · obtain ⟨rfl, he⟩ := he
    rcases he with ⟨f, xs, h1, h2⟩ | ⟨y, xs, f, cs, h1, h2, h3⟩
    · exact callCase h1 (FrzL.same _ _) h2
    · exact callvCase h1 h2 (FrzL.same _ _) h3
  · obtain ⟨rfl, he⟩ := he
    rcases he with ⟨f, xs, h1, h2⟩ | ⟨y, xs, f, cs, h1, h2, h3⟩ | h1
    · exact callCase h1 (FrzL.same _ _) (h2 _)
    · exact callvCase h1 h2 (FrzL.same _ _) (h3 _)
    · exact stepCase (u := none) (new := none) (step_quiet h1) (by simp [appU])
end

end Go.Am
