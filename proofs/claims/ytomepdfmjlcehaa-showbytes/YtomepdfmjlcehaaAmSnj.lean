/- Regions whose order is drawn. -/
import Derived.Test.YtomepdfmjlcehaaAmSni
set_option linter.unusedVariables false
set_option linter.unusedSimpArgs false
namespace Go.Am

/-- Registers that read alike. -/
def Eqv (r r' : Regs) : Prop := ∀ t, look r t = look r' t

theorem Eqv.put {r r' : Regs} (h : Eqv r r') (d : Option Nat) (a : AV) : Eqv (putR d a r) (putR d a r') := by
  cases d with
  | none => exact h
  | some t => intro u; simp only [putR, look]; rw [h u]

theorem freeOf_spec {d : Option Nat} {l : List Nat} (h : freeOf d l = true) {t : Nat} (ht : d = some t) : t ∉ l := by
  subst ht
  simp only [freeOf, List.all_eq_true] at h
  intro hm
  have := h t hm
  simp at this

theorem look_put {d : Option Nat} {a : AV} {r : Regs} {t : Nat} (h : d ≠ some t) : look (putR d a r) t = look r t := by
  cases d with
  | none => rfl
  | some u =>
    simp only [putR, look]
    rw [if_neg (fun e => h (by rw [e]))]

section
variable {P : Program} {Gl : Nat → AV} {nt : Nat} {G0 : Gho} {w0 : World} {ops : Array Oper} {cs : List OpI}

theorem gate_congr {o : OpI} {r r' : Regs} (h : ∀ t ∈ o.looks, look r t = look r' t) : gate o r = gate o r' := by
  unfold gate
  split
  · rfl
  · rename_i d b hg
    rw [h d (by simp [OpI.looks, hg])]

theorem op1_congr {o : OpI} {r r' : Regs} {H H' : List Ent} {r1 : Regs} (h : ∀ t ∈ o.looks, look r t = look r' t) (k : Op1 P Gl o r H r1 H') : ∃ x, r1 = putR o.dst x r ∧ Op1 P Gl o r' H (putR o.dst x r') H' := by
  have h' : ∀ t ∈ o.i.regs, look r t = look r' t := fun t ht => h t (by simp [OpI.looks, ht])
  rcases k with ⟨k1, a, k2, k3⟩ | ⟨k1, k2, k3⟩
  · exact ⟨a, k3, .inl ⟨gate_congr h ▸ k1, a, eff_regs h' k2, rfl⟩⟩
  · exact ⟨.un, k3, .inr ⟨gate_congr h ▸ k1, k2, rfl⟩⟩

/-- Two operations change places. -/
theorem op1_swap {x y : OpI} (hi : indep x y = true) {r r1 r2 : Regs} {H H1 H2 : List Ent} (hb : ∀ t, Bel H.length (look r t)) (hg : ∀ n, Bel H.length (Gl n))
    (hx : Op1 P Gl x r H r1 H1) (hy : Op1 P Gl y r1 H1 r2 H2) : ∃ r1' H1' r2', Op1 P Gl y r H r1' H1' ∧ Op1 P Gl x r1' H1' r2' H2 ∧ Eqv r2 r2' := by
  simp only [indep, Bool.and_eq_true] at hi
  obtain ⟨⟨⟨i1, i2⟩, i3⟩, i4⟩ := hi
  have hne : ∀ t, x.dst = some t → y.dst ≠ some t := fun t e e' => freeOf_spec i3 e (by rw [e']; simp)
  have comm : ∀ a b, Eqv (putR y.dst b (putR x.dst a r)) (putR x.dst a (putR y.dst b r)) := fun a b u => by
    by_cases e1 : x.dst = some u
    · rw [look_put (hne u e1), e1]
      simp [putR, look]
    · rw [look_put e1]
      by_cases e2 : y.dst = some u
      · rw [e2]; simp [putR, look]
      · rw [look_put e2, look_put e2, look_put e1]
  have hyl : ∀ a, ∀ t ∈ y.looks, look (putR x.dst a r) t = look r t := fun a t ht => look_put fun e => freeOf_spec i1 e ht
  have hxl : ∀ b, ∀ t ∈ x.looks, look r t = look (putR y.dst b r) t := fun b t ht => (look_put fun e => freeOf_spec i2 e ht).symm
  have hxl' : ∀ b, ∀ t ∈ x.i.regs, look r t = look (putR y.dst b r) t := fun b t ht => hxl b t (by simp [OpI.looks, ht])
  have hyl' : ∀ a, ∀ t ∈ y.i.regs, look (putR x.dst a r) t = look r t := fun a t ht => hyl a t (by simp [OpI.looks, ht])
  rcases hx with ⟨x1, a, x2, rfl⟩ | ⟨x1, rfl, rfl⟩
  · rcases hy with ⟨y1, b, y2, rfl⟩ | ⟨y1, rfl, rfl⟩
    · obtain ⟨H1', k1, k2⟩ := eff_swap i4 x2 (eff_regs (hyl' a) y2) fun o hc hr => by
        cases o with
        | t n => exact hb n
        | c a => exact absurd rfl (hc a)
        | g n => exact hg n
        | f n => exact .fn _ _ (by simp)
      exact ⟨_, H1', _, .inl ⟨gate_congr (hyl a) ▸ y1, b, k1, rfl⟩, .inl ⟨gate_congr (hxl b) ▸ x1, a, eff_regs (hxl' b) k2, rfl⟩, comm a b⟩
    · exact ⟨_, H, _, .inr ⟨gate_congr (hyl a) ▸ y1, rfl, rfl⟩, .inl ⟨gate_congr (hxl .un) ▸ x1, a, eff_regs (hxl' .un) x2, rfl⟩, comm a .un⟩
  · rcases hy with ⟨y1, b, y2, rfl⟩ | ⟨y1, rfl, rfl⟩
    · exact ⟨_, H2, _, .inl ⟨gate_congr (hyl .un) ▸ y1, b, eff_regs (hyl' .un) y2, rfl⟩, .inr ⟨gate_congr (hxl b) ▸ x1, rfl, rfl⟩, comm .un b⟩
    · exact ⟨_, _, _, .inr ⟨gate_congr (hyl .un) ▸ y1, rfl, rfl⟩, .inr ⟨gate_congr (hxl .un) ▸ x1, rfl, rfl⟩, comm .un .un⟩

/-- Whatever order is picked from here on. -/
def evAny (P : Program) (Gl : Nat → AV) (ops : Array Oper) (cs : List OpI) (K : Regs → List Ent → Prop) : Nat → Array Bool → Regs → List Ent → Prop
  | 0, listed, r, H => Region.ready .any ops listed = [] ∧ K r H
  | n + 1, listed, r, H => (Region.ready .any ops listed = [] → K r H) ∧
    ∀ i ∈ Region.ready .any ops listed, ∃ o r' H', cs[i]? = some o ∧ Op1 P Gl o r H r' H' ∧ evAny P Gl ops cs K n (listed.setIfInBounds i true) r' H'

/-- The instructions of a region's operations. -/
def Cops (P : Program) (nt : Nat) (ops : Array Oper) (cs : List OpI) : Prop := ∀ (i : Nat) (o : Oper), ops[i]? = some o → ∃ c, cs[i]? = some c ∧ Cop P nt ops o c

theorem ready_get {listed : Array Bool} {i : Nat} (h : i ∈ Region.ready .any ops listed) : ∃ o, ops[i]? = some o := by
  obtain ⟨_, o, ho, _⟩ := mem_ready.1 h
  exact ⟨o, ho⟩

theorem evAny_sound (hc : Cops P nt ops cs) {Q : Exit → Act → World → Prop} {K : Regs → List Ent → Prop} (hK : ∀ a w r H, Iv Gl nt G0 w0 a w r H → K r H → Q .normal a w) :
    ∀ (n : Nat) (listed : Array Bool) (a : Act) (w : World) (r : Regs) (H : List Ent), Iv Gl nt G0 w0 a w r H → evAny P Gl ops cs K n listed r H → wpAny P .any ops Q n listed a w := by
  intro n
  induction n with
  | zero => exact fun listed a w r H iv h => ⟨h.1, hK a w r H iv h.2⟩
  | succ n ih =>
    intro listed a w r H iv h
    refine ⟨fun e => hK a w r H iv (h.1 e), fun i hi => ?_⟩
    obtain ⟨c, r', H', k1, k2, k3⟩ := h.2 i hi
    obtain ⟨o, ho⟩ := ready_get hi
    obtain ⟨c', k4, k5⟩ := hc i o ho
    rw [k1] at k4
    injection k4 with k4
    subst k4
    unfold wpOp
    simp only [ho]
    exact op1_sound k5 iv k2 fun a' w' iv' => ih _ a' w' r' H' iv' k3

theorem evAny_eqv {K : Regs → List Ent → Prop} (hK : ∀ r r' H, Eqv r r' → K r H → K r' H) : ∀ (n : Nat) (listed : Array Bool) (r r' : Regs) (H : List Ent), Eqv r r' → evAny P Gl ops cs K n listed r H → evAny P Gl ops cs K n listed r' H := by
  intro n
  induction n with
  | zero => exact fun listed r r' H e h => ⟨h.1, hK _ _ _ e h.2⟩
  | succ n ih =>
    intro listed r r' H e h
    refine ⟨fun h0 => hK _ _ _ e (h.1 h0), fun i hi => ?_⟩
    obtain ⟨o, r1, H1, k1, k2, k3⟩ := h.2 i hi
    obtain ⟨x, rfl, k4⟩ := op1_congr (r' := r') (fun t _ => e t) k2
    exact ⟨o, _, H1, k1, k4, ih _ _ _ _ (e.put _ _) k3⟩

/-- A walk may stand there. -/
def Rz (Gl : Nat → AV) (nt : Nat) (G0 : Gho) (w0 : World) (r : Regs) (H : List Ent) : Prop := ∃ a w, Iv Gl nt G0 w0 a w r H

theorem Rz.bel {r : Regs} {H : List Ent} (h : Rz Gl nt G0 w0 r H) : (∀ t, Bel H.length (look r t)) ∧ ∀ n, Bel H.length (Gl n) := by
  obtain ⟨a, w, K, γ, st, wf, hr, hg, _⟩ := h
  exact ⟨fun t => (hr t).bel, fun n => (hg n).bel⟩

theorem wp_some {o : Oper} {a : Act} {w : World} {N : Act → World → Prop} (h : o.wp P a w N (fun _ _ _ => False)) : ∃ a' w', N a' w' := by
  unfold Oper.wp at h
  generalize (execOp a.eval o).run P w = x at h
  cases x with
  | ok n w' =>
    cases n <;> simp only [Oper.upon] at h
    case value v => exact ⟨_, _, h⟩
    case skip => exact ⟨_, _, h⟩
    case defer d => exact ⟨_, _, h⟩
    case enter f args =>
      obtain ⟨e, w'', fr, h1, _⟩ := h []
      cases e with
      | returned v => exact ⟨_, _, h1⟩
      | panicked c => exact h1.elim
      | outgrown => obtain ⟨_, _, h2⟩ := h1; exact h2.elim
    case row row args =>
      obtain ⟨v, w'', h1, _⟩ := h default []
      exact ⟨_, _, h1⟩
  | halt y w' => cases y <;> simp only [Oper.upon] at h

theorem Rz.op1 {o : Oper} {c : OpI} (hc : Cop P nt ops o c) {r r' : Regs} {H H' : List Ent} (h : Rz Gl nt G0 w0 r H) (k : Op1 P Gl c r H r' H') : Rz Gl nt G0 w0 r' H' := by
  obtain ⟨a, w, iv⟩ := h
  have := op1_sound (N := fun a' w' => Iv Gl nt G0 w0 a' w' r' H') (Q := fun _ _ _ => False) hc iv k fun _ _ h => h
  split at this
  · rcases this with h | ⟨_, _, _, h⟩
    · exact wp_some h
    · exact h.elim
  · exact ⟨_, _, this⟩

/-- Those that wait for i, and the rest: nothing to do with it. -/
structure Lone (ops : Array Oper) (cs : List OpI) (D : List Nat) (i : Nat) (o : OpI) (listed : Array Bool) : Prop where
  dep : ∀ j ∈ D, j = i ∨ ∃ oj, ops[j]? = some oj ∧ ∃ e ∈ oj.after, Region.binds .any e = true ∧ e.on ∈ D
  un : ∀ j ∈ D, listed.getD j true = false
  ind : ∀ (j : Nat) (c : OpI), cs[j]? = some c → listed.getD j true = false → j ∉ D → indep o c = true

theorem getD_ff {listed : Array Bool} {j : Nat} (h : listed.getD j true = false) : listed.getD j false = false := by
  rcases Nat.lt_or_ge j listed.size with h' | h'
  · simp [h'] at h ⊢; exact h
  · simp [Array.getElem?_eq_none h'] at h

/-- What may come up and stands alone may come up first. -/
theorem evAny_first (hc : Cops P nt ops cs) {K : Regs → List Ent → Prop} (hK : ∀ r r' H, Eqv r r' → K r H → K r' H) {i : Nat} {o : OpI} (ho : cs[i]? = some o) {D : List Nat} :
    ∀ (n : Nat) (listed : Array Bool) (r : Regs) (H : List Ent) (r1 : Regs) (H1 : List Ent), i ∈ Region.ready .any ops listed → Lone ops cs D i o listed → Rz Gl nt G0 w0 r H →
      Op1 P Gl o r H r1 H1 → evAny P Gl ops cs K n (listed.setIfInBounds i true) r1 H1 → evAny P Gl ops cs K (n + 1) listed r H := by
  intro n
  induction n with
  | zero =>
    intro listed r H r1 H1 hi hl hz hop H
    refine ⟨fun h => (by rw [h] at hi; cases hi), fun j hj => ?_⟩
    by_cases hji : j = i
    · subst hji; exact ⟨o, r1, H1, ho, hop, H⟩
    · have := ready_mono hj hji
      rw [H.1] at this
      cases this
  | succ n ih =>
    intro listed r H r1 H1 hi hl hz hop hev
    refine ⟨fun h => (by rw [h] at hi; cases hi), fun j hj => ?_⟩
    by_cases hji : j = i
    · subst hji; exact ⟨o, r1, H1, ho, hop, hev⟩
    · obtain ⟨c, r2, H2, k1, k2, k3⟩ := hev.2 j (ready_mono hj hji)
      obtain ⟨hjun, oj, hoj, hall⟩ := mem_ready.1 hj
      have hjD : j ∉ D := fun hm => by
        rcases hl.dep j hm with e | ⟨oj', h1, e, h2, h3, h4⟩
        · exact hji e
        · rw [hoj] at h1
          injection h1 with h1
          subst h1
          have h5 := hall e h2 h3
          rw [getD_ff (hl.un _ h4)] at h5
          cases h5
      have hin := hl.ind j c k1 hjun hjD
      obtain ⟨b1, b2⟩ := hz.bel
      obtain ⟨r1', H1', r2', m1, m2, m3⟩ := op1_swap hin b1 b2 hop k2
      obtain ⟨c', hc1, hc2⟩ := hc j oj hoj
      rw [k1] at hc1
      injection hc1 with hc1
      subst hc1
      refine ⟨c, r1', H1', k1, m1, ih (listed.setIfInBounds j true) r1' H1' r2' H2 (ready_mono hi (Ne.symm hji)) ⟨hl.dep, fun k hk => ?_, fun k ck h1 h2 h3 => ?_⟩ (hz.op1 hc2 m1) m2 ?_⟩
      · rw [getD_set_ne true (fun e => hjD (by rw [e]; exact hk))]
        exact hl.un k hk
      · refine hl.ind k ck h1 ?_ h3
        by_cases hjk : j = k
        · subst hjk; exact hjun
        · rw [getD_set_ne true hjk] at h2; exact h2
      · rw [Array.setIfInBounds_comm _ _ hji]
        exact evAny_eqv hK _ _ _ _ _ m3 k3

theorem depFrom_spec (ops : Array Oper) (i : Nat) : ∀ (l D : List Nat), (∀ j ∈ D, j = i ∨ ∃ oj, ops[j]? = some oj ∧ ∃ e ∈ oj.after, Region.binds .any e = true ∧ e.on ∈ D) →
    ∀ j ∈ depFrom ops i l D, j = i ∨ ∃ oj, ops[j]? = some oj ∧ ∃ e ∈ oj.after, Region.binds .any e = true ∧ e.on ∈ depFrom ops i l D := by
  intro l
  induction l with
  | nil => exact fun D h => h
  | cons k l ih =>
    intro D h
    simp only [depFrom]
    refine ih _ ?_
    split
    · rename_i hk
      intro j hj
      rcases List.mem_cons.1 hj with rfl | hj
      · rcases hk with hk | hk
        · exact .inl hk
        · cases ho : ops[j]? with
          | none => rw [ho] at hk; cases hk
          | some oj =>
            rw [ho] at hk
            simp only [Option.map_some, Option.some.injEq] at hk
            obtain ⟨e, he, hb⟩ := Array.any_eq_true'.1 hk
            simp only [Bool.and_eq_true, List.any_eq_true, beq_iff_eq] at hb
            obtain ⟨h1, x, h2, h3⟩ := hb
            exact .inr ⟨oj, rfl, e, he, h1, by rw [← h3]; exact List.mem_cons_of_mem _ h2⟩
      · rcases h j hj with h | ⟨oj, h1, e, h2, h3, h4⟩
        · exact .inl h
        · exact .inr ⟨oj, h1, e, h2, h3, List.mem_cons_of_mem _ h4⟩
    · exact h

theorem free_lone {listed : Array Bool} {i : Nat} {o : OpI} (ho : cs[i]? = some o) (hl : cs.length = ops.size) (h : free ops cs listed i = true) : Lone ops cs (deps ops i) i o listed := by
  simp only [free, ho, Bool.and_eq_true, List.all_eq_true, List.mem_range] at h
  obtain ⟨h1, h2⟩ := h
  refine ⟨depFrom_spec ops i _ _ (by simp), fun j hj => by simpa using h1 j hj, fun j c hj hu hD => ?_⟩
  have := h2 j (by rw [← hl]; exact (List.getElem?_eq_some_iff.1 hj).1)
  simp only [hj, hu, Bool.false_or, Bool.or_eq_true, List.any_eq_true, beq_iff_eq] at this
  rcases this with ⟨x, h3, h4⟩ | h3
  · exact absurd (h4 ▸ h3) hD
  · exact h3

theorem evD_plan (hc : Cops P nt ops cs) (hlen : cs.length = ops.size) {K : Regs → List Ent → Prop} (hK : ∀ r r' H, Eqv r r' → K r H → K r' H) :
    ∀ (n : Nat) (listed : Array Bool) (d : DT) (r : Regs) (H : List Ent), plan ops cs n listed = some d → Rz Gl nt G0 w0 r H → evD P Gl K d r H → evAny P Gl ops cs K n listed r H := by
  intro n
  induction n with
  | zero =>
    intro listed d r H hp hz h
    simp only [plan] at hp
    split at hp
    · rename_i hr
      injection hp with hp
      subst hp
      exact ⟨hr, h⟩
    · cases hp
  | succ n ih =>
    intro listed d r H hp hz h
    simp only [plan] at hp
    split at hp
    · rename_i hr
      injection hp with hp
      subst hp
      exact ⟨fun _ => h, by rw [hr]; simp⟩
    · rename_i hne
      split at hp
      · rename_i i hf
        have hi := List.mem_of_find?_eq_some hf
        have hfr := List.find?_some hf
        split at hp
        · rename_i o d' ho hd'
          injection hp with hp
          subst hp
          obtain ⟨r', H', k1, k2⟩ := evG_op1 P Gl h
          obtain ⟨oo, hoo⟩ := ready_get hi
          obtain ⟨c', hc1, hc2⟩ := hc i oo hoo
          rw [ho] at hc1
          injection hc1 with hc1
          subst hc1
          exact evAny_first hc hK ho n listed r H r' H' hi (free_lone ho hlen hfr) hz k1 (ih _ d' r' H' hd' (hz.op1 hc2 k1) k2)
        · cases hp
      · refine ⟨fun e => absurd e hne, ?_⟩
        -- all those that may come up
        have key : ∀ (rs : List Nat) (d : DT), rs.foldr (fun i acc => match cs[i]?, plan ops cs n (listed.setIfInBounds i true), acc with
            | some o, some d, some t => some (.both (.op o d) t)
            | _, _, _ => none) (some .tt) = some d → evD P Gl K d r H → (∀ i ∈ rs, i ∈ Region.ready .any ops listed) → ∀ i ∈ rs, ∃ o r' H', cs[i]? = some o ∧ Op1 P Gl o r H r' H' ∧ evAny P Gl ops cs K n (listed.setIfInBounds i true) r' H' := by
          intro rs
          induction rs with
          | nil => intro d _ _ _ i hi; cases hi
          | cons j rs ihr =>
            intro d hd hev hm i hi
            simp only [List.foldr_cons] at hd
            split at hd
            · rename_i o d1 t ho hd1 ht
              injection hd with hd
              subst hd
              rcases List.mem_cons.1 hi with rfl | hi
              · obtain ⟨r', H', k1, k2⟩ := evG_op1 P Gl hev.1
                obtain ⟨oo, hoo⟩ := ready_get (hm i (by simp))
                obtain ⟨c', hc1, hc2⟩ := hc i oo hoo
                rw [ho] at hc1
                injection hc1 with hc1
                subst hc1
                exact ⟨o, r', H', ho, k1, ih _ d1 r' H' hd1 (hz.op1 hc2 k1) k2⟩
              · exact ihr t ht hev.2 (fun k hk => hm k (List.mem_cons_of_mem _ hk)) i hi
            · cases hd
        exact key _ d hp h fun i hi => hi

theorem setQ_get (ops : Array Oper) (cs : List OpI) : (setQ ops cs).length = cs.length ∧ ∀ (i : Nat) (c : OpI), cs[i]? = some c → ∃ q, (setQ ops cs)[i]? = some { c with q := q } := by
  refine ⟨by simp [setQ], fun i c hc => ?_⟩
  have hlt := (List.getElem?_eq_some_iff.1 hc).1
  have hz : (cs.zip (List.range cs.length))[i]? = some (c, i) := by
    rw [List.getElem?_zip_eq_some]
    exact ⟨hc, by simp [hlt]⟩
  simp only [setQ, List.getElem?_map, hz, Option.map_some]
  split
  · split
    · exact ⟨c.q, rfl⟩
    · split
      · exact ⟨1, rfl⟩
      · exact ⟨2, rfl⟩
  · exact ⟨c.q, rfl⟩

theorem cops_of {cs : List OpI} (h : mapM' (cOp P nt ops) ops.toList = some cs) : Cops P nt ops (setQ ops cs) ∧ (setQ ops cs).length = ops.size := by
  obtain ⟨h1, h2⟩ := mapM'_some h
  obtain ⟨h3, h4⟩ := setQ_get ops cs
  refine ⟨fun i o ho => ?_, by rw [h3, h1]; simp⟩
  have hlt : i < cs.length := by rw [h1]; simpa using (Array.getElem?_eq_some_iff.1 ho).1
  obtain ⟨q, hq⟩ := h4 i _ (List.getElem?_eq_getElem hlt)
  exact ⟨_, hq, (cop_of (h2 i o _ (by simpa using ho) (List.getElem?_eq_getElem hlt))).q q⟩

end

end Go.Am
