/- Freezing, room for a new entry, and what is left behind: what they leave as it is. -/
import Derived.Test.YtomepdfmjlcehaaAmEv
set_option linter.unusedVariables false
set_option linter.unusedSimpArgs false
namespace Go.Am

theorem pad_get {H : List Ent} {g : Nat} {e : Ent} (h : (H ++ [Ent.res])[g]? = some e) (hn : e ≠ .res) : H[g]? = some e := by
  by_cases hg : g < H.length
  · rwa [List.getElem?_append_left hg] at h
  · rw [List.getElem?_append_right (by omega)] at h
    cases hk : g - H.length with
    | zero => rw [hk] at h; simp at h; exact absurd h.symm hn
    | succ k => rw [hk] at h; simp at h

theorem pad_lt {H : List Ent} {g : Nat} (h : g < (H ++ [Ent.res]).length) (hn : (H ++ [Ent.res])[g]? ≠ some .res) : g < H.length ∧ H[g]? ≠ some .res := by
  have hg : g < H.length := by
    by_cases hg : g < H.length
    · exact hg
    · exfalso
      simp only [List.length_append, List.length_cons, List.length_nil] at h
      have : g = H.length := by omega
      subst this
      exact hn (by simp)
  refine ⟨hg, ?_⟩
  rwa [List.getElem?_append_left hg] at hn

theorem Rl.unpad {K γ H} {v : Value} {a : AV} (h : Rl ⟨K, γ, H ++ [.res]⟩ v a) : Rl ⟨K, γ, H⟩ v a := by
  generalize hG : (⟨K, γ, H ++ [.res]⟩ : Gho) = G at h
  induction h with
  | bo b => exact .bo b
  | it k n => exact .it k n
  | st s => exact .st s
  | sc v hv => exact .sc v hv
  | sl0 A c => exact .sl0 A c
  | sl b o n c sz xs us h0 h1 h2 h3 _ ih => subst hG; exact .sl b o n c sz xs us h0 h1 h2 h3 fun i j x y hx hy => ih i j x y hx hy
  | ag vs cs hs _ ih => subst hG; exact .ag vs cs hs fun j v c hv hc => ih j v c hv hc
  | tp vs cs hs _ ih => subst hG; exact .tp vs cs hs fun j v c hv hc => ih j v c hv hc
  | row g n A c lt hn hr =>
    subst hG
    obtain ⟨h1, h2⟩ := pad_lt lt hn
    refine .row g n A c h1 h2 fun e sz xs f hh => hr e sz xs f ?_
    simp only
    rw [List.getElem?_append_left h1]; exact hh
  | nl => exact .nl
  | ptr g o b lt hn hb hi =>
    subst hG
    obtain ⟨h1, h2⟩ := pad_lt lt hn
    refine .ptr g o b h1 h2 (fun ty cs hh => hb ty cs ?_) (fun s p hh => hi s p ?_)
    · simp only; rw [List.getElem?_append_left h1]; exact hh
    · simp only; rw [List.getElem?_append_left h1]; exact hh
  | el g n i o b p lt hn hr =>
    subst hG
    obtain ⟨h1, h2⟩ := pad_lt lt hn
    refine .el g n i o b p h1 h2 fun e sz xs f hh => hr e sz xs f ?_
    simp only
    rw [List.getElem?_append_left h1]; exact hh
  | fp b q n sz xs k o us h1 h2 h3 _ ih => subst hG; exact .fp b q n sz xs k o us h1 h2 h3 fun i j x y hx hy => ih i j x y hx hy
  | fn f vs cs hs _ ih => subst hG; exact .fn f vs cs hs fun j v c hv hc => ih j v c hv hc
  | un v => exact .un v

theorem Ext.pad (K γ H) : Ext ⟨K, γ, H⟩ ⟨K, γ, H ++ [.res]⟩ :=
  ⟨fun _ _ _ h => h, by simp, fun g e h => by
    have hlt := (List.getElem?_eq_some_iff.1 h).1
    simp only at h ⊢
    rw [List.getElem?_append_left hlt, h]
    exact Turns.refl _ _ _⟩

theorem EntOk.unpad {K γ H} {w : World} {b c : Nat} {e : Ent} (h : EntOk ⟨K, γ, H ++ [.res]⟩ w b c e) : EntOk ⟨K, γ, H⟩ w b c e := by
  cases h with
  | box t cs vs h1 h2 h3 h4 => exact .box t cs vs h1 h2 h3 fun j v a hv ha => (h4 j v a hv ha).unpad
  | row e sz xs f vs h1 h2 h3 h4 h5 k1 k2 h6 => exact .row e sz xs f vs h1 h2 h3 h4 h5 k1 k2 fun i j v x a hx ha hv => (h6 i j v x a hx ha hv).unpad
  | iter s p h1 h2 => exact .iter s p h1 h2
  | dead => exact .dead

theorem St.pad {K γ H} {w : World} (h : St ⟨K, γ, H⟩ w) : St ⟨K, γ, H ++ [.res]⟩ w where
  cell := h.cell
  dom g p hp := by
    obtain ⟨e, h1, h2⟩ := h.dom g p hp
    refine ⟨e, ?_, h2⟩
    simp only at h1 ⊢
    rw [List.getElem?_append_left (List.getElem?_eq_some_iff.1 h1).1, h1]
  inj := h.inj
  ent g b c e h1 h2 := by
    obtain ⟨e', h3, h4⟩ := h.dom g _ h1
    have h5 : (H ++ [Ent.res])[g]? = some e' := by
      simp only at h3
      rw [List.getElem?_append_left (List.getElem?_eq_some_iff.1 h3).1, h3]
    simp only at h2
    rw [h5] at h2
    injection h2 with h2
    subst h2
    exact (h.ent g b c _ h1 h3).mono (Ext.pad _ _ _) rfl
  lt := h.lt
  own g b c o u e h1 h2 h3 h4 := by
    obtain ⟨e', h5, h6⟩ := h.dom g _ h1
    have h7 : (H ++ [Ent.res])[g]? = some e' := by
      simp only at h5
      rw [List.getElem?_append_left (List.getElem?_eq_some_iff.1 h5).1, h5]
    simp only at h2
    rw [h7] at h2
    injection h2 with h2
    subst h2
    exact h.own g b c o u _ h1 h5 h3 h4

theorem St.unpad {K γ H} {w : World} (h : St ⟨K, γ, H ++ [.res]⟩ w) : St ⟨K, γ, H⟩ w where
  cell := h.cell
  dom g p hp := by
    obtain ⟨e, h1, h2⟩ := h.dom g p hp
    exact ⟨e, pad_get h1 h2, h2⟩
  inj := h.inj
  ent g b c e h1 h2 := by
    have : (H ++ [Ent.res])[g]? = some e := by
      simp only at h2
      rw [List.getElem?_append_left (List.getElem?_eq_some_iff.1 h2).1, h2]
    exact (h.ent g b c e h1 this).unpad
  lt := h.lt
  own g b c o u e h1 h2 h3 h4 := by
    have : (H ++ [Ent.res])[g]? = some e := by
      simp only at h2
      rw [List.getElem?_append_left (List.getElem?_eq_some_iff.1 h2).1, h2]
    exact h.own g b c o u e h1 this h3 h4

theorem Ext.unpad {G : Gho} {K γ H} (h : Ext G ⟨K, γ, H ++ [.res]⟩) (hl : G.H.length ≤ H.length) : Ext G ⟨K, γ, H⟩ :=
  ⟨h.K, hl, fun g e he => by
    have := h.turn g e he
    have hlt := (List.getElem?_eq_some_iff.1 he).1
    simp only at this ⊢
    rwa [List.getElem?_append_left (by omega)] at this⟩

/-! ### Freezing -/
theorem frz_shape {H a b H'} (h : FrzV H a b H') : (∃ cs cs', a = .ag cs ∧ b = .ag cs' ∧ cs'.length = cs.length) ∨ (a.cells = [a] ∧ b.cells = [b]) := by
  have hlen : ∀ {H as bs H'}, FrzL H as bs H' → bs.length = as.length := by
    intro H as
    induction as generalizing H with
    | nil => intro bs H' h; cases h; rfl
    | cons a as ih => intro bs H' h; cases h with | cons _ h2 => simp [ih h2]
  cases h with
  | same =>
    by_cases hag : ∃ cs, a = .ag cs
    · obtain ⟨cs, rfl⟩ := hag; exact .inl ⟨cs, cs, rfl, rfl, rfl⟩
    · have hc : a.cells = [a] := by cases a <;> first | rfl | exact absurd ⟨_, rfl⟩ hag
      exact .inr ⟨hc, hc⟩
  | nl => exact .inr ⟨rfl, rfl⟩
  | row => exact .inr ⟨rfl, rfl⟩
  | ag h => exact .inl ⟨_, _, rfl, rfl, hlen h⟩
  | tp h => exact .inr ⟨rfl, rfl⟩

/-- What freezing does: the relation goes over. -/
def FrzOk (w : World) (H : List Ent) (H' : List Ent) (R : Gho → Gho → Prop) : Prop :=
  ∀ G : Gho, G.H = H → St G w → ∃ G', G'.H = H' ∧ St G' w ∧ Wf G w G' w ∧ R G G'

theorem rl_cells_map {G G' : Gho} {x x' : AV} (hs : (∃ cs cs', x = .ag cs ∧ x' = .ag cs' ∧ cs'.length = cs.length) ∨ (x.cells = [x] ∧ x'.cells = [x'])) (h : ∀ v, Rl G v x → Rl G' v x') {sz : Nat} {us : Nat → Value} (hsz : x.cells.length = sz)
    (hu : ∀ (j : Nat) (y : AV), x.cells[j]? = some y → Rl G (us j) y) : x'.cells.length = sz ∧ ∀ (j : Nat) (y : AV), x'.cells[j]? = some y → Rl G' (us j) y := by
  rcases hs with ⟨cs, cs', rfl, rfl, hl⟩ | ⟨h1, h2⟩
  · simp only [AV.cells] at hsz hu ⊢
    refine ⟨hl.trans hsz, fun j y hy => ?_⟩
    have hv : Rl G (.agg ((List.range cs.length).map us).toArray) (.ag cs) := .ag _ _ (by simp) fun j v c hv hc => by
      have hj := (List.getElem?_eq_some_iff.1 hc).1
      simp [hj] at hv
      subst hv
      exact hu j c hc
    have := h _ hv
    cases this with
    | ag _ _ _ h3 =>
      have hj : j < cs.length := by have := (List.getElem?_eq_some_iff.1 hy).1; omega
      exact h3 j (us j) y (by simp [hj]) hy
  · rw [h1] at hsz hu
    rw [h2]
    refine ⟨by simpa using hsz, fun j y hy => ?_⟩
    cases j with
    | zero =>
      simp at hy
      subst hy
      exact h _ (hu 0 x rfl)
    | succ j => simp at hy

mutual
theorem frzV_ok {w : World} : ∀ {H a b H'}, FrzV H a b H' → FrzOk w H H' fun G G' => ∀ v, Rl G v a → Rl G' v b
  | _, _, _, _, .same H a => fun G hG st => ⟨G, hG, st, Wf.refl _ _, fun _ h => h⟩
  | _, _, _, _, .nl H => fun G hG st => ⟨G, hG, st, Wf.refl _ _, fun v h => by rw [rl_nl h]; exact .sl0 _ _⟩
  | _, _, _, _, .ag h => fun G hG st => by
    obtain ⟨G', h1, h2, h3, h4⟩ := frzL_ok h G hG st
    refine ⟨G', h1, h2, h3, fun v hv => ?_⟩
    cases hv with
    | ag vs _ hs hc =>
      refine .ag _ _ (hs.trans h4.1.symm) fun j u c hu hcc => ?_
      have hj : j < vs.size := (Array.getElem?_eq_some_iff.1 hu).1
      have hj2 := List.getElem?_eq_getElem (show j < _ from hs ▸ hj)
      exact h4.2.1 j _ c hj2 hcc u (hc j u _ hu hj2)
  | _, _, _, _, .tp h => fun G hG st => by
    obtain ⟨G', h1, h2, h3, h4⟩ := frzL_ok h G hG st
    refine ⟨G', h1, h2, h3, fun v hv => ?_⟩
    cases hv with
    | tp vs _ hs hc =>
      refine .tp _ _ (hs.trans h4.1.symm) fun j u c hu hcc => ?_
      have hj : j < vs.size := (Array.getElem?_eq_some_iff.1 hu).1
      have hj2 := List.getElem?_eq_getElem (show j < _ from hs ▸ hj)
      exact h4.2.1 j _ c hj2 hcc u (hc j u _ hu hj2)
  | _, _, _, _, .row (H := H) (g := g) (n := n) (e := e) (sz := sz) (xs := xs) (f := f) (xs' := xs') hg hl h => fun G hG st => by
    subst hG
    cases hγ : G.γ g with
    | none =>
      -- a nil row, if it is anything
      obtain ⟨G', h1, h2, h3, h4⟩ := frzL_ok h ⟨G.K, G.γ, G.H.set g (.row e sz xs xs.length)⟩ rfl (by
        have x : Ext G ⟨G.K, G.γ, G.H.set g (.row e sz xs xs.length)⟩ := Ext.set (fun _ _ _ h => h) hg (.row _ _ _ _ _ _ (Nat.le_refl _) (by omega) fun _ => rfl) fun _ _ => rfl
        exact st.upd x g (fun _ _ => rfl) (fun g' hg' p hp => by simp only; rw [List.getElem?_set, if_neg (fun e => hg' e.symm)]) (fun _ _ _ _ _ => rfl) st.cell (fun _ _ _ _ _ _ _ h => h) (Nat.le_refl _) fun b c hbc => by simp only at hbc; rw [hγ] at hbc; cases hbc)
      have x : Ext G ⟨G.K, G.γ, G.H.set g (.row e sz xs xs.length)⟩ := Ext.set (fun _ _ _ h => h) hg (.row _ _ _ _ _ _ (Nat.le_refl _) (by omega) fun _ => rfl) fun _ _ => rfl
      refine ⟨G', h1, h2, (⟨x, Nat.le_refl _, rfl, rfl, rfl, fun _ _ _ => rfl, fun g b c h _ => ⟨g, c, h⟩, fun _ _ _ _ _ h => h⟩ : Wf G w _ w).trans h3, fun v hv => ?_⟩
      cases hv with
      | row _ _ A c lt hn hr =>
        rcases (hr _ _ _ _ hg).2.2 hl.symm with ⟨b, hb, _⟩ | ⟨_, h0, rfl, rfl⟩
        · rw [hγ] at hb; cases hb
        · have : xs' = [] := List.eq_nil_of_length_eq_zero (by rw [h4.1]; omega)
          subst this
          subst h0
          exact .sl0 _ _
    | some p =>
      obtain ⟨b, c⟩ := p
      cases st.ent g b c _ hγ hg with
      | row _ _ _ _ vs k1 k2 k3 k4 k5 q1 q2 k6 =>
        obtain ⟨x1, st1, wf1⟩ := freeze_row st hg hγ k1 k2 k3
        obtain ⟨G', h1, h2, h3, h4⟩ := frzL_ok h _ rfl st1
        refine ⟨G', h1, h2, wf1.trans h3, fun v hv => ?_⟩
        cases hv with
        | row _ _ A c' lt hn hr =>
          rcases (hr _ _ _ _ hg).2.2 hl.symm with ⟨b', hb', rfl⟩ | ⟨hb', _⟩
          · rw [hγ] at hb'
            injection hb' with hb'
            injection hb' with e1 e2
            subst e1; subst e2
            have hcell : ∀ i j, i < n → j < sz → vs[i * sz + j]? = some ((vs[i * sz + j]?).getD undef) := fun i j hi hj => by
              have : i * sz + j < vs.size := by rw [k2]; exact idx_lt (by omega) hj
              simp [this]
            have key : ∀ (i : Nat) (x x' : AV), xs[i]? = some x → xs'[i]? = some x' → x'.cells.length = sz ∧ ∀ (j : Nat) (y : AV), x'.cells[j]? = some y → Rl G' ((vs[i * sz + j]?).getD undef) y := fun i x x' hx hx' => by
              refine rl_cells_map (us := fun j => (vs[i * sz + j]?).getD undef) (h4.2.2 i x x' hx hx').1 (fun v hv => (h4.2.2 i x x' hx hx').2 v hv) (k5 x (List.mem_of_getElem? hx)) fun j y hy => ?_
              have hi : i < n := by have := (List.getElem?_eq_some_iff.1 hx).1; omega
              have hj : j < sz := by rw [← k5 x (List.mem_of_getElem? hx)]; exact (List.getElem?_eq_some_iff.1 hy).1
              exact (k6 i j _ x y hx hy (hcell i j hi hj)).mono x1
            refine .sl b 0 n c sz xs' (fun i j => (vs[i * sz + j]?).getD undef) (by omega) (by rw [h4.1, hl]) (fun x' hx' => ?_) (fun i j hi hj => ?_) fun i j x' y hx' hy => ?_
            · obtain ⟨i, hi⟩ := List.getElem?_of_mem hx'
              have hlt : i < xs.length := by have := (List.getElem?_eq_some_iff.1 hi).1; rw [h4.1] at this; exact this
              exact (key i _ x' (List.getElem?_eq_getElem hlt) hi).1
            · apply h3.ext.K
              simp only [pinN]
              rw [if_pos ⟨trivial, by rw [Nat.zero_add]; exact idx_lt (by omega) hj⟩, Nat.zero_add]
              exact hcell i j hi hj
            · have hlt : i < xs.length := by have := (List.getElem?_eq_some_iff.1 hx').1; rw [h4.1] at this; exact this
              exact (key i _ x' (List.getElem?_eq_getElem hlt) hx').2 j y hy
          · rw [hγ] at hb'; cases hb'
theorem frzL_ok {w : World} : ∀ {H as bs H'}, FrzL H as bs H' → FrzOk w H H' fun G G' => bs.length = as.length ∧ (∀ (j : Nat) (a b : AV), as[j]? = some a → bs[j]? = some b → ∀ v, Rl G v a → Rl G' v b) ∧
    ∀ (j : Nat) (a b : AV), as[j]? = some a → bs[j]? = some b → ((∃ cs cs', a = .ag cs ∧ b = .ag cs' ∧ cs'.length = cs.length) ∨ (a.cells = [a] ∧ b.cells = [b])) ∧ ∀ v, Rl G v a → Rl G' v b
  | _, _, _, _, .nil H => fun G hG st => ⟨G, hG, st, Wf.refl _ _, rfl, fun j a b h => by simp at h, fun j a b h => by simp at h⟩
  | _, _, _, _, .cons h1 h2 => fun G hG st => by
    obtain ⟨G1, e1, e2, e3, e4⟩ := frzV_ok h1 G hG st
    obtain ⟨G2, f1, f2, f3, f4, f5, f6⟩ := frzL_ok h2 G1 e1 e2
    have hs := frz_shape h1
    refine ⟨G2, f1, f2, e3.trans f3, by simp [f4], fun j a b ha hb v hv => ?_, fun j a b ha hb => ?_⟩
    · cases j with
      | zero =>
        simp at ha hb
        subst ha; subst hb
        exact (e4 v hv).mono f3.ext
      | succ j => exact f5 j a b (by simpa using ha) (by simpa using hb) v (hv.mono e3.ext)
    · cases j with
      | zero =>
        simp at ha hb
        subst ha; subst hb
        exact ⟨hs, fun v hv => (e4 v hv).mono f3.ext⟩
      | succ j =>
        obtain ⟨k1, k2⟩ := f6 j a b (by simpa using ha) (by simpa using hb)
        exact ⟨k1, fun v hv => k2 v (hv.mono e3.ext)⟩
end

end Go.Am
