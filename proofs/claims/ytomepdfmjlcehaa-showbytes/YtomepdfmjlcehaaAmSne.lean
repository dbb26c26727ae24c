/- What a call leaves behind that nobody reaches may be forgotten. -/
import Derived.Test.YtomepdfmjlcehaaAmSnd
set_option linter.unusedVariables false
set_option linter.unusedSimpArgs false
namespace Go.Am

/-- A value leads to entries below a number alone. -/
inductive Bel (n : Nat) : AV → Prop
  | bo (b) : Bel n (.bo b)
  | it (k m) : Bel n (.it k m)
  | st (s) : Bel n (.st s)
  | sc (v) : Bel n (.sc v)
  | sl (xs) : (∀ x ∈ xs, ∀ y ∈ x.cells, Bel n y) → Bel n (.sl xs)
  | ag (cs) : (∀ c ∈ cs, Bel n c) → Bel n (.ag cs)
  | tp (cs) : (∀ c ∈ cs, Bel n c) → Bel n (.tp cs)
  | row (g m) : g < n → Bel n (.row g m)
  | nl : Bel n .nl
  | ptr (g o) : g < n → Bel n (.ptr g o)
  | el (g m i o) : g < n → Bel n (.el g m i o)
  | fp (xs i o) : (∀ x ∈ xs, ∀ y ∈ x.cells, Bel n y) → Bel n (.fp xs i o)
  | fn (f cs) : (∀ c ∈ cs, Bel n c) → Bel n (.fn f cs)
  | un : Bel n .un

inductive BelE (n : Nat) : Ent → Prop
  | box (t cs) : (∀ c ∈ cs, Bel n c) → BelE n (.box t cs)
  | row (e sz xs f) : (∀ x ∈ xs, ∀ y ∈ x.cells, Bel n y) → BelE n (.row e sz xs f)
  | iter (s p) : BelE n (.iter s p)
  | dead : BelE n .dead
  | res : BelE n .res

theorem Bel.mono {n m : Nat} (h : n ≤ m) {a : AV} (k : Bel n a) : Bel m a := by
  induction k with
  | bo b => exact .bo b
  | it k m => exact .it k m
  | st s => exact .st s
  | sc v => exact .sc v
  | sl xs _ ih => exact .sl xs ih
  | ag cs _ ih => exact .ag cs ih
  | tp cs _ ih => exact .tp cs ih
  | row g m hg => exact .row g m (by omega)
  | nl => exact .nl
  | ptr g o hg => exact .ptr g o (by omega)
  | el g m i o hg => exact .el g m i o (by omega)
  | fp xs i o _ ih => exact .fp xs i o ih
  | fn f cs _ ih => exact .fn f cs ih
  | un => exact .un

theorem mem_get {α : Type} {l : List α} {x : α} (h : x ∈ l) : ∃ i : Nat, l[i]? = some x := List.getElem?_of_mem h

/-- What stands for something leads to entries that there are. -/
theorem Rl.bel {G : Gho} {v : Value} {a : AV} (h : Rl G v a) : Bel G.H.length a := by
  induction h with
  | bo b => exact .bo b
  | it k m => exact .it k m
  | st s => exact .st s
  | sc v _ => exact .sc v
  | sl0 A c => exact .sl _ (by simp)
  | sl b o n c sz xs us h0 h1 h2 h3 _ ih =>
    exact .sl xs fun x hx y hy => by
      obtain ⟨i, hi⟩ := mem_get hx
      obtain ⟨j, hj⟩ := mem_get hy
      exact ih i j x y hi hj
  | ag vs cs hs _ ih =>
    exact .ag cs fun c hc => by
      obtain ⟨j, hj⟩ := mem_get hc
      have hlt : j < vs.size := by rw [hs]; exact (List.getElem?_eq_some_iff.1 hj).1
      exact ih j _ c (Array.getElem?_eq_getElem hlt) hj
  | tp vs cs hs _ ih =>
    exact .tp cs fun c hc => by
      obtain ⟨j, hj⟩ := mem_get hc
      have hlt : j < vs.size := by rw [hs]; exact (List.getElem?_eq_some_iff.1 hj).1
      exact ih j _ c (Array.getElem?_eq_getElem hlt) hj
  | row g n A c lt _ _ => exact .row g n lt
  | nl => exact .nl
  | ptr g o b lt _ _ _ => exact .ptr g o lt
  | el g n i o b p lt _ _ => exact .el g n i o lt
  | fp b q n sz xs k o us h1 h2 h3 _ ih =>
    exact .fp xs k o fun x hx y hy => by
      obtain ⟨i, hi⟩ := mem_get hx
      obtain ⟨j, hj⟩ := mem_get hy
      exact ih i j x y hi hj
  | fn f vs cs hs _ ih =>
    exact .fn f cs fun c hc => by
      obtain ⟨j, hj⟩ := mem_get hc
      have hlt : j < vs.size := by rw [hs]; exact (List.getElem?_eq_some_iff.1 hj).1
      exact ih j _ c (Array.getElem?_eq_getElem hlt) hj
  | un v => exact .un

def cutγ (γ : Nat → Option (Nat × Nat)) (n : Nat) : Nat → Option (Nat × Nat) := fun g => if g < n then γ g else none

/-- Entries from a number on are forgotten. -/
theorem Rl.cut {K γ H X} {v : Value} {a : AV} (h : Rl ⟨K, γ, H ++ X⟩ v a) (hb : Bel H.length a) : Rl ⟨K, cutγ γ H.length, H⟩ v a := by
  have hget : ∀ g, g < H.length → (H ++ X)[g]? = H[g]? := fun g hg => List.getElem?_append_left hg
  have hγ : ∀ g, g < H.length → cutγ γ H.length g = γ g := fun g hg => by simp [cutγ, hg]
  generalize hG : (⟨K, γ, H ++ X⟩ : Gho) = G at h
  induction h with
  | bo b => exact .bo b
  | it k n => exact .it k n
  | st s => exact .st s
  | sc v hv => exact .sc v hv
  | sl0 A c => exact .sl0 A c
  | sl b o n c sz xs us h0 h1 h2 h3 _ ih =>
    subst hG
    cases hb with
    | sl _ hb => exact .sl b o n c sz xs us h0 h1 h2 h3 fun i j x y hx hy => ih i j x y hx hy (hb x (List.mem_of_getElem? hx) y (List.mem_of_getElem? hy))
  | ag vs cs hs _ ih =>
    subst hG
    cases hb with
    | ag _ hb => exact .ag vs cs hs fun j v c hv hc => ih j v c hv hc (hb c (List.mem_of_getElem? hc))
  | tp vs cs hs _ ih =>
    subst hG
    cases hb with
    | tp _ hb => exact .tp vs cs hs fun j v c hv hc => ih j v c hv hc (hb c (List.mem_of_getElem? hc))
  | row g n A c lt hn hr =>
    subst hG
    cases hb with
    | row _ _ hb =>
      refine .row g n A c hb (by simp only; rw [← hget g hb]; exact hn) fun e sz xs f hh => ?_
      simp only at hh hr ⊢
      rw [hγ g hb]
      exact hr e sz xs f ((hget g hb).trans hh)
  | nl => exact .nl
  | ptr g o b lt hn h1 h2 =>
    subst hG
    cases hb with
    | ptr _ _ hb =>
      refine .ptr g o b hb (by simp only; rw [← hget g hb]; exact hn) (fun ty cs hh => ?_) (fun s p hh => ?_)
      · simp only at hh h1 ⊢
        rw [hγ g hb]
        exact h1 ty cs ((hget g hb).trans hh)
      · simp only at hh h2 ⊢
        rw [hγ g hb]
        exact h2 s p ((hget g hb).trans hh)
  | el g n i o b p lt hn hr =>
    subst hG
    cases hb with
    | el _ _ _ _ hb =>
      refine .el g n i o b p hb (by simp only; rw [← hget g hb]; exact hn) fun e sz xs f hh => ?_
      simp only at hh hr ⊢
      rw [hγ g hb]
      exact hr e sz xs f ((hget g hb).trans hh)
  | fp b q n sz xs k o us h1 h2 h3 _ ih =>
    subst hG
    cases hb with
    | fp _ _ _ hb => exact .fp b q n sz xs k o us h1 h2 h3 fun i j x y hx hy => ih i j x y hx hy (hb x (List.mem_of_getElem? hx) y (List.mem_of_getElem? hy))
  | fn f vs cs hs _ ih =>
    subst hG
    cases hb with
    | fn _ _ hb => exact .fn f vs cs hs fun j v c hv hc => ih j v c hv hc (hb c (List.mem_of_getElem? hc))
  | un v => exact .un v

/-- What may be forgotten behind a call: all that is new, that neither the answer nor what has turned leads to. -/
structure Drop (H H2 H' : List Ent) (res : AV) : Prop where
  app : ∃ X, H2 = H' ++ X
  len : H.length ≤ H'.length
  res : Bel H'.length res
  ent : ∀ (g : Nat) (e : Ent), H'[g]? = some e → H[g]? = some e ∨ BelE H'.length e

theorem ent_bel {G : Gho} {w : World} {b c : Nat} {e : Ent} (h : EntOk G w b c e) : BelE G.H.length e := by
  cases h with
  | box t cs vs h1 h2 h3 h4 =>
    exact .box t cs fun c hc => by
      obtain ⟨j, hj⟩ := mem_get hc
      have hlt : j < vs.size := by rw [h2]; exact (List.getElem?_eq_some_iff.1 hj).1
      exact (h4 j _ c (Array.getElem?_eq_getElem hlt) hj).bel
  | row e sz xs f vs h1 h2 h3 h4 h5 k1 k2 h6 =>
    exact .row e sz xs f fun x hx y hy => by
      obtain ⟨i, hi⟩ := mem_get hx
      obtain ⟨j, hj⟩ := mem_get hy
      have hi' : i < c := by have := (List.getElem?_eq_some_iff.1 hi).1; omega
      have hj' : j < sz := by rw [← h5 x hx]; exact (List.getElem?_eq_some_iff.1 hj).1
      have hlt : i * sz + j < vs.size := by rw [h2]; exact idx_lt hi' hj'
      exact (h6 i j _ x y hi hj (Array.getElem?_eq_getElem hlt)).bel
  | iter s p h1 h2 => exact .iter s p
  | dead => exact .dead

theorem BelE.mono {n m : Nat} (h : n ≤ m) {e : Ent} (k : BelE n e) : BelE m e := by
  cases k with
  | box t cs h1 => exact .box t cs fun c hc => (h1 c hc).mono h
  | row e sz xs f h1 => exact .row e sz xs f fun x hx y hy => (h1 x hx y hy).mono h
  | iter s p => exact .iter s p
  | dead => exact .dead
  | res => exact .res

theorem EntOk.cut {K γ H X} {w : World} {b c : Nat} {e : Ent} (h : EntOk ⟨K, γ, H ++ X⟩ w b c e) (hb : BelE H.length e) : EntOk ⟨K, cutγ γ H.length, H⟩ w b c e := by
  cases h with
  | box t cs vs h1 h2 h3 h4 =>
    cases hb with
    | box _ _ hb => exact .box t cs vs h1 h2 h3 fun j v a hv ha => (h4 j v a hv ha).cut (hb a (List.mem_of_getElem? ha))
  | row e sz xs f vs h1 h2 h3 h4 h5 k1 k2 h6 =>
    cases hb with
    | row _ _ _ _ hb => exact .row e sz xs f vs h1 h2 h3 h4 h5 k1 k2 fun i j v x a hx ha hv => (h6 i j v x a hx ha hv).cut (hb x (List.mem_of_getElem? hx) a (List.mem_of_getElem? ha))
  | iter s p h1 h2 => exact .iter s p h1 h2
  | dead => exact .dead

theorem drop_ok {G0 : Gho} {w0 : World} {K γ} {H2 H' : List Ent} {w : World} {res : AV} {v : Value} (st0 : St G0 w0) (st : St ⟨K, γ, H2⟩ w) (wf : Wf G0 w0 ⟨K, γ, H2⟩ w) (hv : Rl ⟨K, γ, H2⟩ v res) (d : Drop G0.H H2 H' res) :
    St ⟨K, cutγ γ H'.length, H'⟩ w ∧ Wf G0 w0 ⟨K, cutγ γ H'.length, H'⟩ w ∧ Rl ⟨K, cutγ γ H'.length, H'⟩ v res := by
  obtain ⟨X, rfl⟩ := d.app
  have hget : ∀ g, g < H'.length → (H' ++ X)[g]? = H'[g]? := fun g hg => List.getElem?_append_left hg
  have hγ : ∀ g p, cutγ γ H'.length g = some p → g < H'.length ∧ γ g = some p := fun g p h => by
    simp only [cutγ] at h
    split at h
    · exact ⟨‹_›, h⟩
    · cases h
  refine ⟨⟨st.cell, fun g p hp => ?_, fun g g' b c c' h1 h2 => st.inj g g' b c c' (hγ _ _ h1).2 (hγ _ _ h2).2, fun g b c e h1 h2 => ?_, fun g b c h => st.lt g b c (hγ _ _ h).2, fun g b c o u e h1 h2 h3 h4 => ?_⟩, ?_, hv.cut d.res⟩
  · obtain ⟨h1, h2⟩ := hγ g p hp
    obtain ⟨e, h3, h4⟩ := st.dom g p h2
    exact ⟨e, (hget g h1).symm.trans h3, h4⟩
  · obtain ⟨k1, k2⟩ := hγ g _ h1
    have h3 := st.ent g b c e k2 ((hget g k1).trans h2)
    refine h3.cut ?_
    rcases d.ent g e h2 with h4 | h4
    · -- as it was
      have hres : e ≠ .res := by
        obtain ⟨e', h5, h6⟩ := st.dom g _ k2
        simp only at h5
        rw [hget g k1] at h5
        simp only at h2
        rw [h2] at h5
        injection h5 with h5
        rw [h5]; exact h6
      by_cases hd : ∃ p, G0.γ g = some p
      · obtain ⟨⟨b0, c0⟩, hp⟩ := hd
        exact (ent_bel (st0.ent g b0 c0 e hp h4)).mono d.len
      · -- it had no block: it leads nowhere
        have hn : G0.γ g = none := by
          cases hh : G0.γ g with
          | none => rfl
          | some p => exact absurd ⟨p, hh⟩ hd
        have ht := wf.ext.turn g e h4
        simp only at ht
        rw [(hget g k1).trans h2] at ht
        cases ht with
        | box ty cs cs' hh => rw [hn] at hh; rw [k2] at hh; cases hh
        | iter s p s' p' hh => exact .iter s p
        | row e sz xs xs' f f' a1 a2 hh => have := hh rfl; rw [hn, k2] at this; cases this
        | dead => exact .dead
        | res => exact .res
    · exact h4
  · obtain ⟨k1, k2⟩ := hγ g _ h1
    exact st.own g b c o u e k2 ((hget g k1).trans h2) h3 h4
  · refine ⟨⟨wf.ext.K, d.len, fun g e he => ?_⟩, wf.size, wf.os, wf.tape, wf.output, wf.other, fun g b c h hb => wf.fresh g b c (hγ _ _ h).2 hb, wf.old⟩
    have hlt : g < H'.length := Nat.lt_of_lt_of_le (List.getElem?_eq_some_iff.1 he).1 d.len
    have ht := wf.ext.turn g e he
    simp only at ht ⊢
    rw [hget g hlt] at ht
    have hc : cutγ γ H'.length g = γ g := by simp [cutγ, hlt]
    cases hh : H'[g]? with
    | none => rw [hh] at ht; cases ht
    | some e' =>
      rw [hh] at ht
      cases ht with
      | box t cs cs' k => exact .box _ _ _ (hc.trans k)
      | iter s p s' p' k => exact .iter _ _ _ _ (hc.trans k)
      | row e sz xs xs' f f' a1 a2 k => exact .row _ _ _ _ _ _ a1 a2 fun h => hc.trans (k h)
      | dead _ k => exact .dead _ k
      | res => exact .res _

end Go.Am
