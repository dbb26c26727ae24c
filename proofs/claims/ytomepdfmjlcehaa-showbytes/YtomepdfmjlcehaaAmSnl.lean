/- What leads nowhere: contracts that hold at every heap. -/
import Derived.Test.YtomepdfmjlcehaaAmSnk
set_option linter.unusedVariables false
set_option linter.unusedSimpArgs false
namespace Go.Am

section
variable {P : Program} {Gl : Nat → AV}

/-- A call whose arguments and whose answer lead nowhere: what it comes to at the empty heap it comes to at every one. -/
theorem Con.all {f : FuncId} {args : List AV} {res : AV} {H' : List Ent} (h : Con P Gl f args [] res H') (hg : ∀ n, Bel 0 (Gl n)) (ha : ∀ a ∈ args, Bel 0 a) (hr : Bel 0 res) (H : List Ent) : Con P Gl f args H res H := by
  refine ⟨h.has, fun K γ w vs st hgl hl hv => ?_⟩
  have hcut : ∀ {v a}, Bel 0 a → Rl ⟨K, γ, H⟩ v a → Rl ⟨K, fun _ => none, []⟩ v a := fun hb h => by
    have := Rl.cut (H := []) (X := H) (K := K) (γ := γ) h hb
    have e : cutγ γ ([] : List Ent).length = fun _ => none := funext fun g => by simp [cutγ]
    rw [e] at this
    exact this
  have st0 : St ⟨K, fun _ => none, []⟩ w := by
    constructor
    · exact st.cell
    · intro g p h; cases h
    · intro g g' b c c' h; cases h
    · intro g b c e h; cases h
    · intro g b c h; cases h
    · intro g b c o u e h; cases h
  refine (h.run K (fun _ => none) w vs st0 (fun n => hcut (hg n) (hgl n)) hl fun j v c hj hc => hcut (ha c (List.mem_of_getElem? hc)) (hv j v c hj hc)).mono ?_
  rintro e w' ⟨v, K', γ', rfl, h1, h2, h3⟩
  have hcut' : Rl ⟨K', fun _ => none, []⟩ v res := by
    have := Rl.cut (H := []) (X := H') (K := K') (γ := γ') h3 hr
    have e : cutγ γ' ([] : List Ent).length = fun _ => none := funext fun g => by simp [cutγ]
    rw [e] at this
    exact this
  have hoth : ∀ b, b < w.heap.size → w'.heap[b]? = w.heap[b]? := fun b hb => h2.other b hb fun g c h => by cases h
  have x : Ext ⟨K, γ, H⟩ ⟨K', γ, H⟩ := ⟨h2.ext.K, Nat.le_refl _, fun g e he => he ▸ Turns.refl _ _ _⟩
  have x0 : Ext ⟨K', fun _ => none, []⟩ ⟨K', γ, H⟩ := ⟨fun _ _ _ h => h, Nat.zero_le _, fun g e he => by simp at he⟩
  refine ⟨v, K', γ, rfl, ⟨h1.cell, st.dom, st.inj, fun g b c e k1 k2 => (st.ent g b c e k1 k2).mono x (hoth b (st.lt g b c k1)), fun g b c k1 => Nat.lt_of_lt_of_le (st.lt g b c k1) h2.size, fun g b c o u e k1 k2 k3 k4 => ?_⟩, ?_, hcut'.mono x0⟩
  · exact st.own g b c o u e k1 k2 k3 (h2.old b o u (st.lt g b c k1) (fun g c h => by cases h) k4)
  · exact ⟨x, h2.size, h2.os, h2.tape, h2.output, fun b hb _ => hoth b hb, fun g b c h _ => ⟨g, c, h⟩, fun b o u hb hn hK => h2.old b o u hb (fun g c h => by cases h) hK⟩

end
end Go.Am
