/- From a contract to a call out of the open: the caller's memory is told as it stands, and stays. -/
import Derived.Test.YtomepdfmjlcehaaAmW
import Derived.ChangeSlices
import Derived.Below
set_option linter.unusedVariables false
namespace Go.Am
open Go.RowKit (Below)

/-- All that a world's memory holds. -/
def snap (w : World) : Gho := ⟨fun b o => w.cell? ⟨b, o, none⟩, fun _ => none, []⟩

theorem st_snap (w : World) : St (snap w) w := by
  constructor
  · intro b o u h; exact h
  · intro g p h; cases h
  · intro g g' b c c' h; cases h
  · intro g b c e h; cases h
  · intro g b c h; cases h
  · intro g b c o u e h; cases h

theorem Con.calls {P : Program} {Gl : Nat → AV} {f : FuncId} {args : List AV} {H' : List Ent} {b : Bool} (h : Con P Gl f args [] (.bo b) H') {w : World} {vs : Array Value} (hg : GlOk (snap w) Gl) (hl : vs.size = args.length)
    (hv : ∀ (j : Nat) (v : Value) (c : AV), vs[j]? = some v → args[j]? = some c → Rl (snap w) v c) :
    Calls P f vs w fun e w' => e = .returned (.bool b) ∧ Below w.heap.size w w' := by
  refine (h.run _ _ w vs (st_snap w) hg hl hv).mono ?_
  rintro e w' ⟨v, K', γ', rfl, h1, h2, h3⟩
  cases h3
  exact ⟨rfl, h2.os, h2.tape, h2.output, h2.size, fun k hk => h2.other k hk fun g c hg => by cases hg⟩

inductive Rls (G : Gho) : List Value → List AV → Prop
  | nil : Rls G [] []
  | cons {v a vs as} : Rl G v a → Rls G vs as → Rls G (v :: vs) (a :: as)

theorem rl_args {G : Gho} : ∀ {vs : List Value} {args : List AV}, Rls G vs args → vs.toArray.size = args.length ∧ ∀ (j : Nat) (v : Value) (c : AV), vs.toArray[j]? = some v → args[j]? = some c → Rl G v c
  | [], [], _ => ⟨rfl, fun j v c h => by simp at h⟩
  | v :: vs, a :: args, .cons h1 h2 => by
      obtain ⟨k1, k2⟩ := rl_args h2
      refine ⟨by simpa using k1, fun j u c hj hc => ?_⟩
      cases j with
      | zero => simp at hj hc; subst hj; subst hc; exact h1
      | succ j => exact k2 j u c (by simpa using hj) (by simpa using hc)

/-- A slice of bytes. -/
theorem rl_bytes {w : World} {a : Option Addr} {len cap : Nat} {zs : List Int}
    (h : (a = none ∧ len = 0 ∧ cap = 0) ∨ ∃ x, a = some x ∧ len ≤ cap ∧ len ≤ zs.length ∧ (∀ i, i < zs.length → w.cell? (x.add i) = some (.int .u8 (zs.getD i 0))) ∧ ∀ n ∈ zs, (Lit.int .u8 n).wf = true) :
    ∃ bs : List UInt8, Rl (snap w) (.slice a len cap) (.sl (bs.map b8)) ∧ bs.length = len := by
  by_cases h0 : len = 0
  · subst h0
    exact ⟨[], .sl0 _ _, rfl⟩
  rcases h with ⟨_, h1, _⟩ | ⟨x, rfl, h1, h2, h3, h4⟩
  · exact absurd h1 h0
  obtain ⟨b, o, sp⟩ := x
  have hz : 0 < zs.length := by omega
  have hsp : sp = none := by
    have := h3 0 hz
    simp only [Addr.add, if_true] at this
    cases sp with
    | none => rfl
    | some t =>
      unfold World.cell? at this
      split at this
      · simp at this
      · cases this
  subst hsp
  have hc : ∀ i, i < zs.length → (snap w).K b (o + i) = some (.int .u8 (zs.getD i 0)) := by
    intro i hi
    have := h3 i hi
    unfold Addr.add at this
    split at this
    · rename_i e; subst e; exact this
    · exact this
  refine ⟨(zs.take len).map fun n => UInt8.ofNat n.toNat, ?_, by simp; omega⟩
  have hb : ∀ i, i < zs.length → 0 ≤ zs.getD i 0 ∧ zs.getD i 0 < 256 := by
    intro i hi
    have hm : zs.getD i 0 ∈ zs := by
      rw [List.getD_eq_getElem?_getD, List.getElem?_eq_getElem hi]; exact List.getElem_mem hi
    have := h4 _ hm
    simp only [Lit.wf, IntKind.min, IntKind.max, IntKind.signed, IntKind.bits, Bool.and_eq_true, decide_eq_true_eq] at this
    simp at this
    simp only [List.getD_eq_getElem?_getD] at this ⊢
    omega
  refine .sl b o len cap 1 _ (fun i _ => .int .u8 (zs.getD i 0)) h1 (by simp; omega) ?_ ?_ ?_
  · intro y hy
    simp only [List.mem_map] at hy
    obtain ⟨c, _, rfl⟩ := hy
    rfl
  · intro i j hi hj
    obtain rfl : j = 0 := by omega
    simp only [Nat.mul_one, Nat.add_zero]
    exact hc i (by omega)
  · intro i j y c hy hc'
    simp only [List.getElem?_map, Option.map_map] at hy
    cases hz' : (zs.take len)[i]? with
    | none => rw [hz'] at hy; cases hy
    | some n =>
      rw [hz'] at hy
      simp only [Option.map_some, Option.some.injEq] at hy
      subst hy
      cases j with
      | succ j => simp [b8, cells_it] at hc'
      | zero =>
        have hi : i < zs.length := by
          have := (List.getElem?_eq_some_iff.1 hz').1
          simp at this; omega
        have hn : zs.getD i 0 = n := by
          rw [List.getElem?_take] at hz'
          split at hz'
          · rw [List.getD_eq_getElem?_getD, hz']; rfl
          · cases hz'
        have := hb i hi
        simp only [Function.comp, b8, cells_it, List.getElem?_cons_zero, Option.some.injEq] at hc'
        subst hc'
        rw [hn] at this ⊢
        have e : (((UInt8.ofNat n.toNat).toNat : Nat) : Int) = n := by
          rw [show (UInt8.ofNat n.toNat).toNat = n.toNat % 256 from rfl]; omega
        rw [e]
        exact .it _ _

theorem rl_str {G : Gho} (s : ByteArray) : Rl G (.string s) (.st s.data.toList) := by
  have := Rl.st (G := G) s.data.toList
  simpa using this
end Go.Am
