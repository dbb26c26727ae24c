/- Comparisons, loads, cuts, bounds: the machine does what the steps say. -/
import Derived.Test.YtomepdfmjlcehaaAmSimD
set_option linter.unusedVariables false
set_option linter.unusedSimpArgs false
namespace Go.Am
section
variable {P : Program} {G : Gho} {w : World}

def eqNe (neg : Bool) : BinOp := if neg then .neq else .eql

theorem run_eq_of {neg : Bool} {t : TypeId} {x y : Operand} {u v : Value} {c : Bool} (hg : (eqGuard (eqNe neg) t x y u v).run P w = .ok () w)
    (hi : ∀ k a k' b, ¬ (u = .int k a ∧ v = .int k' b)) (hs : ∀ a b, ¬ (u = .string a ∧ v = .string b)) (hf : ∀ k a k' b, ¬ (u = .float k a ∧ v = .float k' b))
    (hc : ∀ k a b k' c d, ¬ (u = .complex k a b ∧ v = .complex k' c d)) (he : (Op.equal t u v).run P w = .ok c w) :
    (do eqGuard (eqNe neg) t x y u v; binOp (eqNe neg) t u v : Sem Value).run P w = .ok (.bool (neg.xor c)) w := by
  have hb : (binOp (eqNe neg) t u v).run P w = .ok (.bool (neg.xor c)) w := by
    cases neg
    · simp only [eqNe, Bool.false_eq_true, if_false]
      unfold binOp
      split <;> first | (exfalso; first | exact hi _ _ _ _ ⟨rfl, rfl⟩ | exact hs _ _ ⟨rfl, rfl⟩ | exact hf _ _ _ _ ⟨rfl, rfl⟩ | exact hc _ _ _ _ _ _ ⟨rfl, rfl⟩) | simp_all
    · simp only [eqNe, if_true]
      unfold binOp
      split <;> first | (exfalso; first | exact hi _ _ _ _ ⟨rfl, rfl⟩ | exact hs _ _ ⟨rfl, rfl⟩ | exact hf _ _ _ _ ⟨rfl, rfl⟩ | exact hc _ _ _ _ _ _ ⟨rfl, rfl⟩) | simp_all
  simp only [Sem.run_bind, hg, Result.andThen_ok, hb]

theorem eqOf_inv {t : TypeId} {d : EqD} (h : eqOf P t = some d) : match d with
    | .bool => P.underlying t = some .bool
    | .int => False
    | .str => False
    | .ptr => ∃ e, P.underlying t = some (.pointer e)
    | .nul => ∃ e, P.underlying t = some (.slice e)
    | .fnc => ∃ p r v, P.underlying t = some (.func p r v)
    | .all fs => ∃ f, P.underlying t = some (.struct f) ∧ P.eqGuardType P.depth t = false ∧ leavesOf P 8 t = some fs := by
  unfold eqOf at h
  split at h
  · injection h with h; subst h; assumption
  · injection h with h; subst h; exact ⟨_, by assumption⟩
  · injection h with h; subst h; exact ⟨_, by assumption⟩
  · injection h with h; subst h; exact ⟨_, _, _, by assumption⟩
  · split at h
    · rename_i f hf hc
      cases hl : leavesOf P 8 t with
      | none => rw [hl] at h; cases h
      | some l => rw [hl] at h; injection h with h; subst h; exact ⟨_, hf, hc.1, rfl⟩
    · cases h
  · cases h

theorem leaves_lt {xs ys : List AV} : ∀ {l : List (Nat × Nat)} {b : Bool}, allEq xs ys l = some b → ∀ p ∈ l, p.1 < xs.length ∧ p.1 < ys.length
  | [], b, h, p, hp => by simp at hp
  | (o, k) :: l, b, h, p, hp => by
    simp only [allEq] at h
    split at h
    · rename_i b0 h0
      split at h
      · rename_i c0 hc0
        simp only [List.mem_cons] at hp
        rcases hp with rfl | hp
        · unfold leafEq at h0
          split at h0 <;> first | (cases h0; done) | (rename_i e1 e2; exact ⟨(List.getElem?_eq_some_iff.1 e1).1, (List.getElem?_eq_some_iff.1 e2).1⟩)
        · exact leaves_lt hc0 p hp
      · cases h
    · cases h

theorem eq_ptr (D : Nat) {t e : TypeId} (h : P.underlying t = some (.pointer e)) (p q : Option Addr) (hn : p = none ∨ q = none) : (Op.equalIn (D + 1) t (.pointer p) (.pointer q)).run P w = .ok (p.isNone && q.isNone) w := by
  cases p <;> cases q <;> simp at hn <;> simp only [Op.equalIn, Sem.run_bind, run_underlying h, Result.andThen_ok] <;> rfl
theorem eq_slc (D : Nat) {t e : TypeId} (h : P.underlying t = some (.slice e)) (p : Option Addr) (n c n' c' : Nat) : (Op.equalIn (D + 1) t (.slice p n c) (.slice none n' c')).run P w = .ok p.isNone w := by
  cases p <;> simp only [Op.equalIn, Sem.run_bind, run_underlying h, Result.andThen_ok] <;> rfl
theorem eq_fnc1 (D : Nat) {t : TypeId} {p r v} (h : P.underlying t = some (.func p r v)) (f a b) : (Op.equalIn (D + 1) t (.func f a b) .nilFunc).run P w = .ok false w := by
  simp only [Op.equalIn, Sem.run_bind, run_underlying h, Result.andThen_ok]; rfl
theorem eq_fnc2 (D : Nat) {t : TypeId} {p r v} (h : P.underlying t = some (.func p r v)) : (Op.equalIn (D + 1) t .nilFunc .nilFunc).run P w = .ok true w := by
  simp only [Op.equalIn, Sem.run_bind, run_underlying h, Result.andThen_ok]; rfl

theorem run_eqv {neg : Bool} {t : TypeId} {d : EqD} {x y : Operand} {u v : Value} {a b : AV} {c : Bool} (ht : eqOf P t = some d) (hu : Rl G u a) (hv : Rl G v b) (h : s_eq G.H d a b = some c) :
    (do eqGuard (eqNe neg) t x y u v; binOp (eqNe neg) t u v : Sem Value).run P w = .ok (.bool (neg.xor c)) w := by
  have hop : eqNe neg = .eql ∨ eqNe neg = .neq := by cases neg <;> simp [eqNe]
  have hi := eqOf_inv ht
  unfold s_eq at h
  split at h
  · cases rl_bo hu; cases rl_bo hv
    injection h with h; subst h
    refine run_eq_of ?_ (by simp) (by simp) (by simp) (by simp) (run_equal_bool w t _ _ hi)
    rcases hop with e | e <;> rw [e] <;> simp [eqGuard]
  · cases rl_sc hu; cases rl_sc hv
    injection h with h; subst h
    obtain ⟨e, hi⟩ := hi
    refine run_eq_of ?_ (by simp) (by simp) (by simp) (by simp) ?_
    · rcases hop with e | e <;> rw [e] <;> simp [eqGuard]
    · exact eq_ptr 9999 hi none none (.inl rfl)
  · cases rl_sc hv
    cases hu
    injection h with h; subst h
    obtain ⟨e, hi⟩ := hi
    refine run_eq_of ?_ (by simp) (by simp) (by simp) (by simp) ?_
    · rcases hop with e | e <;> rw [e] <;> simp [eqGuard]
    · exact eq_ptr 9999 hi _ none (.inr rfl)
  · cases rl_sc hu
    cases hv
    injection h with h; subst h
    obtain ⟨e, hi⟩ := hi
    refine run_eq_of ?_ (by simp) (by simp) (by simp) (by simp) ?_
    · rcases hop with e | e <;> rw [e] <;> simp [eqGuard]
    · exact eq_ptr 9999 hi none _ (.inl rfl)
  · cases rl_nl hu; cases rl_nl hv
    injection h with h; subst h
    obtain ⟨e, hi⟩ := hi
    refine run_eq_of ?_ (by simp) (by simp) (by simp) (by simp) ?_
    · rcases hop with e | e <;> rw [e] <;> simp [eqGuard]
    · exact eq_slc 9999 hi none _ _ _ _
  · cases rl_nl hv
    injection h with h; subst h
    obtain ⟨e, hi⟩ := hi
    cases hu
    refine run_eq_of ?_ (by simp) (by simp) (by simp) (by simp) ?_
    · rcases hop with e | e <;> rw [e] <;> simp [eqGuard]
    · exact eq_slc 9999 hi _ _ _ _ _
  · cases rl_sc hv
    injection h with h; subst h
    obtain ⟨p, r, v, hi⟩ := hi
    cases hu
    refine run_eq_of ?_ (by simp) (by simp) (by simp) (by simp) ?_
    · rcases hop with e | e <;> rw [e] <;> simp [eqGuard]
    · exact eq_fnc1 9999 hi _ _ _
  · cases rl_sc hv; cases rl_sc hu
    injection h with h; subst h
    obtain ⟨p, r, v, hi⟩ := hi
    refine run_eq_of ?_ (by simp) (by simp) (by simp) (by simp) ?_
    · rcases hop with e | e <;> rw [e] <;> simp [eqGuard]
    · exact eq_fnc2 9999 hi
  · rename_i fs xs ys
    obtain ⟨f, hi, hgd, hl⟩ := hi
    cases hu with
    | ag vs _ h1 h2 =>
      cases hv with
      | ag us _ h3 h4 =>
        have hlt := leaves_lt h
        refine run_eq_of (run_eqGuard_agg w (eqNe neg) t x y vs us hgd) (by simp) (by simp) (by simp) (by simp) ?_
        unfold Op.equal Op.maxDepth
        refine run_equal_leaves (G := G) xs ys 8 10000 t fs 0 vs us _ _ c w (by omega) hl (by simp [PartV, hi]) (by simp [PartV, hi]) (fun j a hj ha => ?_) (fun j a hj ha => ?_) (fun p hp => ?_) ?_
        · simp only [Nat.zero_add] at ha
          exact ⟨vs[j], Array.getElem?_eq_getElem hj, h2 j _ a (Array.getElem?_eq_getElem hj) ha⟩
        · simp only [Nat.zero_add] at ha
          exact ⟨us[j], Array.getElem?_eq_getElem hj, h4 j _ a (Array.getElem?_eq_getElem hj) ha⟩
        · have := hlt p hp
          omega
        · simpa using h
  · cases h

/-! ### Loads -/
theorem run_loadVar {t : TypeId} {g : Option Nat} {b p : Nat} {cs : List AV} {o : Nat} {a : AV} (ht : aggOf P t = some g)
    (hc : ∀ (j : Nat) (c : AV), cs[o + j]? = some c → ∃ u, w.cell? ⟨b, p + j, none⟩ = some u ∧ Rl G u c) (hv : takeV cs o g = some a) :
    ∃ u, (loadVar t ⟨b, p, none⟩).run P w = .ok u w ∧ Rl G u a := by
  unfold aggOf at ht
  split at ht
  · rename_i i hi
    have agg : ∀ d, P.underlying t = some d → (isAgg t).run P w = .ok true w → some (some i.size) = some g → ∃ u, (loadVar t ⟨b, p, none⟩).run P w = .ok u w ∧ Rl G u a := by
      intro d hd hA he
      injection he with he
      subst he
      simp only [takeV] at hv
      split at hv
      · rename_i hle
        injection hv with hv
        subst hv
        have hcell : ∀ j, j < i.size → ∃ u c, cs[o + j]? = some c ∧ w.cell? ⟨b, p + j, none⟩ = some u ∧ Rl G u c := fun j hj => by
          have hlt : o + j < cs.length := by omega
          obtain ⟨u, h1, h2⟩ := hc j _ (List.getElem?_eq_getElem hlt)
          exact ⟨u, _, List.getElem?_eq_getElem hlt, h1, h2⟩
        have hrun := run_loadCells (P := P) w ⟨b, p, none⟩ i.size (fun j => (w.cell? ⟨b, p + j, none⟩).getD undef) (fun j hj => by
          obtain ⟨u, c, _, h1, _⟩ := hcell j hj
          rw [add_cell, h1]; rfl)
        refine ⟨_, by simp only [loadVar, Sem.run_bind, hA, Result.andThen_ok, if_true, sizeOf, typeInfo, run_program, hi, Sem.run_pure, hrun]; rfl, ?_⟩
        refine .ag _ _ (by simp; omega) fun j v c hj hcj => ?_
        have hjl : j < i.size := by
          by_cases h : j < i.size
          · exact h
          · rw [List.getElem?_take] at hcj
            rw [if_neg h] at hcj
            cases hcj
        obtain ⟨u, c', h1, h2, h3⟩ := hcell j hjl
        have e1 : v = u := by
          simp [hjl] at hj
          rw [h2] at hj
          simpa using hj.symm
        have e2 : c = c' := by
          rw [List.getElem?_take, if_pos hjl, List.getElem?_drop, h1] at hcj
          injection hcj with hcj
          exact hcj.symm
        rw [e1, e2]
        exact h3
      · cases hv
    split at ht
    · rename_i fs hd
      exact agg _ hd (run_isAgg_struct hd) ht
    · rename_i n e hd
      exact agg _ hd (by simp [isAgg, run_underlying hd]) ht
    · rename_i d hn1 hn2 hd
      split at ht
      · injection ht with ht
        subst ht
        simp only [takeV] at hv
        obtain ⟨u, h1, h2⟩ := hc 0 a (by simpa using hv)
        have hA : (isAgg t).run P w = .ok false w := by
          simp only [isAgg, Sem.run_bind, run_underlying hd, Result.andThen_ok]
          cases d <;> first | rfl | (exfalso; first | exact hn1 _ rfl | exact hn2 _ _ rfl)
        refine ⟨u, ?_, h2⟩
        simp only [Nat.add_zero] at h1
        simp [loadVar, hA, run_load, h1]
      · cases ht
    · cases ht
  · cases ht
end
end Go.Am
