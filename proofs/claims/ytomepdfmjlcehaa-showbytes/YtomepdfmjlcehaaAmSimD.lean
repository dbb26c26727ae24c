/- Comparing, loading, cutting, indexing: the machine does what the steps say. -/
import Derived.Test.YtomepdfmjlcehaaAmSimC
import Derived.Laws.StructEq
set_option linter.unusedVariables false
set_option linter.unusedSimpArgs false
namespace Go.Am

theorem fieldsOf_eq {P : Program} {t : TypeId} {fs : Array Field} (h : P.underlying t = some (.struct fs)) : P.fieldsOf t = fs := by simp [Program.fieldsOf, h]

section
variable {P : Program} {G : Gho} {w : World}

theorem run_part_one {t : TypeId} {cs : Array Value} {off : Nat} {v : Value} (hn : ∀ fs, P.underlying t ≠ some (.struct fs)) (ha : ∀ n e, P.underlying t ≠ some (.array n e)) {d : TypeDesc} (hd : P.underlying t = some d)
    (hv : cs[off]? = some v) : (part t cs off).run P w = .ok v w := by
  have h : (isAgg t).run P w = .ok false w := by
    simp only [isAgg, Sem.run_bind, run_underlying hd, Result.andThen_ok]
    cases d <;> first | rfl | (rename_i fs; exact absurd hd (hn fs)) | (rename_i n e; exact absurd hd (ha n e))
  simp [part, h, hv]

theorem run_isAgg_struct {t : TypeId} {fs : Array Field} (h : P.underlying t = some (.struct fs)) : (isAgg t).run P w = .ok true w := by
  simp [isAgg, run_underlying h]

theorem run_part_agg {t : TypeId} {fs : Array Field} (h : P.underlying t = some (.struct fs)) {i : TypeInfo} (hi : P.info? t = some i) (cs : Array Value) (off : Nat) :
    (part t cs off).run P w = .ok (.agg (cs.extract off (off + i.size))) w := by
  simp [part, run_isAgg_struct h, sizeOf, typeInfo, hi]
end

/-- Two lists of leaves are compared one behind the other. -/
theorem allEq_append (xs ys : List AV) : ∀ (l m : List (Nat × Nat)) (b : Bool), allEq xs ys (l ++ m) = some b →
    ∃ c d, allEq xs ys l = some c ∧ allEq xs ys m = some d ∧ b = (c && d)
  | [], m, b, h => ⟨true, b, rfl, h, by simp⟩
  | (o, k) :: l, m, b, h => by
    simp only [List.cons_append, allEq] at h ⊢
    split at h
    · rename_i b0 h0
      split at h
      · rename_i c0 hc0
        injection h with h
        subst h
        obtain ⟨c, d, h1, h2, h3⟩ := allEq_append xs ys l m c0 hc0
        refine ⟨b0 && c, d, ?_, h2, by rw [h3, Bool.and_assoc]⟩
        rw [h1]
      · cases h
    · cases h

theorem struct_info {P : Program} {t : TypeId} {d : TypeDesc} (h : P.underlying t = some d) : ∃ i, P.info? t = some i := by
  simp only [Program.underlying] at h
  cases hi : P.info? t with
  | none => rw [hi] at h; cases h
  | some i => exact ⟨i, rfl⟩

/-- The value of a type that lies in cells from a place on. -/
def PartV (P : Program) (t : TypeId) (vs : Array Value) (V : Value) : Prop :=
  match P.underlying t with
  | some (.struct _) => V = .agg vs
  | _ => vs[0]? = some V

theorem leafEq0 {x y : Option AV} {b} (h : leafEq 0 x y = some b) : ∃ p q, x = some (.bo p) ∧ y = some (.bo q) ∧ b = (p == q) := by
  unfold leafEq at h
  split at h
  · injection h with h; exact ⟨_, _, rfl, rfl, h.symm⟩
  · exact absurd ‹0 = 1› (by decide)
  · exact absurd ‹0 = 2› (by decide)
  · cases h
theorem leafEq1 {x y : Option AV} {b} (h : leafEq 1 x y = some b) : ∃ k p q, x = some (.it k p) ∧ y = some (.it k q) ∧ b = (p == q) := by
  unfold leafEq at h
  split at h
  · exact absurd ‹1 = 0› (by decide)
  · split at h
    · rename_i hk; subst hk; injection h with h; exact ⟨_, _, _, rfl, rfl, h.symm⟩
    · cases h
  · exact absurd ‹1 = 2› (by decide)
  · cases h
theorem leafEq2 {x y : Option AV} {b} (h : leafEq 2 x y = some b) : ∃ p q, x = some (.st p) ∧ y = some (.st q) ∧ b = (p == q) := by
  unfold leafEq at h
  split at h
  · exact absurd ‹2 = 0› (by decide)
  · exact absurd ‹2 = 1› (by decide)
  · injection h with h; exact ⟨_, _, rfl, rfl, h.symm⟩
  · cases h

theorem allEq_one {XS YS : List AV} {o k : Nat} {b : Bool} (h : allEq XS YS [(o, k)] = some b) : leafEq k XS[o]? YS[o]? = some b := by
  simp only [allEq] at h
  split at h
  · rename_i b0 h0
    injection h with h
    rw [h0, ← h, Bool.and_true]
  · cases h

theorem run_equal_leaves {P : Program} {G : Gho} (XS YS : List AV) : ∀ (d D : Nat) (t : TypeId) (l : List (Nat × Nat)) (base : Nat) (vs us : Array Value) (V U : Value) (b : Bool) (w : World),
    d ≤ D → leavesOf P d t = some l → PartV P t vs V → PartV P t us U →
    (∀ (j : Nat) (a : AV), j < vs.size → XS[base + j]? = some a → ∃ v, vs[j]? = some v ∧ Rl G v a) →
    (∀ (j : Nat) (a : AV), j < us.size → YS[base + j]? = some a → ∃ v, us[j]? = some v ∧ Rl G v a) →
    (∀ p ∈ l, p.1 < vs.size ∧ p.1 < us.size) →
    allEq XS YS (l.map fun p => (base + p.1, p.2)) = some b → (Op.equalIn D t V U).run P w = .ok b w := by
  intro d
  induction d with
  | zero => intro D t l base vs us V U b w _ h; simp [leavesOf] at h
  | succ d ih =>
    intro D t l base vs us V U b w hD h hV hU hx hy hl hb
    obtain ⟨D, rfl⟩ : ∃ D', D = D' + 1 := ⟨D - 1, by omega⟩
    simp only [leavesOf] at h
    split at h
    · rename_i ht
      injection h with h; subst h
      simp only [PartV, ht] at hV hU
      obtain ⟨h1, h2⟩ := hl (0, 0) (by simp)
      obtain ⟨p, q, e1, e2, rfl⟩ := leafEq0 (allEq_one hb)
      obtain ⟨v, hv, rv⟩ := hx 0 _ h1 e1
      obtain ⟨u, hu, ru⟩ := hy 0 _ h2 e2
      rw [hV] at hv; rw [hU] at hu
      injection hv with hv; injection hu with hu
      subst hv; subst hu
      rw [rl_bo rv, rl_bo ru]
      exact run_equalIn_bool' w D t p q ht
    · rename_i k ht
      injection h with h; subst h
      simp only [PartV, ht] at hV hU
      obtain ⟨h1, h2⟩ := hl (0, 1) (by simp)
      obtain ⟨k', p, q, e1, e2, rfl⟩ := leafEq1 (allEq_one hb)
      obtain ⟨v, hv, rv⟩ := hx 0 _ h1 e1
      obtain ⟨u, hu, ru⟩ := hy 0 _ h2 e2
      rw [hV] at hv; rw [hU] at hu
      injection hv with hv; injection hu with hu
      subst hv; subst hu
      rw [rl_it rv, rl_it ru]
      exact run_equalIn_int w D t k' k p q ht
    · rename_i ht
      injection h with h; subst h
      simp only [PartV, ht] at hV hU
      obtain ⟨h1, h2⟩ := hl (0, 2) (by simp)
      obtain ⟨p, q, e1, e2, rfl⟩ := leafEq2 (allEq_one hb)
      obtain ⟨v, hv, rv⟩ := hx 0 _ h1 e1
      obtain ⟨u, hu, ru⟩ := hy 0 _ h2 e2
      rw [hV] at hv; rw [hU] at hu
      injection hv with hv; injection hu with hu
      subst hv; subst hu
      rw [rl_st rv, rl_st ru, run_equalIn_string w D t _ _ ht, toList_mk, toList_mk]
    · rename_i fs ht
      split at h
      · rename_i hst
        cases hm : mapM' (fLeaves P (leavesOf P d)) fs.toList with
        | none => rw [hm] at h; cases h
        | some ls =>
          rw [hm] at h
          injection h with h
          subst h
          simp only [PartV, ht] at hV hU
          subst hV; subst hU
          have hfo := fieldsOf_eq ht
          rw [run_equalIn_struct w D t vs us (by rw [hfo]; exact ht) hst, hfo]
          obtain ⟨hlen, hpt⟩ := mapM'_some hm
          clear hm hfo ht
          generalize hfl : fs.toList = fl at hlen hpt
          clear hfl
          induction fl generalizing ls b with
          | nil =>
            have : ls = [] := List.eq_nil_of_length_eq_zero (by simpa using hlen)
            subst this
            simp [allEq] at hb
            subst hb
            simp [Op.eqFields]
          | cons f fl ihf =>
            cases ls with
            | nil => simp at hlen
            | cons l1 ls =>
              have hf := hpt 0 f l1 rfl rfl
              unfold fLeaves at hf
              have hne : f.name ≠ "_" := by intro e; rw [if_pos e] at hf; cases hf
              rw [if_neg hne] at hf
              simp only [List.flatten_cons, List.map_append] at hb
              obtain ⟨c1, c2, hc1, hc2, rfl⟩ := allEq_append _ _ _ _ _ hb
              have hrest := fun (b' : Bool) h' => ihf b' ls (fun p hp => hl p (by simp only [List.flatten_cons, List.mem_append]; exact .inr hp)) h' (by simpa using hlen) fun j a b ha hb => hpt (j + 1) a b ha hb
              split at hf
              · rename_i i l0 hi hl0
                split at hf
                · rename_i hall
                  injection hf with hf
                  subst hf
                  have hlt : ∀ p ∈ l0, p.1 < i.size := fun p hp => by simpa using List.all_eq_true.1 hall p hp
                  have hin : ∀ p ∈ l0, f.offset + p.1 < vs.size ∧ f.offset + p.1 < us.size := fun p hp =>
                    hl (f.offset + p.1, p.2) (by simp only [List.flatten_cons, List.mem_append, List.mem_map]; exact .inl ⟨p, hp, rfl⟩)
                  have hc1' : allEq XS YS (l0.map fun p => (base + f.offset + p.1, p.2)) = some c1 := by
                    rw [← hc1, List.map_map]
                    congr 1
                    apply List.map_congr_left
                    intro p _
                    simp [Nat.add_assoc]
                  -- the parts
                  have key : ∃ A B, (part f.type vs f.offset).run P w = .ok A w ∧ (part f.type us f.offset).run P w = .ok B w ∧ (Op.equalIn D f.type A B).run P w = .ok c1 w := by
                    by_cases hs : ∃ fs', P.underlying f.type = some (.struct fs')
                    · obtain ⟨fs', hs⟩ := hs
                      refine ⟨_, _, run_part_agg hs hi vs f.offset, run_part_agg hs hi us f.offset, ?_⟩
                      refine ih D f.type l0 (base + f.offset) (vs.extract f.offset (f.offset + i.size)) (us.extract f.offset (f.offset + i.size)) _ _ c1 w (by omega) hl0 (by simp [PartV, hs]) (by simp [PartV, hs]) ?_ ?_ ?_ hc1'
                      · intro j a hj ha
                        simp only [Array.size_extract] at hj
                        obtain ⟨v, hv, rv⟩ := hx (f.offset + j) a (by omega) (by rw [← ha]; congr 1; omega)
                        exact ⟨v, by rw [Array.getElem?_extract]; rw [if_pos (by omega)]; exact hv, rv⟩
                      · intro j a hj ha
                        simp only [Array.size_extract] at hj
                        obtain ⟨v, hv, rv⟩ := hy (f.offset + j) a (by omega) (by rw [← ha]; congr 1; omega)
                        exact ⟨v, by rw [Array.getElem?_extract]; rw [if_pos (by omega)]; exact hv, rv⟩
                      · intro p hp
                        have := hlt p hp
                        have := hin p hp
                        simp only [Array.size_extract]
                        omega
                    · -- one leaf
                      have hone : ∃ k, l0 = [(0, k)] := by
                        cases d with
                        | zero => simp [leavesOf] at hl0
                        | succ d =>
                          simp only [leavesOf] at hl0
                          split at hl0
                          · injection hl0 with hl0; exact ⟨_, hl0.symm⟩
                          · injection hl0 with hl0; exact ⟨_, hl0.symm⟩
                          · injection hl0 with hl0; exact ⟨_, hl0.symm⟩
                          · rename_i fs' hs'; exact absurd ⟨fs', hs'⟩ hs
                          · cases hl0
                      obtain ⟨k, rfl⟩ := hone
                      have hu : ∃ dd, P.underlying f.type = some dd ∧ (∀ n e, dd ≠ .array n e) := by
                        cases d with
                        | zero => simp [leavesOf] at hl0
                        | succ d =>
                          simp only [leavesOf] at hl0
                          split at hl0
                          · rename_i e; exact ⟨_, e, by simp⟩
                          · rename_i e; exact ⟨_, e, by simp⟩
                          · rename_i e; exact ⟨_, e, by simp⟩
                          · rename_i e; exact ⟨_, e, by simp⟩
                          · cases hl0
                      obtain ⟨dd, hdd, harr⟩ := hu
                      obtain ⟨hi1, hi2⟩ := hin (0, k) (by simp)
                      simp only [Nat.add_zero] at hi1 hi2
                      have hv1 : vs[f.offset]? = some vs[f.offset] := Array.getElem?_eq_getElem hi1
                      have hv2 : us[f.offset]? = some us[f.offset] := Array.getElem?_eq_getElem hi2
                      refine ⟨_, _, run_part_one (fun fs' h' => hs ⟨fs', h'⟩) (fun n e h' => harr n e (by rw [hdd] at h'; injection h')) hdd hv1,
                        run_part_one (fun fs' h' => hs ⟨fs', h'⟩) (fun n e h' => harr n e (by rw [hdd] at h'; injection h')) hdd hv2, ?_⟩
                      have hpv : ∀ x : Value, PartV P f.type #[x] x := fun x => by
                        unfold PartV
                        split
                        · rename_i fs' h'; exact absurd ⟨fs', h'⟩ hs
                        · rfl
                      refine ih D f.type [(0, k)] (base + f.offset) #[vs[f.offset]] #[us[f.offset]] _ _ c1 w (by omega) hl0 (hpv _) (hpv _) ?_ ?_ (by simp) hc1'
                      · intro j a hj ha
                        have : j = 0 := by simpa using hj
                        subst this
                        obtain ⟨v, hv, rv⟩ := hx f.offset a hi1 (by simpa using ha)
                        rw [hv1] at hv
                        exact ⟨v, by simpa using hv, rv⟩
                      · intro j a hj ha
                        have : j = 0 := by simpa using hj
                        subst this
                        obtain ⟨v, hv, rv⟩ := hy f.offset a hi2 (by simpa using ha)
                        rw [hv2] at hv
                        exact ⟨v, by simpa using hv, rv⟩
                  obtain ⟨A, B, k1, k2, k3⟩ := key
                  simp only [Op.eqFields, if_pos hne, Sem.run_bind, k1, k2, k3, Result.andThen_ok]
                  cases c1
                  · simp
                  · simpa using hrest c2 hc2
                · cases hf
              · cases hf
      · cases h
    · cases h
end Go.Am
