/- Iterators, made slices, lengths, and the step as a whole: the machine does what the steps say. -/
import Derived.Test.YtomepdfmjlcehaaAmSimJ
set_option linter.unusedVariables false
set_option linter.unusedSimpArgs false
namespace Go.Am
section
variable {P : Program} {G : Gho} {w : World} {id : Nat}

theorem made_get (z : Array Value) (n k : Nat) (hk : k < n) (hz : 0 < z.size) : (madeCells z n)[k]? = z[k % z.size]? := by
  have := Nat.mod_lt k hz
  simp [madeCells, hk, this]

theorem out_mksl (st : St G w) (hid : G.H[id]? = some .res) {t e : TypeId} {i : TypeInfo} {z : List AV} (ht : P.underlying t = some (.slice e)) (hi : P.info? e = some i) (hz : zeroOf P e = some z) (hpos : 0 < i.size)
    {u v : Value} {k k' : IntKind} {n : Int} (hu : Rl G u (.it k n)) (hv : Rl G v (.it k' n)) (h0 : 0 ≤ n) (hb : n * i.bytes ≤ 140737488355328) (h63 : n ≤ 9223372036854775807) :
    Out P G w id (Instr.makeSlice t u v) (.row id n.toNat) G.H (some (.row e i.size (List.replicate n.toNat (zel z)) 0)) := by
  cases rl_it hu
  cases rl_it hv
  have hltid : id < G.H.length := (List.getElem?_eq_some_iff.1 hid).1
  obtain ⟨i', zv, hi', hzv, hs, hzl, hr⟩ := zeroOf_inv hz
  rw [hi] at hi'
  injection hi' with hi'
  subst hi'
  have hcells : (zel z).cells.length = i.size ∧ ∀ j : Nat, (zel z).cells[j]? = z[j]? := by
    unfold zel
    split
    · rename_i c
      have hc : c.cells = [c] := by
        have hv0 : 0 < zv.cells.size := by omega
        exact (hr G 0 _ c (Array.getElem?_eq_getElem hv0) rfl).2.2
      rw [hc]
      exact ⟨hzl, fun j => rfl⟩
    · exact ⟨hzl, fun j => rfl⟩
  have hrun := run_make (P := P) w t e i zv ht hi hzv k k' n n h0 (Int.le_refl _) (by rw [Int.mul_comm]; omega) h63
  refine Out.of hrun (new_entry (c := n.toNat) (e := .row e i.size (List.replicate n.toNat (zel z)) 0) st hid (by simp) fun G' x' => ?_) rfl ?_
  · refine .row _ _ _ _ _ (heap_alloc_new w _) (by simp [madeCells]) (by simp) (by omega) (fun x hx => ?_) (Nat.zero_le _) (fun o ho => by simp at ho) fun i2 j u x a hx ha hu => ?_
    · rw [List.mem_replicate] at hx
      rw [hx.2]
      exact hcells.1
    · have hx' := List.mem_of_getElem? hx
      rw [List.mem_replicate] at hx'
      have hi2 : i2 < n.toNat := by have := (List.getElem?_eq_some_iff.1 hx).1; simpa using this
      rw [hx'.2, hcells.2] at ha
      have hj : j < i.size := by rw [← hzl]; exact (List.getElem?_eq_some_iff.1 ha).1
      rw [made_get _ _ _ (idx_lt hi2 hj) (by omega), hs] at hu
      have hm : (i2 * i.size + j) % i.size = j := by rw [Nat.add_comm, Nat.add_mul_mod_self_right, Nat.mod_eq_of_lt hj]
      rw [hm] at hu
      exact (hr G' j u a hu ha).1
  · exact rl_new_row (e := e) (sz := i.size) (xs := List.replicate n.toNat (zel z)) (f := 0) (by simp [List.getElem?_set, hltid]) (by simp) (Nat.zero_le _) (by simp)

theorem out_rng (st : St G w) (hid : G.H[id]? = some .res) {t : TypeId} (ht : P.underlying t = some .string) {v : Value} {s : List UInt8} (hv : Rl G v (.st s)) : Out P G w id (Instr.range t v) (.ptr id 0) G.H (some (.iter s 0)) := by
  cases rl_st hv
  have hltid : id < G.H.length := (List.getElem?_eq_some_iff.1 hid).1
  refine Out.of (v := .pointer (some ⟨w.heap.size, 0, none⟩)) (w' := w.alloc (.stringIter ⟨s.toArray⟩ 0)) ?_ (new_entry (c := 0) (e := .iter s 0) st hid (by simp) fun G' x' => ?_) rfl ?_
  · simp [Instr.range, run_underlying ht]
  · exact .iter s 0 (heap_alloc_new w _) rfl
  · exact rl_ptr_new (e := .iter s 0) (by simp [List.getElem?_set, hltid]) (by simp) (by simp) 0

theorem out_nxt (st : St G w) {ty : TypeId} {v : Value} {g : Nat} {s : List UInt8} {p : Nat} (hv : Rl G v (.ptr g 0)) (hg : G.H[g]? = some (.iter s p)) :
    if p < s.length then Out P G w id (Instr.next v true ty) (.tp [.bo true, .it .i64 p, .it .i32 (Utf8.decode ⟨s.toArray⟩ p).1]) (G.H.set g (.iter s (p + (Utf8.decode ⟨s.toArray⟩ p).2))) none
    else Out P G w id (Instr.next v true ty) (.tp [.bo false]) G.H none := by
  cases hv with
  | ptr _ _ b lt hn _ hi =>
    have hγ := hi _ _ hg
    cases st.ent g b 0 _ hγ hg with
    | iter _ _ h1 h2 =>
      have hget : (getObj b).run P w = .ok (.stringIter ⟨s.toArray⟩ p) w := by simp [getObj, Sem.run, h1]
      have hblt : b < w.heap.size := st.lt _ _ _ hγ
      split
      · rename_i hp
        let w' : World := { w with heap := w.heap.setIfInBounds b (.stringIter ⟨s.toArray⟩ (p + (Utf8.decode ⟨s.toArray⟩ p).2)) }
        have hset : (setObj b (.stringIter ⟨s.toArray⟩ (p + (Utf8.decode ⟨s.toArray⟩ p).2))).run P w = .ok () w' := by simp [setObj, Sem.run, h1, w']
        have hw' : ∀ k, k ≠ b → w'.heap[k]? = w.heap[k]? := fun k hk => by
          show (w.heap.setIfInBounds b _)[k]? = _
          rw [Array.getElem?_setIfInBounds, if_neg (fun e => hk e.symm)]
        have := set_entry (w' := w') (e' := .iter s (p + (Utf8.decode ⟨s.toArray⟩ p).2)) st hg hγ (by simp) (by simp) (.iter _ _ _ _ rfl) hw' (by simp [w']) rfl rfl rfl
          (fun o' u hK => by have := st.own g b 0 o' u _ hγ hg (by simp) hK; simp [Ent.fz] at this) (by simp [Ent.fz]) (fun G' x' => .iter _ _ (by simp [w', hblt]) rfl)
        refine ⟨.tuple #[.bool true, goInt p, .int .i32 (Utf8.decode ⟨s.toArray⟩ p).1], w', _, ?_, this.2.1, this.2.2, rfl, ?_⟩
        · simp only [Instr.next, Sem.run_bind, hget, Result.andThen_ok]
          simp only [size_mk, hp, if_true]
          simp only [Sem.run_bind, hset, Result.andThen_ok, Sem.run_pure]
        · refine .tp _ _ rfl fun j v c hj hc => ?_
          match j with
          | 0 => simp at hj hc; subst hj; subst hc; exact .bo _
          | 1 => simp at hj hc; subst hj; subst hc; exact .it _ _
          | 2 => simp at hj hc; subst hj; subst hc; exact .it _ _
          | j + 3 => simp at hj
      · rename_i hp
        refine Out.quiet st (v := .tuple #[.bool false]) ?_ (.tp _ _ rfl fun j v c hj hc => ?_)
        · simp only [Instr.next, Sem.run_bind, hget, Result.andThen_ok]
          simp only [size_mk, hp, if_false, Sem.run_pure]
        · match j with
          | 0 => simp at hj hc; subst hj; subst hc; exact .bo _
          | j + 1 => simp at hj

theorem out_mxn (mx : Bool) : ∀ (l : List Value) (m : List AV) (k : IntKind) (a : Int) (r : AV), l.length = m.length → (∀ (j : Nat) (v : Value) (c : AV), l[j]? = some v → m[j]? = some c → Rl G v c) → mxs mx k a m = some r →
    ∃ z, (l.foldlM (if mx then Builtin.max2 else Builtin.min2) (.int k a)).run P w = .ok z w ∧ Rl G z r
  | [], m, k, a, r, hl, h, hr => by
    have : m = [] := List.eq_nil_of_length_eq_zero (by simpa using hl.symm)
    subst this
    simp [mxs] at hr
    subst hr
    exact ⟨_, by simp, .it _ _⟩
  | v :: l, m, k, a, r, hl, h, hr => by
    cases m with
    | nil => simp at hl
    | cons c m =>
      unfold mxs at hr
      split at hr
      · cases ‹c :: m = []›
      · rename_i k0 a0 k' b m' e
        injection e with e1 e2
        subst e1; subst e2
        cases rl_it (h 0 v _ rfl rfl)
        have ih := out_mxn mx l m _ _ r (by simpa using hl) (fun j v c hj hc => h (j + 1) v c (by simpa using hj) (by simpa using hc)) hr
        obtain ⟨z, h1, h2⟩ := ih
        refine ⟨z, ?_, h2⟩
        rw [List.foldlM_cons]
        cases mx
        · simp only [Bool.false_eq_true, if_false] at h1 ⊢
          simp only [Sem.run_bind, Builtin.min2, Sem.run_pure, Result.andThen_ok]
          exact h1
        · simp only [if_true] at h1 ⊢
          simp only [Sem.run_bind, Builtin.max2, Sem.run_pure, Result.andThen_ok]
          exact h1
      · cases hr
end
end Go.Am
