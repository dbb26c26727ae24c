/- Stores and appends: the machine does what the steps say. -/
import Derived.Test.YtomepdfmjlcehaaAmSimE
import Derived.Laws.CopyRow
import Derived.Laws.AppendOwn
import Derived.Laws.OwnMore
import Derived.Lib.AppendStr
set_option linter.unusedVariables false
set_option linter.unusedSimpArgs false
namespace Go.Am

theorem splice_get {α : Type} (l m : List α) (o j : Nat) (h : o + m.length ≤ l.length) :
    (l.take o ++ m ++ l.drop (o + m.length))[j]? = if o ≤ j ∧ j < o + m.length then m[j - o]? else l[j]? := by
  have h1 : (l.take o).length = o := by rw [List.length_take]; omega
  by_cases hj : j < o
  · rw [if_neg (by omega), List.append_assoc, List.getElem?_append_left (by omega), List.getElem?_take, if_pos hj]
  · by_cases hk : j < o + m.length
    · rw [if_pos (by omega), List.getElem?_append_left (by simp only [List.length_append]; omega), List.getElem?_append_right (by omega), h1]
    · rw [if_neg (by omega), List.getElem?_append_right (by simp only [List.length_append]; omega), List.getElem?_drop]
      congr 1
      simp only [List.length_append]
      omega

theorem splice_length {α : Type} (l m : List α) (o : Nat) (h : o + m.length ≤ l.length) : (l.take o ++ m ++ l.drop (o + m.length)).length = l.length := by
  simp only [List.length_append, List.length_take, List.length_drop]
  omega

theorem one_cell' {v : Value} (h : one v) : v.oneCell' = true := by cases v <;> first | rfl | exact h.elim

section
variable {P : Program} {G : Gho} {w : World}

theorem run_storeAt (st : St G w) {t : TypeId} {i : TypeInfo} (hi : P.info? t = some i) {u v : Value} {a x : AV} {H' : Nat × Ent} (ha : Rl G u a) (hx : Rl G v x) (h : s_store G.H i.size a x = some H') :
    ∃ w' G', (Instr.storeAt t u v).run P w = .ok () w' ∧ St G' w' ∧ Wf G w G' w' ∧ G'.H = appU G.H (some H') := by
  unfold s_store at h
  split at h
  · rename_i hc
    obtain ⟨hsz, hone⟩ := hc
    obtain ⟨hs, hcells⟩ := rl_cells hx hone
    have h1 : ∀ z ∈ v.cells.toList, z.oneCell' = true := fun z hz => by
      obtain ⟨j, hj⟩ := List.getElem?_of_mem hz
      have hjl : j < x.cells.length := by
        have := (List.getElem?_eq_some_iff.1 hj).1
        simp at this
        omega
      exact one_cell' (hcells j z _ (by simpa using hj) (List.getElem?_eq_getElem hjl)).2
    have hrun : ∀ b p, (Instr.storeAt t (.pointer (some ⟨b, p, none⟩)) v).run P w = (storeCells ⟨b, p, none⟩ v.cells.toList).run P w := fun b p => by
      simp [Instr.storeAt, Instr.sureAddr, storeVar, sizeOf, typeInfo, hi, hs, hsz]
    have hvl : v.cells.toList.length = x.cells.length := by simpa using hs
    split at h
    · rename_i g o
      split at h
      · rename_i ty cs hg
        split at h
        · rename_i hle
          injection h with h
          subst h
          cases ha with
          | ptr _ _ b lt hn hb _ =>
            have hγ := hb ty cs hg
            cases st.ent g b 0 _ hγ hg with
            | box _ _ vs h2 h3 h4 h5 =>
              have hfit : o + 0 + v.cells.toList.length ≤ vs.size := by omega
              have hr := run_storeCells_at (P := P) b o ty v.cells.toList 0 vs w h2 hfit h1
              simp only [Nat.add_zero] at hr
              have := set_entry (w' := w.setRow b (vs.toList.take o ++ v.cells.toList ++ vs.toList.drop (o + v.cells.toList.length)).toArray) (e' := .box ty (splice cs o x.cells)) st hg hγ (by simp) (by simp)
                (.box _ _ _ rfl) (fun k hk => setRow_other w b k _ hk) (by simp [World.setRow]) rfl rfl rfl (fun o' u hK => by have := st.own g b 0 o' u _ hγ hg (by simp) hK; simp [Ent.fz] at this) (by simp [Ent.fz])
                (fun G' x' => .box _ _ _ (setRow_heap w b vs _ ty _ h2) ?_ rfl fun j z c hj hcj => ?_)
              · exact ⟨_, _, (hrun b o).trans hr, this.2.1, this.2.2, rfl⟩
              · simp only [List.size_toArray]
                rw [splice_length _ _ _ (by simp; omega)]
                unfold splice
                rw [splice_length _ _ _ (by omega)]
                simp [h3]
              · rw [List.getElem?_toArray, splice_get _ _ _ _ (by simp; omega)] at hj
                unfold splice at hcj
                rw [splice_get _ _ _ _ (by omega)] at hcj
                rw [hvl] at hj
                split at hj
                · rename_i hjj
                  rw [if_pos hjj] at hcj
                  exact ((hcells _ z c (by simpa using hj) hcj).1).mono x'
                · rename_i hjj
                  rw [if_neg hjj] at hcj
                  exact (h5 j z c (by simpa using hj) hcj).mono x'
        · cases h
      · cases h
    · rename_i g k i' o
      split at h
      · rename_i e sz xs f hg
        split at h
        · rename_i hle
          obtain ⟨hl, hle, hik, hpos, hfi⟩ := hle
          split at h
          · rename_i y hy
            injection h with h
            subst h
            cases ha with
            | el _ _ _ _ b p lt hn hr =>
              obtain ⟨⟨c, hγ⟩, hp⟩ := (hr _ _ _ _ hg).2 hl.symm
              cases st.ent g b c _ hγ hg with
              | row _ _ _ _ vs h2 h3 h4 h5 h6 q1 q2 h7 =>
                have hyl := h6 y (List.mem_of_getElem? hy)
                have hbound : i' * sz + sz ≤ vs.size := by
                  rw [h3]
                  have : (i' + 1) * sz ≤ c * sz := Nat.mul_le_mul_right _ (by omega)
                  rw [Nat.add_mul] at this
                  omega
                have hfit : p + 0 + v.cells.toList.length ≤ vs.size := by omega
                have hr := run_storeCells_at (P := P) b p e v.cells.toList 0 vs w h2 hfit h1
                simp only [Nat.add_zero] at hr
                have hput : (putIn y o x.cells).cells.length = sz ∧ ∀ j, (putIn y o x.cells).cells[j]? = if o ≤ j ∧ j < o + x.cells.length then x.cells[j - o]? else y.cells[j]? := by
                  by_cases hag : ∃ cs, y = .ag cs
                  · obtain ⟨cs, rfl⟩ := hag
                    have hyl' : cs.length = sz := hyl
                    refine ⟨?_, fun j => ?_⟩
                    · show (splice cs o x.cells).length = sz
                      unfold splice
                      rw [splice_length _ _ _ (by omega)]
                      exact hyl'
                    · show (splice cs o x.cells)[j]? = if o ≤ j ∧ j < o + x.cells.length then x.cells[j - o]? else cs[j]?
                      unfold splice
                      exact splice_get _ _ _ _ (by omega)
                  · have hyc : y.cells = [y] := by cases y <;> first | rfl | exact absurd ⟨_, rfl⟩ hag
                    rw [hyc] at hyl
                    simp only [List.length_cons, List.length_nil] at hyl
                    obtain ⟨z, hz⟩ := List.length_eq_one_iff.1 (show x.cells.length = 1 by omega)
                    have ho : o = 0 := by omega
                    subst ho
                    have hz1 : z.isOne = true := by rw [hz] at hone; simpa using hone
                    have hzc : z.cells = [z] := by cases z <;> first | rfl | simp [AV.isOne] at hz1
                    have hpi : putIn y 0 x.cells = z := by
                      rw [hz]
                      cases y <;> first | rfl | exact absurd ⟨_, rfl⟩ hag
                    rw [hpi, hzc, hz]
                    refine ⟨by simp [hyl], fun j => ?_⟩
                    rw [hyc]
                    cases j with
                    | zero => simp
                    | succ j => simp
                have := set_entry (w' := w.setRow b (vs.toList.take p ++ v.cells.toList ++ vs.toList.drop (p + v.cells.toList.length)).toArray) (e' := .row e sz (xs.set i' (putIn y o x.cells)) f) st hg hγ (by simp) (by simp)
                  (.row _ _ _ _ _ _ (by simp) (by omega) fun _ => rfl) (fun k hk => setRow_other w b k _ hk) (by simp [World.setRow]) rfl rfl rfl (fun o' u hK => ?_) (by simp [Ent.fz])
                  (fun G' x' => .row _ _ _ _ _ (setRow_heap w b vs _ e _ h2) ?_ (by simpa using h4) h5 (fun z hz => ?_) (by simpa using q1) (fun o' ho' => by obtain ⟨u, hu⟩ := q2 o' ho'; exact ⟨u, x'.K _ _ _ hu⟩) fun i2 j2 z xx cc hxx hcc hz => ?_)
                · exact ⟨_, _, (hrun b p).trans hr, this.2.1, this.2.2, rfl⟩
                · have hown := st.own g b c o' u _ hγ hg (by simp) hK
                  simp only [Ent.fz] at hown
                  have hfm : f * sz ≤ i' * sz := Nat.mul_le_mul_right _ hfi
                  have hcell := st.cell _ _ _ hK
                  simp only [World.cell?, h2] at hcell
                  simp only [World.cell?, setRow_heap w b vs _ e _ h2]
                  rw [← hcell]
                  simp only [Option.isSome_none, Bool.false_eq_true, if_false, List.getElem?_toArray]
                  rw [splice_get _ _ _ _ (by simp; omega), if_neg (by omega)]
                  simp
                · simp only [List.size_toArray]
                  rw [splice_length _ _ _ (by simp; omega)]
                  simp [h3]
                · rcases List.mem_or_eq_of_mem_set hz with hz | rfl
                  · exact h6 z hz
                  · exact hput.1
                · rw [List.getElem?_toArray, splice_get _ _ _ _ (by simp; omega)] at hz
                  rw [hvl] at hz
                  have hi2 : i2 < xs.length := by have := (List.getElem?_eq_some_iff.1 hxx).1; simpa using this
                  by_cases hii : i2 = i'
                  · subst hii
                    rw [List.getElem?_set_self (by omega)] at hxx
                    injection hxx with hxx
                    subst hxx
                    rw [hput.2 j2] at hcc
                    subst hp
                    by_cases hjj : o ≤ j2 ∧ j2 < o + x.cells.length
                    · rw [if_pos hjj] at hcc
                      rw [if_pos (by omega)] at hz
                      rw [show i2 * sz + j2 - (i2 * sz + o) = j2 - o by omega] at hz
                      exact ((hcells _ z cc (by simpa using hz) hcc).1).mono x'
                    · rw [if_neg hjj] at hcc
                      rw [if_neg (by omega)] at hz
                      exact (h7 i2 j2 z y cc hy hcc (by simpa using hz)).mono x'
                  · rw [List.getElem?_set_ne (fun e => hii e.symm)] at hxx
                    have hj2 : j2 < sz := by rw [← h6 xx (List.mem_of_getElem? hxx)]; exact (List.getElem?_eq_some_iff.1 hcc).1
                    have hne : ¬ (p ≤ i2 * sz + j2 ∧ i2 * sz + j2 < p + x.cells.length) := by
                      rcases Nat.lt_or_gt_of_ne hii with hlt | hlt
                      · have : (i2 + 1) * sz ≤ i' * sz := Nat.mul_le_mul_right _ hlt
                        rw [Nat.add_mul] at this
                        omega
                      · have : (i' + 1) * sz ≤ i2 * sz := Nat.mul_le_mul_right _ hlt
                        rw [Nat.add_mul] at this
                        omega
                    rw [if_neg hne] at hz
                    exact (h7 i2 j2 z xx cc hxx hcc (by simpa using hz)).mono x'
          · cases h
        · cases h
      · cases h
    · cases h
  · cases h
end
end Go.Am
