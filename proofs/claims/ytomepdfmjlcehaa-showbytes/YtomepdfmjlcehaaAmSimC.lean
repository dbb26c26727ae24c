/- The steps that only look: the machine does what they say. -/
import Derived.Test.YtomepdfmjlcehaaAmSimB
import Derived.Laws.Entries
set_option linter.unusedVariables false
set_option linter.unusedSimpArgs false
namespace Go.Am

theorem rl_it {G v k n} (h : Rl G v (.it k n)) : v = .int k n := by cases h; rfl
theorem rl_bo {G v b} (h : Rl G v (.bo b)) : v = .bool b := by cases h; rfl
theorem rl_st {G v s} (h : Rl G v (.st s)) : v = .string ⟨s.toArray⟩ := by cases h; rfl
theorem rl_sc {G v u} (h : Rl G v (.sc u)) : v = u := by cases h; rfl
theorem rl_nl {G v} (h : Rl G v .nl) : v = .slice none 0 0 := by cases h; rfl

theorem toList_mk (s : List UInt8) : (⟨s.toArray⟩ : ByteArray).toList = s := by
  suffices h : ∀ (n i : Nat) (acc : List UInt8), n = s.length - i → ByteArray.toList.loop ⟨s.toArray⟩ i acc = acc.reverse ++ s.drop i by
    simpa [ByteArray.toList] using h s.length 0 [] rfl
  intro n
  induction n with
  | zero =>
    intro i acc h
    unfold ByteArray.toList.loop
    have : ¬ i < (⟨s.toArray⟩ : ByteArray).size := by simp [ByteArray.size]; omega
    rw [if_neg this, List.drop_eq_nil_of_le (by omega)]
    simp
  | succ n ih =>
    intro i acc h
    unfold ByteArray.toList.loop
    have hi : i < s.length := by omega
    have : i < (⟨s.toArray⟩ : ByteArray).size := by simpa [ByteArray.size] using hi
    rw [if_pos this, ih (i + 1) _ (by omega), List.drop_eq_getElem_cons hi]
    simp [ByteArray.get!, hi]

section
variable {P : Program} {G : Gho} {w : World}

theorem size_mk (s : List UInt8) : (⟨s.toArray⟩ : ByteArray).size = s.length := rfl

theorem append_mk (s t : List UInt8) : ((⟨s.toArray⟩ : ByteArray) ++ (⟨t.toArray⟩ : ByteArray)) = ⟨(s ++ t).toArray⟩ := by
  apply ByteArray.ext
  simp

theorem run_bin {op : BinOp} {t : TypeId} {x y : Operand} {u v : Value} {a b c : AV} (hu : Rl G u a) (hv : Rl G v b) (h : s_bin op a b = some c) :
    ∃ z, (do eqGuard op t x y u v; binOp op t u v : Sem Value).run P w = .ok z w ∧ Rl G z c := by
  unfold s_bin at h
  split at h
  case h_21 => cases h
  case h_18 =>
    rename_i p q
    cases rl_st hu; cases rl_st hv
    split at h
    · rename_i hl
      injection h with h; subst h
      refine ⟨_, ?_, .st _⟩
      simp only [eqGuard, binOp, Op.stringOp, size_mk, append_mk]
      have hm : IntKind.i64.max = 9223372036854775807 := rfl
      have hn : ¬ (((p.length + q.length : Nat) : Int) > IntKind.i64.max) := by rw [hm]; omega
      rw [if_neg hn]
      simp
    · cases h
  case h_19 =>
    cases rl_st hu; cases rl_st hv
    injection h with h; subst h
    refine ⟨_, ?_, .bo _⟩
    simp [eqGuard, binOp, Op.stringOp, toList_mk]
  case h_20 =>
    cases rl_st hu; cases rl_st hv
    injection h with h; subst h
    refine ⟨_, ?_, .bo _⟩
    simp [eqGuard, binOp, Op.stringOp, toList_mk]
  all_goals
    cases rl_it hu; cases rl_it hv
    split at h
    all_goals first
      | (rename_i hk; subst hk
         injection h with h; subst h
         refine ⟨_, ?_, .it _ _⟩; simp [eqGuard, binOp, Op.intArith, Op.intCmp, Op.intBits]; done)
      | (rename_i hk; subst hk
         injection h with h; subst h
         refine ⟨_, ?_, .bo _⟩; simp [eqGuard, binOp, Op.intArith, Op.intCmp, Op.intBits]; done)
      | (rename_i hk; subst hk
         split at h
         · cases h
         · rename_i hb
           injection h with h; subst h
           refine ⟨_, ?_, .it _ _⟩
           simp [eqGuard, binOp, Op.intDiv, hb])
      | (rename_i hb
         injection h with h; subst h
         refine ⟨_, ?_, .it _ _⟩
         simp [eqGuard, binOp, Op.shift, hb]; done)
      | (cases h; done)

theorem run_un {op : UnOp} {u : Value} {a c : AV} (hu : Rl G u a) (h : s_un op a = some c) : ∃ z, (Op.unary op u).run P w = .ok z w ∧ Rl G z c := by
  unfold s_un at h
  split at h
  · cases rl_it hu
    injection h with h; subst h
    refine ⟨_, ?_, .it _ _⟩
    simp [Op.unary, Op.intArith]
  · cases rl_bo hu
    injection h with h; subst h
    refine ⟨_, ?_, .bo _⟩
    simp [Op.unary]
  · cases h
end
end Go.Am
