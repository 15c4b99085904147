/- The comparison of members by their names. -/
import Derived.Test.YthgkgjcnmahacaaSortM7
import Derived.Test.YthgkgjcnmahacaaTree0
import Derived.Lib.Strings
import Derived.Lib.Bytealg
set_option linter.unusedSimpArgs false
set_option linter.unusedVariables false
namespace Go.Proofs.Ythgkgjcnmahacaa
open Go.Shelf Go.RowKit Go.Lib Go.Sort

theorem cmpB_self : ∀ a : List UInt8, compareBytes a a = 0
  | [] => rfl
  | x :: a => by
    have h : ¬ x < x := UInt8.lt_irrefl x
    unfold compareBytes
    rw [if_neg h, if_neg h, cmpB_self a]
theorem cmpB_neg : ∀ a b : List UInt8, compareBytes b a = - compareBytes a b
  | [], [] => rfl
  | [], _ :: _ => rfl
  | _ :: _, [] => rfl
  | x :: a, y :: b => by
    have ih := cmpB_neg a b
    unfold compareBytes
    by_cases h1 : x < y
    · have h2 : ¬ y < x := fun h => UInt8.lt_irrefl x (UInt8.lt_trans h1 h)
      simp [h1, h2]
    · by_cases h2 : y < x
      · simp [h1, h2]
      · simp [h1, h2, ih]
theorem cmpB_eq : ∀ a b : List UInt8, compareBytes a b = 0 → a = b
  | [], [], _ => rfl
  | [], _ :: _, h => by simp [compareBytes] at h
  | _ :: _, [], h => by simp [compareBytes] at h
  | x :: a, y :: b, h => by
    unfold compareBytes at h
    by_cases h1 : x < y
    · simp [h1] at h
    · by_cases h2 : y < x
      · simp [h1, h2] at h
      · simp only [if_neg h1, if_neg h2] at h
        rw [cmpB_eq a b h, UInt8.le_antisymm (UInt8.not_lt.1 h2) (UInt8.not_lt.1 h1)]
theorem cmpB_ntrans : ∀ a b c : List UInt8, ¬ compareBytes a b < 0 → ¬ compareBytes b c < 0 → ¬ compareBytes a c < 0
  | [], [], c, _, h2 => h2
  | [], _ :: _, _, h1, _ => by simp [compareBytes] at h1
  | _ :: _, _, [], _, _ => by simp [compareBytes]
  | x :: a, [], z :: c, _, h2 => by simp [compareBytes] at h2
  | x :: a, y :: b, z :: c, h1, h2 => by
    have ih := cmpB_ntrans a b c
    unfold compareBytes at h1 h2 ⊢
    by_cases hxy : x < y
    · simp [hxy] at h1
    · by_cases hyz : y < z
      · simp [hyz] at h2
      · have hxz : ¬ x < z := fun h => by
          have h3 := UInt8.le_trans (UInt8.not_lt.1 hyz) (UInt8.not_lt.1 hxy)
          exact absurd h (UInt8.not_lt.2 h3)
        simp only [if_neg hxy, if_neg hyz, if_neg hxz] at h1 h2 ⊢
        by_cases hzx : z < x
        · simp [hzx]
        · have hyx : ¬ y < x := fun h => hzx (UInt8.lt_of_le_of_lt (UInt8.not_lt.1 hyz) h)
          have hzy : ¬ z < y := fun h => hzx (UInt8.lt_of_lt_of_le h (UInt8.not_lt.1 hxy))
          simp only [if_neg hyx, if_neg hzy, if_neg hzx] at h1 h2 ⊢
          exact ih h1 h2

/-- The order of names. -/
def cmpN (a b : ByteArray) : Int := compareBytes a.data.toList b.data.toList
theorem cmpN_self (a : ByteArray) : cmpN a a = 0 := cmpB_self _
theorem cmpN_neg (a b : ByteArray) : cmpN b a = - cmpN a b := cmpB_neg _ _
theorem cmpN_eq {a b : ByteArray} (h : cmpN a b = 0) : a = b := by
  have := cmpB_eq _ _ h
  obtain ⟨⟨x⟩⟩ := a
  obtain ⟨⟨y⟩⟩ := b
  simp only at this
  rw [this]
def cfM (x y : RM) : Int := cmpN x.name y.name
theorem cmpM : Cmp cfM where
  irrefl x := by unfold cfM; rw [cmpN_self]; decide
  asymm x y h := by unfold cfM at *; rw [cmpN_neg]; omega
  ntrans x y z h1 h2 := cmpB_ntrans _ _ _ h1 h2
/-- Members of a tree by their names. -/
def cfJ {γ : Type} (x y : ByteArray × γ) : Int := cmpN x.1 y.1
theorem cmpJ {γ : Type} : Cmp (cfJ (γ := γ)) where
  irrefl x := by unfold cfJ; rw [cmpN_self]; decide
  asymm x y h := by unfold cfJ at *; rw [cmpN_neg]; omega
  ntrans x y z h1 h2 := cmpB_ntrans _ _ _ h1 h2

set_option maxRecDepth 100000 in
set_option maxHeartbeats 1000000 in
theorem compareString_any (a b : ByteArray) (w : World) :
    Calls Try.prog 89 #[.string a, .string b] w fun e w' => e = .returned (.int .i64 (cmpN a b)) ∧ w' = w := by
  go_enter Try.func89, Try.ntmps89
  go_wp2
  rw [run_callFunc_extern Try.func115 (by kernel_rfl) (by kernel_rfl) (by kernel_rfl) (e := Extern.BytealgCompare.compare) (by kernel_rfl), Lib.run_compareString]
  simp only [Result.andThen]
  rw [Oper.upon_value]
  go_wp2
  go_ret
  exact ⟨rfl, rfl⟩
theorem compare_any (a b : ByteArray) (w : World) :
    Calls Try.prog 55 #[.string a, .string b] w fun e w' => e = .returned (.int .i64 (cmpN a b)) ∧ w' = w := by
  go_enter Try.func55, Try.ntmps55
  go_wp2_with (go_at_call 89; refine (compareString_any _ _ _).mono ?_; rintro e w' ⟨rfl, rfl⟩)
  go_ret
  exact ⟨rfl, rfl⟩
set_option maxRecDepth 100000 in
theorem cmpM_any : SM.CmpAny Try.prog 54 #[] encM cfM := by
  intro W x y
  obtain ⟨n1, k1, i1, s1, pl1, nl1, cl1, pm1, nm1, cm1⟩ := x
  obtain ⟨n2, k2, i2, s2, pl2, nl2, cl2, pm2, nm2, cm2⟩ := y
  simp only [encM, encV, cfM]
  show Calls Try.prog 54 #[.agg #[.string n1, .int .i64 k1, .int .i64 i1, .string s1, .slice pl1 nl1 cl1, .slice pm1 nm1 cm1], .agg #[.string n2, .int .i64 k2, .int .i64 i2, .string s2, .slice pl2 nl2 cl2, .slice pm2 nm2 cm2]] W _
  go_enter Try.func54, Try.ntmps54
  go_wp2_with (go_at_call 55; refine (compare_any _ _ _).mono ?_; rintro e w' ⟨rfl, rfl⟩)
  go_ret
  exact ⟨rfl, 0, _, by rw [alloc_eq_grow, alloc_eq_grow, grow_grow]; rfl⟩
end Go.Proofs.Ythgkgjcnmahacaa
