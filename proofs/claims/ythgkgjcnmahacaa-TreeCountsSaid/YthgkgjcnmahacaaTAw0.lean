/- The law's two maps of two members: plain facts. -/
import Derived.Test.YthgkgjcnmahacaaTwo
import Derived.Test.YthgkgjcnmahacaaSortT
import Derived.Test.YthgkgjcnmahacaaCountT
import Derived.Test.YthgkgjcnmahacaaWout2
set_option linter.unusedSimpArgs false
set_option linter.unusedVariables false
namespace Go.Proofs.Ythgkgjcnmahacaa
open Go.RowKit Go.OpenShut

def nA : ByteArray := ⟨#[97]⟩
def nB : ByteArray := ⟨#[98]⟩
def nC : ByteArray := ⟨#[99]⟩
def tvM : List (ByteArray × JV) := [(nB, numT 1), (nA, numT 2)]
def twM : List (ByteArray × JV) := [(nA, numT 2), (nB, numT 1)]
def tvT : JV := .mk 6 0 ⟨#[]⟩ [] tvM
def twT : JV := .mk 6 0 ⟨#[]⟩ [] twM
theorem num_ok (n : Int) (h : (Lit.int .i64 n).wf = true) : (numT n).Ok := .mk (by decide) h (by decide) (by decide) (by decide) (fun i x h => by simp at h) (fun i p h => by simp at h) (fun i p h => by simp at h)
theorem tv_ok : tvT.Ok := .mk (by decide) (by decide) (by decide) (by decide) (by simp [tvM]) (fun i x h => by simp at h)
  (fun i p h => by
    match i with
    | 0 => cases h; decide
    | 1 => cases h; decide
    | i + 2 => simp [tvM] at h)
  (fun i p h => by
    match i with
    | 0 => cases h; exact num_ok _ (by decide)
    | 1 => cases h; exact num_ok _ (by decide)
    | i + 2 => simp [tvM] at h)
theorem tw_ok : twT.Ok := .mk (by decide) (by decide) (by decide) (by decide) (by simp [twM]) (fun i x h => by simp at h)
  (fun i p h => by
    match i with
    | 0 => cases h; decide
    | 1 => cases h; decide
    | i + 2 => simp [twM] at h)
  (fun i p h => by
    match i with
    | 0 => cases h; exact num_ok _ (by decide)
    | 1 => cases h; exact num_ok _ (by decide)
    | i + 2 => simp [twM] at h)
theorem tv_a : tvT.get nA = some (numT 2) := rfl
theorem tv_c : tvT.get nC = none := rfl
theorem tv_count : countT tvT = 3 := by simp [tvT, tvM, numT, countT, countL, countM]
theorem tv_with (x : JV) : (putM (tvT.place nC) tvT.mem nC x).length = 3 := rfl
theorem tv_without : (cutM tvT.mem nA).length = 1 := rfl
theorem num_sort {n : Int} {u : JV} (h : SortOf (numT n) u) : u = numT n := by
  unfold numT at h
  cases h with
  | mk el cl em cn cm st =>
    have h1 := List.eq_nil_of_length_eq_zero el
    have h2 := List.eq_nil_of_length_eq_zero em
    subst h1 h2
    have h3 := st.perm.eq_nil
    subst h3
    rfl
theorem tv_sort {u : JV} (h : SortOf tvT u) : u = twT := by
  unfold tvT at h
  cases h with
  | @mk _ _ _ _ l' _ mm m' el cl em cn cm st =>
    have h1 := List.eq_nil_of_length_eq_zero el
    subst h1
    have hmm : mm = tvM := by
      match mm, em with
      | [p, q], _ =>
        have a1 := cn 0 _ p rfl rfl
        have a2 := num_sort (cm 0 _ p rfl rfl)
        have b1 := cn 1 _ q rfl rfl
        have b2 := num_sort (cm 1 _ q rfl rfl)
        obtain ⟨p1, p2⟩ := p
        obtain ⟨q1, q2⟩ := q
        simp only at a1 a2 b1 b2
        subst a1 a2 b1 b2
        rfl
    subst hmm
    have hst : IsStable cfJ tvM twM := ⟨[((nA, numT 2), 1), ((nB, numT 1), 0)], by simpa [tvM] using List.Perm.swap _ _ _, by
      rw [List.pairwise_cons]
      refine ⟨fun a ha => ?_, List.pairwise_singleton _ _⟩
      rw [List.mem_singleton] at ha
      subst ha
      exact by decide, rfl⟩
    rw [st.unique cmpJ hst]
    rfl
theorem tv_same : SameT tvT twT := by
  refine .mk rfl rfl (fun i t u h => by simp at h) (fun i p h => ?_) (fun i j p q h1 h2 h3 => ?_)
  · match i with
    | 0 => cases h; exact by decide
    | 1 => cases h; exact by decide
    | i + 2 => simp [tvM] at h
  · match i with
    | 0 =>
      cases h1
      have : twM.findIdx? (fun q => decide (q.1 = nB)) = some 1 := rfl
      rw [this] at h2
      cases h2; cases h3
      exact .mk rfl rfl (fun i t u h => by simp at h) (fun i p h => by simp at h) (fun i j p q h => by simp at h)
    | 1 =>
      cases h1
      have : twM.findIdx? (fun q => decide (q.1 = nA)) = some 0 := rfl
      rw [this] at h2
      cases h2; cases h3
      exact .mk rfl rfl (fun i t u h => by simp at h) (fun i p h => by simp at h) (fun i j p q h => by simp at h)
    | i + 2 => simp [tvM] at h1
end Go.Proofs.Ythgkgjcnmahacaa
