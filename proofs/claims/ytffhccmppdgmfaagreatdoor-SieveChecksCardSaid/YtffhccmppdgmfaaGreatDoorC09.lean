import Derived.Test.YtffhccmppdgmfaaGreatDoorC08
import Derived.OpenShut
set_option linter.unusedSimpArgs false
set_option linter.unusedVariables false
set_option maxRecDepth 200000
set_option maxHeartbeats 8000000
namespace Go.Proofs.YtffhccmppdgmfaaGreatDoor
section
open Go.RowKit Go.OpenShut
def lastW (l : List En) (id : ByteArray) : Int := l.foldl (fun a e => if e.id = id then e.what else a) 0
theorem lastW_snoc (l : List En) (e : En) (id : ByteArray) : lastW (l ++ [e]) id = if e.id = id then e.what else lastW l id := by simp [lastW]
def okAt (l : List En) (floor : Int) (k : Nat) : Bool := match l[k]? with
 | some e => e.seq == floor + 1 + k && mayB (lastW (l.take k) e.id) e.what
 | none => true
def headB (n : Nat) (floor seq : Int) : Bool := decide (0 <= floor /\ floor <= seq /\ seq <= 9007199254740991 /\ seq - floor = n)
def rightB (l : List En) (floor seq : Int) : Bool := headB l.length floor seq && (List.range l.length).all (okAt l floor)
theorem rightB_no {l : List En} {floor seq : Int} (h : headB l.length floor seq = false) : rightB l floor seq = false := by simp [rightB, h]
theorem rightB_yes {l : List En} {floor seq : Int} (h : headB l.length floor seq = true) (ha : ∀ k, k < l.length -> okAt l floor k = true) : rightB l floor seq = true := by
 simp only [rightB, h, Bool.true_and, List.all_eq_true, List.mem_range]
 exact ha
theorem rightB_bad {l : List En} {floor seq : Int} {k : Nat} (hk : k < l.length) (h : okAt l floor k = false) : rightB l floor seq = false := by
 unfold rightB
 rw [Bool.and_eq_false_iff]
 right
 rw [Bool.eq_false_iff]
 intro ha
 rw [List.all_eq_true] at ha
 have := ha k (by simpa using hk)
 rw [h] at this
 cases this
theorem okAt_of {l : List En} {floor : Int} {k : Nat} {x : En} (hx : l[k]? = some x) : okAt l floor k = (x.seq == floor + 1 + k && mayB (lastW (l.take k) x.id) x.what) := by simp [okAt, hx]
theorem okAt_bad {l : List En} {floor : Int} {k : Nat} {x : En} (hx : l[k]? = some x) (h : x.seq ≠ floor + 1 + k \/ x.what < 1 \/ 3 < x.what) : okAt l floor k = false := by
 rw [okAt_of hx]
 rcases h with h | h | h
 ·simp [h]
 ·simp [mayB, show ¬ x.what = 1 by omega, show ¬ x.what = 2 by omega, show ¬ x.what = 3 by omega]
 ·simp [mayB, show ¬ x.what = 1 by omega, show ¬ x.what = 2 by omega, show ¬ x.what = 3 by omega]
theorem lastW_take {l : List En} {j : Nat} {y : En} (hy : l[j]? = some y) (id : ByteArray) : lastW (l.take (j + 1)) id = if y.id = id then y.what else lastW (l.take j) id := by
 rw [List.take_add_one, hy]
 exact lastW_snoc _ _ _
theorem lastW_wf {l : List En} (h : ∀ e ∈ l, e.ok) (id : ByteArray) : (Lit.int .i64 (lastW l id)).wf = true := by
 suffices ∀ (l : List En) (a : Int), (∀ e ∈ l, e.ok) -> (Lit.int .i64 a).wf = true -> (Lit.int .i64 (l.foldl (fun a e => if e.id = id then e.what else a) a)).wf = true from this l 0 h (by decide)
 intro l
 induction l with
 | nil => intro a _ ha; exact ha
 | cons e l ih =>
   intro a h ha
   simp only [List.foldl_cons]
   refine ih _ (fun x hx => h x (by simp [hx])) ?_
   split
   ·exact (h e (by simp)).2.2
   ·exact ha
theorem get_ok {l : List En} {k : Nat} {x : En} (h : ∀ e ∈ l, e.ok) (hx : l[k]? = some x) : x.ok := h x (List.mem_of_getElem? hx)
end
end Go.Proofs.YtffhccmppdgmfaaGreatDoor
