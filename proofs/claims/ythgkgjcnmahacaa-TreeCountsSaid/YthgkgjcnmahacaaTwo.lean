/- The law's two members, in either order. -/
import Derived.Test.YthgkgjcnmahacaaSameT
import Derived.Test.YthgkgjcnmahacaaTree6
set_option linter.unusedSimpArgs false
set_option linter.unusedVariables false
namespace Go.Proofs.Ythgkgjcnmahacaa
open Go.RowKit Go.OpenShut

def numT (n : Int) : JV := .mk 3 n ⟨#[]⟩ [] []
def numR (n : Int) : RV := ⟨3, n, ⟨#[]⟩, none, 0, 0, none, 0, 0⟩
theorem numT_of (w : World) (B : Nat) (n : Int) : TreeOf w B (numT n) (numR n) :=
  TreeOf.mk (r := numR n) (rs := []) (rms := []) (Rd.nil _ _) rfl (fun i t q h => by simp at h) (Rd.nil _ _) rfl (fun i p q h => by simp at h) (fun i p q h => by simp at h)

/-- What the map of the two names holds. -/
def twoF (s : List UInt8) : Option Value := if s = [98] then some (.int .i64 1) else if s = [97] then some (.int .i64 2) else none

set_option maxRecDepth 100000 in
set_option maxHeartbeats 2000000 in
theorem two_any (a b : ByteArray) (na nb : Int) (w : World) (ha : twoF a.data.toList = some (.int .i64 na)) (hb : twoF b.data.toList = some (.int .i64 nb)) (hsa : a.size ≤ maxLen) (hsb : b.size ≤ maxLen) :
    Calls Try.prog 50 #[.string a, .string b] w (MapRet w 0 [(a, numT na), (b, numT nb)]) := by
  have hM0 : MapF ((w.alloc (.cells #[.int .i64 0, .int .i64 0, .string ⟨#[]⟩, .slice none 0 0, .slice none 0 0] 25)).alloc (.map #[] 0)) Try.prog 9 (w.heap.size + 1) 0 (fun _ => none) := by
    have := MapF.made (w.alloc (.cells #[.int .i64 0, .int .i64 0, .string ⟨#[]⟩, .slice none 0 0, .slice none 0 0] 25)) Try.prog 9
    rwa [show (w.alloc (.cells #[.int .i64 0, .int .i64 0, .string ⟨#[]⟩, .slice none 0 0, .slice none 0 0] 25)).heap.size = w.heap.size + 1 by simp] at this
  obtain ⟨w1, hrun1, hM1, hG1⟩ := MapF.store hM0 Try.underlying9 Try.underlying130 (by decide) (s := ⟨#[97]⟩) (by decide) (.int .i64 2)
  obtain ⟨w2, hrun2, hM2, hG2⟩ := MapF.store hM1 Try.underlying9 Try.underlying130 (by decide) (s := ⟨#[98]⟩) (by decide) (.int .i64 1)
  have HM2 : Hid (MapF w2 Try.prog 9 (w.heap.size + 1) 2 twoF) := hM2
  have HG1 := Lib.hid hG1
  have HG2 := Lib.hid hG2
  have HA := Lib.hid ha
  have HB := Lib.hid hb
  have HSA := Lib.hid hsa
  have HSB := Lib.hid hsb
  clear hM0 hM1 hM2 hG1 hG2 ha hb hsa hsb
  go_enter Try.func50, Try.ntmps50
  have hmm := @run_makeMap Try.prog
  go_upto_region 2 with fail
  clear hmm hrun1 hrun2
  have hZ0 : VAt w2 w.heap.size RV.zero := by
    have h0 : VAt ((w.alloc (.cells #[.int .i64 0, .int .i64 0, .string ⟨#[]⟩, .slice none 0 0, .slice none 0 0] 25)).alloc (.map #[] 0)) w.heap.size RV.zero := heap_alloc_lt (by simp) (heap_alloc_at rfl)
    have s1 := HG1.out.size
    simp at s1
    exact (HG2.out.block _ (by omega) (fun e => by simp at e)).trans ((HG1.out.block _ (by simp; omega) (fun e => by simp at e)).trans h0)
  have hB2 : Below w.heap.size w w2 := (((((Below.refl _ _).alloc (Nat.le_refl _) (.cells #[.int .i64 0, .int .i64 0, .string ⟨#[]⟩, .slice none 0 0, .slice none 0 0] 25)).alloc (by simp) (.map #[] 0)).grown HG1.out (by simp; omega) (fun k e => by simp at e; omega)).grown HG2.out (by have := HG1.out.size; simp at this; omega) (fun k e => by simp at e; omega))
  have hsz : w.heap.size < w2.heap.size := hZ0.lt
  have z0 := hZ0.cell 0 rfl
  have z1 := hZ0.cell 1 rfl
  have z2 := hZ0.cell 2 rfl
  have z3 := hZ0.cell 3 rfl
  have z4 := hZ0.cell 4 rfl
  dsimp only [RV.zero] at z0 z1 z2 z3 z4
  have y0 := hZ0.frozen 0
  have y1 := hZ0.frozen 1
  have y2 := hZ0.frozen 2
  have y3 := hZ0.frozen 3
  have y4 := hZ0.frozen 4
  have HB2 := Lib.hid hB2
  have HZ0 := Lib.hid hZ0
  clear hZ0 hB2
  go_wp2_with (first
    | (at_lookup; refine wpList_look_F _ rfl _ _ _ rfl 9 2 Try.underlying9 Try.underlying130 (Try.zeroValue2 _) _ _ twoF rfl HM2.out a rfl HSA.out (v := .int .i64 na) (by rw [HA.out]; rfl) ?_; go_frame)
    | (at_lookup; refine wpList_look_F _ rfl _ _ _ rfl 9 2 Try.underlying9 Try.underlying130 (Try.zeroValue2 _) _ _ twoF rfl HM2.out b rfl HSB.out (v := .int .i64 nb) (by rw [HB.out]; rfl) ?_; go_frame))
  obtain ⟨q, hq⟩ : ∃ q : RV, q = ⟨6, 0, ⟨#[]⟩, none, 0, 0, some ⟨w2.heap.size, 0, none⟩, 2, 2⟩ := ⟨_, rfl⟩
  have hst := HZ0.out.stored ⟨6, 0, ⟨#[]⟩, none, 0, 0, some ⟨w2.heap.size, 0, none⟩, 2, 2⟩
  have hbs := Below.stored HB2.out (Nat.le_refl _) ⟨6, 0, ⟨#[]⟩, none, 0, 0, some ⟨w2.heap.size, 0, none⟩, 2, 2⟩
  have hz5 : (((((w2.setCell ⟨w.heap.size, 0, none⟩ (.int .i64 6)).setCell ⟨w.heap.size, 1, none⟩ (.int .i64 0)).setCell ⟨w.heap.size, 2, none⟩ (.string ⟨#[]⟩)).setCell ⟨w.heap.size, 3, none⟩ (.slice none 0 0)).setCell ⟨w.heap.size, 4, none⟩ (.slice (some ⟨w2.heap.size, 0, none⟩) 2 2)).heap.size = w2.heap.size := by simp
  obtain ⟨W5, hW5⟩ : ∃ W5, ((((w2.setCell ⟨w.heap.size, 0, none⟩ (.int .i64 6)).setCell ⟨w.heap.size, 1, none⟩ (.int .i64 0)).setCell ⟨w.heap.size, 2, none⟩ (.string ⟨#[]⟩)).setCell ⟨w.heap.size, 3, none⟩ (.slice none 0 0)).setCell ⟨w.heap.size, 4, none⟩ (.slice (some ⟨w2.heap.size, 0, none⟩) 2 2) = W5 := ⟨_, rfl⟩
  dsimp only at hst hbs
  rw [hW5] at hst hbs hz5 ⊢
  clear hW5
  have hal := heap_alloc_lt (o := .cells #[.string a, .int .i64 3, .int .i64 na, .string ⟨#[]⟩, .slice none 0 0, .slice none 0 0, .string b, .int .i64 3, .int .i64 nb, .string ⟨#[]⟩, .slice none 0 0, .slice none 0 0] 90) hst.lt hst
  have hal2 : VAt (W5.alloc (.cells #[.string a, .int .i64 3, .int .i64 na, .string ⟨#[]⟩, .slice none 0 0, .slice none 0 0, .string b, .int .i64 3, .int .i64 nb, .string ⟨#[]⟩, .slice none 0 0, .slice none 0 0] 90)) w.heap.size ⟨6, 0, ⟨#[]⟩, none, 0, 0, some ⟨w2.heap.size, 0, none⟩, 2, 2⟩ := hal
  have c0 := hal2.cell 0 rfl
  have c1 := hal2.cell 1 rfl
  have c2 := hal2.cell 2 rfl
  have c3 := hal2.cell 3 rfl
  have c4 := hal2.cell 4 rfl
  dsimp only at c0 c1 c2 c3 c4
  refine bodyPost_ret (v := RV.val ⟨6, 0, ⟨#[]⟩, none, 0, 0, some ⟨w2.heap.size, 0, none⟩, 2, 2⟩) (by simp [results, Try.results50, go_sem, c0, c1, c2, c3, c4]) rfl ⟨some ⟨w2.heap.size, 0, none⟩, 2, 2, [⟨a, numR na⟩, ⟨b, numR nb⟩], rfl, ?_, ⟨rfl, ?_, ?_⟩, hbs.alloc (by omega) _⟩
  · exact Own.block codecM (heap_alloc_at hz5.symm) rfl rfl (by omega) (by simp [maxLen])
  · intro i p q h1 h2
    match i with
    | 0 => cases h1; cases h2; rfl
    | 1 => cases h1; cases h2; rfl
    | i + 2 => simp at h1
  · intro i p q h1 h2
    match i with
    | 0 => cases h1; cases h2; exact numT_of _ _ _
    | 1 => cases h1; cases h2; exact numT_of _ _ _
    | i + 2 => simp at h1
end Go.Proofs.Ythgkgjcnmahacaa
