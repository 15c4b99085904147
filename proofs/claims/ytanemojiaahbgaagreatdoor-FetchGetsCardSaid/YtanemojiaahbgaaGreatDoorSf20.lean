import Derived.Test.YtanemojiaahbgaaGreatDoorSf00
import Derived.Test.YtanemojiaahbgaaGreatDoorSf16
import Derived.Test.YtanemojiaahbgaaGreatDoorSf01
import Derived.Deep.RegionHeld3
import Derived.Deep.RegionLaw
section
/- chars.escape and chars.Quote: a text between quotes, walked. -/
set_option linter.unusedSimpArgs false
set_option linter.unusedVariables false
namespace Go.Proofs.YtanemojiaahbgaaGreatDoor
open Go Go.RowKit Go.OpenShut

/-- The letter behind the stroke; 0: none. -/
def escN (c : Nat) : Nat := if c = 34 ∨ c = 92 then c else if c = 8 then 98 else if c = 9 then 116 else if c = 10 then 110 else if c = 12 then 102 else if c = 13 then 114 else 0
set_option maxRecDepth 100000 in
set_option maxHeartbeats 1000000 in
theorem escape_any (b : UInt8) (w : World) : Calls Tryz.prog 110 #[.int .u8 b.toNat] w fun e w' => e = .returned (.int .u8 (escN b.toNat : Nat)) ∧ w = w' := by
  have hb : (b.toNat : Int) < 256 := by have := b.toNat_lt; omega
  have h0 : (0 : Int) ≤ (b.toNat : Int) := Int.natCast_nonneg _
  go_enter Tryz.func110, Tryz.ntmps110
  go_wp2_with fail
  all_goals go_ret
  all_goals refine ⟨ret_int1 ?_, rfl⟩
  all_goals unfold escN
  all_goals (repeat' split)
  all_goals first | omega | (simp only [beq_iff_eq, bne_iff_ne, Bool.not_eq_true, beq_eq_false_iff_ne] at *; omega) | trace_state
/-- A digit of sixteen. -/
def hexD (n : Nat) : UInt8 := if n < 10 then UInt8.ofNat (48 + n) else UInt8.ofNat (87 + n)
theorem and15 {n : Nat} (h : n < 32) : bits BinOp.and IntKind.u8 (n : Int) 15 = (n : Int) % 16 :=
  (by decide +kernel : ∀ m : Fin 32, bits BinOp.and IntKind.u8 ((m.val : Nat) : Int) 15 = ((m.val : Nat) : Int) % 16) ⟨n, h⟩
theorem hex_get (n : Nat) (h : n < 16) (h' : n < (⟨#[48, 49, 50, 51, 52, 53, 54, 55, 56, 57, 97, 98, 99, 100, 101, 102]⟩ : ByteArray).size) : (⟨#[48, 49, 50, 51, 52, 53, 54, 55, 56, 57, 97, 98, 99, 100, 101, 102]⟩ : ByteArray)[n]'h' = hexD n :=
  (by decide +kernel : ∀ m : Fin 16, (⟨#[48, 49, 50, 51, 52, 53, 54, 55, 56, 57, 97, 98, 99, 100, 101, 102]⟩ : ByteArray)[m.val]'m.isLt = hexD m.val) ⟨n, h⟩
/-- How a byte stands between quotes. -/
def escL (c : UInt8) : List UInt8 := if escN c.toNat ≠ 0 then [92, UInt8.ofNat (escN c.toNat)] else if c.toNat < 32 then [92, 117, 48, 48, hexD (c.toNat / 16), hexD (c.toNat % 16)] else [c]
def quoM (l : List UInt8) : List UInt8 := l.flatMap escL
/-- A text between quotes. -/
def quoL (s : ByteArray) : List UInt8 := if badF s = s.size then 34 :: quoM s.data.toList ++ [34] else []
theorem escL_len (c : UInt8) : (escL c).length ≤ 6 := by unfold escL; split <;> (try split) <;> simp
theorem quoM_len (l : List UInt8) : (quoM l).length ≤ 6 * l.length := by
  induction l with
  | nil => simp [quoM]
  | cons c l ih =>
    unfold quoM at ih ⊢
    rw [List.flatMap_cons, List.length_append, List.length_cons]
    have := escL_len c
    omega
theorem quoM_take {l : List UInt8} {k : Nat} {c : UInt8} (h : l[k]? = some c) : quoM (l.take (k + 1)) = quoM (l.take k) ++ escL c := by
  unfold quoM
  rw [List.take_add_one, h]
  simp

def QuoRet (w : World) (s : ByteArray) (e : Ending) (w' : World) : Prop := e = .returned (.tuple #[.string (toB (quoL s)), .bool (decide (badF s = s.size))]) ∧ Below w.heap.size w w'
set_option maxRecDepth 100000 in
set_option maxHeartbeats 4000000 in
theorem quote_any (s : ByteArray) (w : World) (hs : s.size ≤ 4398046511104) : Calls Tryz.prog 89 #[.string s] w (QuoRet w s) := by
  have hm : s.size ≤ maxLen := by unfold maxLen; omega
  have HB := Lib.hid (bad_any s w hm)
  have HS := Lib.hid hs
  clear hm
  by_cases hok : badF s = s.size
  · have hne : ((badF s : Int) != (s.size : Int)) = false := by simp [hok]
    have HQ : Hid (quoL s = 34 :: quoM s.data.toList ++ [34] ∧ decide (badF s = s.size) = true) := ⟨by unfold quoL; rw [if_pos hok], by simpa using hok⟩
    clear hok
    have hO0 : OwnU (w.alloc (.cells #[.int .u8 34] 5)) w.heap.size (.slice (some ⟨w.heap.size, 0, none⟩) 1 1) [34] := Own.block codecU (heap_alloc_at rfl) rfl rfl (Nat.le_refl _) (by decide)
    have hB0 : Below w.heap.size w (w.alloc (.cells #[.int .u8 34] 5)) := (Below.refl _ _).alloc (Nat.le_refl _) _
    go_enter Tryz.func89, Tryz.ntmps89
    go_upto_region 4 with (go_at_call 91; refine HB.out.mono ?_; rintro e w1 ⟨rfl, rfl⟩)
    obtain ⟨W0, hW0⟩ : ∃ W0, w.alloc (.cells #[.int .u8 34] 5) = W0 := ⟨_, rfl⟩
    rw [hW0] at hO0 hB0 ⊢
    clear hW0
    go_wp2_with fail
    go_loopw [4, 16] (fun o i wr => ∃ k : Nat, k ≤ s.size ∧ i = .int .i64 k ∧ Hid (OwnU wr w.heap.size o (34 :: quoM (s.data.toList.take k))) ∧ Hid (Below w.heap.size w wr)) (fun _ i _ => s.size - (intOf i).toNat)
    case atStart => exact ⟨0, Nat.zero_le _, rfl, hO0, hB0⟩
    case round =>
      obtain ⟨k, hk, rfl, hown, hbr⟩ := hrel
      by_cases hlt : k < s.size
      · have hget : s.data.toList[k]? = some s[k] := by rw [Array.getElem?_toList]; exact Array.getElem?_eq_getElem hlt
        obtain ⟨c, hc⟩ : ∃ c, s[k] = c := ⟨_, rfl⟩
        have hbang := get_bang s k hlt
        rw [hc] at hget hbang
        have HT := Lib.hid (quoM_take hget)
        have hk0 : (0 : Int) ≤ (k : Int) := Int.natCast_nonneg _
        have hk1 : (k : Int) < (s.size : Int) := by omega
        have HE := Lib.hid (escape_any c)
        clear hget
        obtain ⟨e, he⟩ : ∃ e, escN c.toNat = e := ⟨_, rfl⟩
        rw [he] at HE
        go_upto_region 10 with (go_at_call 110; refine (HE.out _).mono ?_; rintro e w1 ⟨rfl, rfl⟩)
        have hL : (34 :: quoM (s.data.toList.take k)).length ≤ 26388279066625 := by
          have h1 := quoM_len (s.data.toList.take k)
          have h2 : (s.data.toList.take k).length ≤ s.size := by rw [List.length_take]; have := str_len s; omega
          have := HS.out
          simp only [List.length_cons]
          omega
        have HL := Lib.hid hL
        have HB2 := hbr.out.size
        by_cases h0 : e = 0
        · subst h0
          by_cases h32 : c.toNat < 32
          · have HX : Hid (escL c = [92, 117, 48, 48, hexD (c.toNat / 16), hexD (c.toNat % 16)]) := by unfold Hid escL; rw [he, if_neg (by simp), if_pos h32]
            have h33 : ((c.toNat : Int) < 32) := by omega
            have h34 : decide ((c.toNat : Int) < 32) = true := by simp; omega
            go_upto_region 13 with fail
            have m0 : (0 : Int) ≤ (c.toNat : Int) % 16 := by omega
            have m1 : (c.toNat : Int) % 16 < 16 := by omega
            have m2 : (0 : Int) ≤ (c.toNat : Int) / 16 := by omega
            have m3 : (c.toNat : Int) / 16 < 16 := by omega
            have hbits : bits BinOp.and IntKind.u8 (c.toNat : Int) 15 = (c.toNat : Int) % 16 := and15 h32
            have hx1 : ∀ h, (⟨#[48, 49, 50, 51, 52, 53, 54, 55, 56, 57, 97, 98, 99, 100, 101, 102]⟩ : ByteArray)[((c.toNat : Int) / 16).toNat]'h = hexD (c.toNat / 16) := fun h => by
              have e : ((c.toNat : Int) / 16).toNat = c.toNat / 16 := by omega
              simp only [e]
              exact hex_get _ (by omega) _
            have hx2 : ∀ h, (⟨#[48, 49, 50, 51, 52, 53, 54, 55, 56, 57, 97, 98, 99, 100, 101, 102]⟩ : ByteArray)[((c.toNat : Int) % 16).toNat]'h = hexD (c.toNat % 16) := fun h => by
              have e : ((c.toNat : Int) % 16).toNat = c.toNat % 16 := by omega
              simp only [e]
              exact hex_get _ (by omega) _
            obtain ⟨y1, hy1⟩ : ∃ y, hexD (c.toNat / 16) = y := ⟨_, rfl⟩
            obtain ⟨y2, hy2⟩ : ∃ y, hexD (c.toNat % 16) = y := ⟨_, rfl⟩
            rw [hy1] at hx1 HX
            rw [hy2] at hx2 HX
            clear hy1 hy2
            have HO2 := Lib.hid (hown.out.alloc (.cells #[.int .u8 92, .int .u8 117, .int .u8 48, .int .u8 48, .int .u8 y1.toNat, .int .u8 y2.toNat] 5))
            have HR2 : Hid (Rd (wr.alloc (.cells #[.int .u8 92, .int .u8 117, .int .u8 48, .int .u8 48, .int .u8 y1.toNat, .int .u8 y2.toNat] 5)) (wr.alloc (.cells #[.int .u8 92, .int .u8 117, .int .u8 48, .int .u8 48, .int .u8 y1.toNat, .int .u8 y2.toNat] 5)).heap.size encU 1 (.slice (some ⟨wr.heap.size, 0, none⟩) 6 6) [92, 117, 48, 48, y1, y2]) := rd_bytes (by simp) (heap_alloc_at rfl) (by simp [cellsOf, encU]) rfl (by simp [maxLen])
            have HBW := Lib.hid (hbr.out.alloc hbr.out.size (.cells #[.int .u8 92, .int .u8 117, .int .u8 48, .int .u8 48, .int .u8 y1.toNat, .int .u8 y2.toNat] 5))
            clear hown hbr hL he h32
            go_region_held3 (fun _ => True)
              (trivial)
              ((refine step_append_rd slU codecU (wr.alloc (.cells #[.int .u8 92, .int .u8 117, .int .u8 48, .int .u8 48, .int .u8 y1.toNat, .int .u8 y2.toNat] 5)).drew (by rfl) (.tmp 38) (.tmp 45) (by rfl) (by rfl) (by rfl) HO2.out HR2.out (by have := HL.out; unfold maxLen; simp only [List.length_cons, List.length_nil] at this ⊢; omega) (by have := HL.out; simp only [List.length_cons, List.length_nil] at this ⊢; omega) (by simp; omega) ?_; intro v1 w1 ho1 hg1 hat1))
            all_goals
              go_wp2_with fail
              go_roundw
              case rel => exact ⟨k + 1, by omega, by go_num, by unfold Hid; rw [HT.out, HX.out]; exact ho1, Below.appended HBW.out.drew hg1 HO2.out (by simp; omega)⟩
              case measure => simp [intOf]; omega
          · have HX : Hid (escL c = [c]) := by unfold Hid escL; rw [he, if_neg (by simp), if_neg h32]
            have h33 : ¬ ((c.toNat : Int) < 32) := by omega
            have h34 : decide ((c.toNat : Int) < 32) = false := by simp; omega
            have HO2 := Lib.hid (hown.out.alloc (.cells #[.int .u8 c.toNat] 5))
            have HR2 : Hid (Rd (wr.alloc (.cells #[.int .u8 c.toNat] 5)) (wr.heap.size + 1) encU 1 (.slice (some ⟨wr.heap.size, 0, none⟩) 1 1) [c]) := Rd.one codecU (heap_alloc_at rfl) rfl (by omega)
            have HBW := Lib.hid (hbr.out.alloc hbr.out.size (.cells #[.int .u8 c.toNat] 5))
            clear hown hbr hL he h32
            go_wp2_with (at_builtin; refine wpList_append_rd slU codecU _ rfl _ _ rfl rfl rfl HO2.out HR2.out (by have := HL.out; unfold maxLen; simp only [List.length_singleton]; omega) (by have := HL.out; simp only [List.length_singleton]; omega) (by simp; omega) ?_; intro v1 w1 ho1 hg1 hat1)
            go_roundw
            case rel => exact ⟨k + 1, by omega, by go_num, by unfold Hid; rw [HT.out, HX.out]; exact ho1, Below.appended HBW.out hg1 HO2.out (by simp; omega)⟩
            case measure => simp [intOf]; omega
        · have he256 : e < 256 := by rw [← he]; unfold escN; have := c.toNat_lt; repeat' split
                                     all_goals omega
          have HX : Hid (escL c = [92, UInt8.ofNat e]) := by unfold Hid escL; rw [he, if_pos h0]
          have hz : ((e : Int) != 0) = true := by simpa using h0
          have hee : ((UInt8.ofNat e).toNat : Int) = (e : Int) := by simp; omega
          have HO2 := Lib.hid (hown.out.alloc (.cells #[.int .u8 92, .int .u8 e] 5))
          have HR2 : Hid (Rd (wr.alloc (.cells #[.int .u8 92, .int .u8 e] 5)) (wr.alloc (.cells #[.int .u8 92, .int .u8 e] 5)).heap.size encU 1 (.slice (some ⟨wr.heap.size, 0, none⟩) 2 2) [92, UInt8.ofNat e]) := rd_bytes (by simp) (heap_alloc_at rfl) (by simp [cellsOf, encU]; omega) rfl (by simp [maxLen])
          have HBW := Lib.hid (hbr.out.alloc hbr.out.size (.cells #[.int .u8 92, .int .u8 e] 5))
          clear hown hbr hL he h0 he256 hee
          go_wp2_with (at_builtin; refine wpList_append_rd slU codecU _ rfl _ _ rfl rfl rfl HO2.out HR2.out (by have := HL.out; unfold maxLen; simp only [List.length_cons, List.length_nil] at this ⊢; omega) (by have := HL.out; simp only [List.length_cons, List.length_nil] at this ⊢; omega) (by simp; omega) ?_; intro v1 w1 ho1 hg1 hat1)
          go_roundw
          case rel => exact ⟨k + 1, by omega, by go_num, by unfold Hid; rw [HT.out, HX.out]; exact ho1, Below.appended HBW.out hg1 HO2.out (by simp; omega)⟩
          case measure => simp [intOf]; omega
      · obtain rfl : k = s.size := by omega
        have hta : s.data.toList.take s.size = s.data.toList := List.take_of_length_le (by rw [str_len]; omega)
        rw [hta] at hown
        have hL : (34 :: quoM s.data.toList).length ≤ 26388279066625 := by
          have h1 := quoM_len s.data.toList
          have h2 := str_len s
          have := HS.out
          simp only [List.length_cons]
          omega
        have HL := Lib.hid hL
        have HB2 := hbr.out.size
        have HO2 := Lib.hid (hown.out.alloc (.cells #[.int .u8 34] 5))
        have HR2 : Hid (Rd (wr.alloc (.cells #[.int .u8 34] 5)) (wr.heap.size + 1) encU 1 (.slice (some ⟨wr.heap.size, 0, none⟩) 1 1) [34]) := Rd.one codecU (heap_alloc_at rfl) rfl (by omega)
        have HBW := Lib.hid (hbr.out.alloc hbr.out.size (.cells #[.int .u8 34] 5))
        clear hown hbr hL hta
        go_wp2_with (at_builtin; refine wpList_append_rd slU codecU _ rfl _ _ rfl rfl rfl HO2.out HR2.out (by have := HL.out; unfold maxLen; simp only [List.length_singleton]; omega) (by have := HL.out; simp only [List.length_singleton]; omega) (by simp; omega) ?_; intro v1 w1 ho1 hg1 hat1; have hcv := str_of_own ho1)
        go_ret2
        exact ⟨by rw [HQ.out.1, HQ.out.2]; rfl, Below.appended HBW.out hg1 HO2.out (by simp; omega)⟩
  · have hne : ((badF s : Int) != (s.size : Int)) = true := by simp; omega
    have HQ : Hid (quoL s = [] ∧ decide (badF s = s.size) = false) := ⟨by unfold quoL; rw [if_neg hok], by simpa using hok⟩
    clear hok
    go_enter Tryz.func89, Tryz.ntmps89
    go_wp2_with (go_at_call 91; refine HB.out.mono ?_; rintro e w1 ⟨rfl, rfl⟩)
    go_ret2
    exact ⟨by rw [HQ.out.1, HQ.out.2]; rfl, Below.refl _ _⟩
end Go.Proofs.YtanemojiaahbgaaGreatDoor
end

section
/- nums.digit and nums.Put: a whole number in digits, walked. -/
set_option linter.unusedSimpArgs false
set_option linter.unusedVariables false
namespace Go.Proofs.YtanemojiaahbgaaGreatDoor
open Go Go.RowKit Go.OpenShut

/-- A number's digits. -/
def natD (n : Nat) : List UInt8 := if n < 10 then [UInt8.ofNat (48 + n)] else natD (n / 10) ++ [UInt8.ofNat (48 + n % 10)]
termination_by n
decreasing_by omega
theorem natD_low {n : Nat} (h : n / 10 = 0) : natD n = [UInt8.ofNat (48 + n % 10)] := by
  rw [natD, if_pos (by omega), Nat.mod_eq_of_lt (by omega)]
theorem natD_high {n : Nat} (h : n / 10 ≠ 0) : natD n = natD (n / 10) ++ [UInt8.ofNat (48 + n % 10)] := by
  rw [natD, if_neg (by omega)]
theorem natD_len : ∀ (k n : Nat), n < 10 ^ (k + 1) → (natD n).length ≤ k + 1
  | 0, n, h => by rw [natD, if_pos (by simpa using h)]; simp
  | k + 1, n, h => by
    by_cases h0 : n / 10 = 0
    · rw [natD_low h0]; simp
    · rw [natD_high h0, List.length_append, List.length_singleton]
      have := natD_len k (n / 10) (by rw [Nat.div_lt_iff_lt_mul (by decide)]; rw [Nat.pow_succ] at h; omega)
      omega
/-- A whole number in digits. -/
def numL (n : Int) : List UInt8 := (if n < 0 then [45] else []) ++ natD n.natAbs
theorem natD_19 {n : Int} (h : (Lit.int .i64 n).wf = true) : (natD n.natAbs).length ≤ 19 := by
  have := bounds_i64 h
  exact natD_len 18 _ (by omega)
theorem numL_len {n : Int} (h : (Lit.int .i64 n).wf = true) : (numL n).length ≤ 20 := by
  unfold numL
  have := natD_19 h
  split <;> simp <;> omega

set_option maxRecDepth 100000 in
theorem digit_any (d : Int) (h1 : -9 ≤ d) (h2 : d ≤ 9) (w : World) : Calls Tryz.prog 79 #[.int .i64 d] w fun e w' => e = .returned (.int .u8 (48 + d.natAbs : Nat)) ∧ w = w' := by
  by_cases h : d < 0
  · have hw : IntKind.u8.wrap (48 - d) = 48 - d := by simp [IntKind.wrap, go_sem]; omega
    go_enter Tryz.func79, Tryz.ntmps79
    go_wp2_with fail
    go_ret
    exact ⟨ret_int1 (by omega), rfl⟩
  · have hw : IntKind.u8.wrap (48 + d) = 48 + d := by simp [IntKind.wrap, go_sem]; omega
    go_enter Tryz.func79, Tryz.ntmps79
    go_wp2_with fail
    go_ret
    exact ⟨ret_int1 (by omega), rfl⟩

/-- The last cells of an array of twenty are these bytes. -/
def NumAt (W : World) (g : Nat) (l : List UInt8) : Prop := ∃ cs : List Value, W.heap[g]? = some (.cells cs.toArray 127 (0, 0)) ∧ cs.length = 20 ∧ l.length ≤ 20 ∧ cs.drop (20 - l.length) = cellsOf encU l
theorem NumAt.frozen {W : World} {g : Nat} {l : List UInt8} (h : NumAt W g l) (q : Nat) : W.frozen? ⟨g, q, none⟩ = false := by
  obtain ⟨cs, h1, _⟩ := h
  simp [World.frozen?, h1]
theorem NumAt.cell {W : World} {g : Nat} {l : List UInt8} (h : NumAt W g l) {q : Nat} (hq : q < 20) : ∃ v, W.cell? ⟨g, q, none⟩ = some v := by
  obtain ⟨cs, h1, h2, _⟩ := h
  rw [cell_of_row W g q _ _ _ h1]
  exact ⟨cs[q], by simp⟩
theorem NumAt.store {W : World} {g : Nat} {l : List UInt8} (h : NumAt W g l) {q : Nat} (hq : l.length + q + 1 = 20) (c : UInt8) : NumAt (W.setCell ⟨g, q, none⟩ (.int .u8 c.toNat)) g (c :: l) := by
  obtain ⟨cs, h1, h2, h3, h4⟩ := h
  refine ⟨cs.set q (.int .u8 c.toNat), ?_, by simpa using h2, by simp; omega, ?_⟩
  · simp [World.setCell, Array.getElem?_modify, h1]
  · have e1 : 20 - (c :: l).length = q := by simp; omega
    have e2 : 20 - l.length = q + 1 := by omega
    rw [e1]
    rw [e2] at h4
    rw [List.drop_eq_getElem_cons (by simp; omega), List.drop_set_of_lt (by omega), h4]
    simp [cellsOf, encU]
theorem NumAt.str {W : World} {g : Nat} {l : List UInt8} (h : NumAt W g l) {p n : Nat} (hp : l.length + p = 20) (hn : n = l.length) (c : Nat) : (convert 87 9 (.slice (some ⟨g, p, none⟩) n c)).run Tryz.prog W = .ok (.string (toB l)) W := by
  subst hn
  obtain ⟨cs, h1, h2, h3, h4⟩ := h
  refine run_convert_bytes_back W _ _ _ _ c l Tryz.underlying87 Tryz.underlying5 Tryz.underlying9 (fun j hj => ?_)
  have e : (⟨g, p, none⟩ : Addr).add j = ⟨g, p + j, none⟩ := by simp [Addr.add]
  rw [e, cell_of_row W g (p + j) _ _ _ h1]
  have e2 : 20 - l.length = p := by omega
  rw [e2] at h4
  have h5 := congrArg (fun x => x[j]?) h4
  simp only [List.getElem?_drop] at h5
  rw [← Array.getElem?_toList]
  simp only [h5]
  rw [cells_bytes, List.getElem?_map, List.getElem?_eq_getElem hj]
  rfl

theorem slice20 (W : World) (g q : Nat) (hq : q < 20) : (Instr.sliceAt 127 (.pointer (some ⟨g, 0, none⟩)) (some (.int .i64 (q : Int))) none none).run Tryz.prog W = .ok (.slice (some ⟨g, q, none⟩) (20 - q) (20 - q)) W := by
  have hal : Tryz.prog.arrayLen 127 = 20 := by kernel_rfl
  have hel : Tryz.prog.elem 127 = 5 := by kernel_rfl
  have hty : Tryz.prog.underlying 127 = some (.array (Tryz.prog.arrayLen 127) (Tryz.prog.elem 127)) := by kernel_rfl
  have hsz : ∀ w : World, (Go.sizeOf 5).run Tryz.prog w = .ok 1 w := fun w => by
    obtain ⟨i, hi, hz, hs1, hby⟩ := info_parts infoU
    simp [Go.sizeOf, typeInfo, hi, hs1]
  rw [run_sliceAt_array_l (P := Tryz.prog) W 127 ⟨g, 0, none⟩ hty .i64 (q : Int) (by omega) (by rw [hal]; omega), hel, hsz]
  simp only [Result.andThen_ok, hal, slicedAt, Int.toNat_natCast, Nat.mul_one]
  rw [if_neg (by omega)]
  simp [Addr.add]
  try omega
def PutRet (w : World) (n : Int) (e : Ending) (w' : World) : Prop := e = .returned (.string (toB (numL n))) ∧ Below w.heap.size w w'
set_option maxRecDepth 100000 in
set_option maxHeartbeats 4000000 in
theorem put_any3 (n : Int) (w : World) (hn : (Lit.int .i64 n).wf = true) : Calls Tryz.prog 61 #[.int .i64 n] w (PutRet w n) := by
  have h19 := natD_19 hn
  have hbd := bounds_i64 hn
  have hN0 : NumAt (w.alloc (.cells #[.int .u8 0, .int .u8 0, .int .u8 0, .int .u8 0, .int .u8 0, .int .u8 0, .int .u8 0, .int .u8 0, .int .u8 0, .int .u8 0, .int .u8 0, .int .u8 0, .int .u8 0, .int .u8 0, .int .u8 0, .int .u8 0, .int .u8 0, .int .u8 0, .int .u8 0, .int .u8 0] 127)) w.heap.size [] :=
    ⟨[.int .u8 0, .int .u8 0, .int .u8 0, .int .u8 0, .int .u8 0, .int .u8 0, .int .u8 0, .int .u8 0, .int .u8 0, .int .u8 0, .int .u8 0, .int .u8 0, .int .u8 0, .int .u8 0, .int .u8 0, .int .u8 0, .int .u8 0, .int .u8 0, .int .u8 0, .int .u8 0], heap_alloc_at rfl, rfl, by simp, rfl⟩
  have hB0 : Below w.heap.size w (w.alloc (.cells #[.int .u8 0, .int .u8 0, .int .u8 0, .int .u8 0, .int .u8 0, .int .u8 0, .int .u8 0, .int .u8 0, .int .u8 0, .int .u8 0, .int .u8 0, .int .u8 0, .int .u8 0, .int .u8 0, .int .u8 0, .int .u8 0, .int .u8 0, .int .u8 0, .int .u8 0, .int .u8 0] 127)) := (Below.refl _ _).alloc (Nat.le_refl _) _
  have H19 := Lib.hid h19
  have HN0 := Lib.hid hN0
  have HB0 := Lib.hid hB0
  clear h19 hN0 hB0 hn
  go_enter Tryz.func61, Tryz.ntmps61
  go_upto_region 3 with fail
  obtain ⟨W0, hW0⟩ : ∃ W0, (w.alloc (.cells #[.int .u8 0, .int .u8 0, .int .u8 0, .int .u8 0, .int .u8 0, .int .u8 0, .int .u8 0, .int .u8 0, .int .u8 0, .int .u8 0, .int .u8 0, .int .u8 0, .int .u8 0, .int .u8 0, .int .u8 0, .int .u8 0, .int .u8 0, .int .u8 0, .int .u8 0, .int .u8 0] 127)) = W0 := ⟨_, rfl⟩
  rw [hW0] at HN0 HB0 ⊢
  clear hW0
  go_wp2_with fail
  go_loopw [4, 5] (fun a r wr => ∃ (q : Nat) (m : Int) (l : List UInt8), l.length + q + 1 = 20 ∧ a = .int .i64 ((q : Int) + 1) ∧ r = .int .i64 m ∧ -9223372036854775808 ≤ m ∧ m ≤ 9223372036854775807 ∧ Hid (natD n.natAbs = natD m.natAbs ++ l) ∧ Hid (NumAt wr w.heap.size l) ∧ Hid (Below w.heap.size w wr)) (fun _ r _ => (intOf r).natAbs)
  case atStart => exact ⟨19, n, [], rfl, rfl, rfl, hbd.1, hbd.2, by simp [Hid], HN0.out, HB0.out⟩
  case round =>
    obtain ⟨q, m, l, hq, rfl, rfl, hm1, hm2, hd, hna, hbr⟩ := hrel
    have hq0 : (0 : Int) ≤ (q : Int) := Int.natCast_nonneg _
    have hq20 : (q : Int) < 20 := by omega
    have hqn : q < 20 := by omega
    have hw1 : IntKind.i64.wrap ((q : Int) + 1 - 1) = (q : Int) := by rw [IntKind.wrap_i64]; omega
    have hta : (m.tmod 10).natAbs = m.natAbs % 10 := Int.natAbs_tmod m 10
    have htd : (m.tdiv 10).natAbs = m.natAbs / 10 := Int.natAbs_tdiv m 10
    have hdg : Hid (∀ w : World, Calls Tryz.prog 79 #[.int .i64 (m.tmod 10)] w fun e w' => e = .returned (.int .u8 (48 + (m.tmod 10).natAbs : Nat)) ∧ w = w') := fun w => digit_any (m.tmod 10) (by omega) (by omega) w
    obtain ⟨v0, hv0⟩ := hna.out.cell hqn
    have hf0 := hna.out.frozen q
    have hc8 : ((UInt8.ofNat (48 + m.natAbs % 10)).toNat : Int) = 48 + (m.natAbs : Int) % 10 := by simp; omega
    have hst := hna.out.store hq (UInt8.ofNat (48 + m.natAbs % 10))
    rw [hc8] at hst
    have HST := Lib.hid hst
    have HBW := Lib.hid (hbr.out.setCell (p := ⟨w.heap.size, q, none⟩) (Nat.le_refl _) (.int .u8 (48 + (m.natAbs : Int) % 10)))
    clear hst hc8
    go_upto_region 7 with (go_at_call 79; refine (hdg.out _).mono ?_; rintro e w1 ⟨rfl, rfl⟩)
    obtain ⟨W1, hW1⟩ : ∃ W1, (wr.setCell ⟨w.heap.size, q, none⟩ (.int .u8 (48 + (m.natAbs : Int) % 10))) = W1 := ⟨_, rfl⟩
    rw [hW1] at HST HBW ⊢
    clear hW1 hv0 hf0 hna hbr hdg hw1
    have hw2 : IntKind.i64.wrap (m.tdiv 10) = m.tdiv 10 := by rw [IntKind.wrap_i64] <;> omega
    by_cases h0 : m.natAbs / 10 = 0
    · have hz : (m.tdiv 10 == 0) = true := by simp; omega
      have HD : Hid (natD n.natAbs = UInt8.ofNat (48 + m.natAbs % 10) :: l) := by have := hd.out; rw [natD_low h0] at this; exact this
      have h19 := H19.out
      rw [HD.out] at h19
      simp only [List.length_cons] at h19
      obtain ⟨c1, hc1⟩ : ∃ c, UInt8.ofNat (48 + m.natAbs % 10) = c := ⟨_, rfl⟩
      rw [hc1] at HD HST
      clear hd h0 hta htd hc1
      by_cases hneg : n < 0
      · have hgn : ((45 : UInt8).toNat : Int) = 45 := rfl
        obtain ⟨q, rfl⟩ : ∃ q', q = q' + 1 := ⟨q - 1, by omega⟩
        have hw3 : IntKind.i64.wrap ((q : Int) + 1 - 1) = (q : Int) := by rw [IntKind.wrap_i64]; omega
        have hw4 : (q : Int) + 1 - 1 = (q : Int) := by omega
        have hqq : (q : Int) < 20 := by omega
        have hqq0 : (0 : Int) ≤ (q : Int) := Int.natCast_nonneg _
        obtain ⟨v1, hv1⟩ := HST.out.cell (q := q) (by omega)
        have hf1 := HST.out.frozen q
        have HS2 : Hid (NumAt (W1.setCell ⟨w.heap.size, q, none⟩ (.int .u8 45)) w.heap.size (45 :: c1 :: l)) := HST.out.store (q := q) (by simp; omega) 45
        have HB2 : Hid (Below w.heap.size w (W1.setCell ⟨w.heap.size, q, none⟩ (.int .u8 45))) := HBW.out.setCell (p := ⟨w.heap.size, q, none⟩) (Nat.le_refl _) _
        have hcv := HS2.out.str (p := q) (n := 20 - q) (by simp; omega) (by simp; omega) (20 - q)
        have HP : Hid (numL n = 45 :: c1 :: l) := by unfold Hid numL; rw [if_pos hneg, HD.out]; rfl
        have hq3 : (20 : Int) - (q : Int) = ((20 - q : Nat) : Int) := by omega
        have hsl := slice20 (W1.setCell ⟨w.heap.size, q, none⟩ (.int .u8 45)) w.heap.size q (by omega)
        push_cast
        go_wp2_with fail
        go_ret
        exact ⟨by rw [HP.out]; rfl, HB2.out⟩
      · have hcv := HST.out.str (p := q) (n := 20 - q) (by simp; omega) (by simp; omega) (20 - q)
        have HP : Hid (numL n = c1 :: l) := by unfold Hid numL; rw [if_neg hneg, HD.out]; rfl
        have hsl := slice20 W1 w.heap.size q hqn
        go_wp2_with fail
        go_ret
        exact ⟨by rw [HP.out]; rfl, HBW.out⟩
    · have hz : (m.tdiv 10 == 0) = false := by simp; omega
      have HD : Hid (natD n.natAbs = natD (m.tdiv 10).natAbs ++ (UInt8.ofNat (48 + m.natAbs % 10) :: l)) := by have := hd.out; rw [natD_high h0] at this; unfold Hid; rw [htd, this]; simp
      have h19 := H19.out
      rw [HD.out] at h19
      simp only [List.length_append, List.length_cons] at h19
      have hln : 1 ≤ (natD (m.tdiv 10).natAbs).length := by rw [natD]; split <;> simp
      obtain ⟨q, rfl⟩ : ∃ q', q = q' + 1 := ⟨q - 1, by omega⟩
      have hk1 : -9223372036854775808 ≤ m.tdiv 10 := by omega
      have hk2 : m.tdiv 10 ≤ 9223372036854775807 := by omega
      clear hd
      go_wp2_with fail
      go_roundw
      case rel => exact ⟨q, m.tdiv 10, _, by simp; omega, by push_cast; rfl, rfl, hk1, hk2, HD, HST, HBW⟩
      case measure => (have : (m.tdiv 10).natAbs < m.natAbs := by omega); exact this
end Go.Proofs.YtanemojiaahbgaaGreatDoor
end
