/- The stable sort. -/
import Derived.Test.YthgkgjcnmahacaaSortM5
import Derived.Test.YthgkgjcnmahacaaStab2
set_option linter.unusedSimpArgs false
set_option linter.unusedVariables false
namespace Go.Proofs.Ythgkgjcnmahacaa
open Go.Shelf Go.RowKit Go.Lib Go.Sort
namespace SM
variable {P : Program} {α : Type} [Inhabited α]

/-- What a comparison asks of the world: nothing; it may lay blocks of its own. -/
def CmpAny (P : Program) (g : Nat) (cb : Array Value) (enc : α → List Value) (cf : α → α → Int) : Prop :=
  ∀ (W : World) (x y : α), Calls P g (#[.agg (enc x).toArray, .agg (enc y).toArray] ++ cb) W fun e w' => e = .returned (.int .i64 (cf x y)) ∧ ∃ q os', w' = grow (W.drewN q) os'

theorem ins_z (k : Nat) (L : Lays P k) (enc : α → List Value) (cf : α → α → Int) (g : Nat) (cb : Array Value) (blk off cap a b : Nat) (d0 d : Array α) (w0 w : World)
    (eg : ∀ args w, (callFunc g args).run P w = .ok (.enter g args) w) (hcmp : CmpAny P g cb enc cf)
    (R : RowK enc k w0 blk off d0) (hs : d0.size = d.size) (S : SWK enc k w0 blk off d w) (hab : a ≤ b) (hb : b ≤ d.size) (hsz : d.size < 4611686018427387904) (s : Nat) (az bz : Int) (h0 : s = d.size) (h1 : az = a) (h2 : bz = b) :
    Calls P 113 #[.slice (some ⟨blk, off, none⟩) s cap, .int .i64 az, .int .i64 bz, .func (.func g) #[] cb] w fun e w' => e = .returned (.tuple #[]) ∧ SWK enc k w0 blk off (insertionSort (ltOf cf) d a b) w' := by
  subst h0 h1 h2
  have h := AnyQ.insertionSortCmpFunc L.ins k L.aE L.zE enc R.hk R.h1 cf g cb blk off cap a b d w eg (fun _ _ _ _ x y => hcmp _ x y) (S.holds R.hblk R.hH hs.symm) (S.lt R.hblk) hab hb hsz
  refine h.mono ?_
  rintro e w' ⟨rfl, n, os, rfl⟩
  refine ⟨rfl, S.on R.hblk n _ os ?_⟩
  have : ∀ a b n i (dk : Array α), b - i ≤ n → (insOuter (ltOf cf) a b i dk).size = dk.size := by
    intro a b n
    induction n with
    | zero => intro i dk hn; rw [insOuter_stop _ _ _ _ _ (by omega)]
    | succ n ih =>
      intro i dk hn
      by_cases hi : i < b
      · rw [insOuter_go _ _ _ _ _ hi, ih _ _ (by omega)]
        have : ∀ (j : Nat) (dk : Array α), (insInner (ltOf cf) a j dk).size = dk.size := by
          intro j
          induction j with
          | zero => intro dk; rfl
          | succ j ihj => intro dk; unfold insInner; split <;> simp [ihj, size_swp]
        exact this _ _
      · rw [insOuter_stop _ _ _ _ _ hi]
  exact this a b _ _ d (Nat.le_refl _)

theorem sym_z (k : Nat) (L : Lays P k) (enc : α → List Value) (cf : α → α → Int) (lt : α → α → Bool) (Sw : SWO lt) (g : Nat) (cb : Array Value) (blk off cap a m b : Nat) (d0 d : Array α) (w0 w : World)
    (eg : ∀ args w, (callFunc g args).run P w = .ok (.enter g args) w) (hcmp : CmpAny P g cb enc cf)
    (R : RowK enc k w0 blk off d0) (hs : d0.size = d.size) (S : SWK enc k w0 blk off d w) (ham : a < m) (hmb : m < b) (hb : b ≤ d.size) (hsz : d.size < 4611686018427387904) (hpre : SymPre cf lt d a m b) (s : Nat) (az mz bz : Int) (h0 : s = d.size) (h1 : az = a) (h2 : mz = m) (h3 : bz = b) :
    Calls P 114 #[.slice (some ⟨blk, off, none⟩) s cap, .int .i64 az, .int .i64 mz, .int .i64 bz, .func (.func g) #[] cb] w (SymPost enc k w0 blk off lt d a b) := by
  subst h0 h1 h2 h3
  exact sym_any k L enc cf lt Sw g cb blk off cap d0 w0 eg (fun _ _ _ _ x y => hcmp _ x y) R (by omega) (b - a) a m b d w (Nat.le_refl _) hs S ham hmb hb hpre

def StabPost (enc : α → List Value) (k : Nat) (w0 : World) (blk off : Nat) (lt : α → α → Bool) (d : Array α) (e : Ending) (w' : World) : Prop :=
  e = .returned (.tuple #[]) ∧ ∃ d' : Array α, SWK enc k w0 blk off d' w' ∧ PermIn 0 d.size d d' ∧ SortedIn lt 0 d.size d'

set_option maxHeartbeats 8000000 in
set_option maxRecDepth 1000000 in
theorem stable_any (k : Nat) (L : Lays P k) (enc : α → List Value) (cf : α → α → Int) (lt : α → α → Bool) (Sw : SWO lt) (tg : α → Nat) (hct : ∀ x y, tg x < tg y → ltOf cf y x = lt y x) (g : Nat) (cb : Array Value) (blk off cap : Nat) (d0 : Array α) (w0 : World)
    (eg : ∀ args w, (callFunc g args).run P w = .ok (.enter g args) w) (hcmp : CmpAny P g cb enc cf)
    (R : RowK enc k w0 blk off d0) (htg : ∀ t, t < d0.size → tg d0[t]! = t) (hsz : d0.size < 1152921504606846976) :
    Calls P 88 #[.slice (some ⟨blk, off, none⟩) d0.size cap, .int .i64 d0.size, .func (.func g) #[] cb] w0 (StabPost enc k w0 blk off lt d0) := by
  have mixed := L.mixed; have aE := L.aE; have zE := L.zE; have t0 := L.t0; have a0 := L.a0; have z0 := L.z0; have v0 := L.v0; have t3 := L.t3; have a3 := L.a3; have z3 := L.z3; have v3 := L.v3; have t4 := L.t4; have a4 := L.a4; have z4 := L.z4; have v4 := L.v4; have tu := L.tu; have au := L.au; have zu := L.zu; have vu := L.vu; have tS := L.tS; have aS := L.aS; have zS := L.zS; have vS := L.vS; have tC := L.tC; have aC := L.aC; have zC := L.zC; have vC := L.vC
  have FG := L.fStab
  have eIns : ∀ args w, (callFunc 113 args).run P w = .ok (.enter 113 args) w := L.ins.f20.enters rfl
  have eSym : ∀ args w, (callFunc 114 args).run P w = .ok (.enter 114 args) w := enters_of L.fSym (by kernel_rfl) rfl
  have S0 : Aside (SWK enc k w0 blk off d0 w0) := SWK.start R.hH
  have HC : Aside _ := hcmp
  have HCT := Lib.hid hct
  have HTG := Lib.hid htg
  have HSW := Lib.hid Sw
  clear hcmp hct htg Sw
  go_enter FG, Try.ntmps88
  go_wp2_with fail
  go_loopg [7, 8] d0.size (fun kx s7 s8 wr => ∃ (q a : Nat) (d : Array α), s7 = .int .i64 a ∧ s8 = .int .i64 ((a : Int) + 20) ∧ a ≤ d0.size ∧ d0.size - a ≤ kx ∧ d.size = d0.size ∧ Aside (SWK enc k w0 blk off d wr) ∧ Hid (Stage1 lt tg d0 d d0.size q a))
  case atStart => exact ⟨0, 0, d0, rfl, by first | rfl | go_num, Nat.zero_le _, by omega, rfl, S0, stage1_start lt tg d0 d0.size⟩
  case round =>
    clear S0
    obtain ⟨q, a, d, rfl, rfl, ha, hkx, hds, S1, H1⟩ := hrel
    by_cases hlt : a + 20 ≤ d0.size
    · have hltz : (a : Int) + 20 ≤ (d0.size : Int) := by omega
      have HN := Lib.hid (stage1_ins HSW.out HCT.out HTG.out H1.out (a + 20) (by omega) hlt (by omega) (by omega))
      obtain ⟨hz, HST, _⟩ := HN.out
      have HST' := Lib.hid (HST rfl)
      clear HST HN
      go_wp2_with fail
      refine (ins_z k L enc cf g cb blk off cap a (a + 20) d0 d w0 _ eg HC.out R hds.symm S1.out (by omega) (by omega) (by omega) _ _ _ hds.symm rfl (by omega)).mono ?_
      rintro e w1 ⟨rfl, S2⟩
      have S2' : Aside (SWK enc k w0 blk off (insertionSort (ltOf cf) d a (a + 20)) w1) := S2
      clear S1 S2
      go_wp2_with fail
      go_roundg (d0.size - (a + 20))
      case measure => omega
      case rel => exact ⟨q + 1, a + 20, _, by first | rfl | go_num, by first | rfl | go_num, by omega, by omega, by rw [hz]; exact hds, S2', HST'⟩
    · have hltz : ¬ (a : Int) + 20 ≤ (d0.size : Int) := by omega
      have HN := Lib.hid (stage1_ins HSW.out HCT.out HTG.out H1.out d0.size ha (Nat.le_refl _) (by omega) (by omega))
      obtain ⟨hz, _, HST⟩ := HN.out
      have HST' := Lib.hid (HST rfl)
      clear HST HN
      go_wp2_with fail
      refine (ins_z k L enc cf g cb blk off cap a d0.size d0 d w0 _ eg HC.out R hds.symm S1.out (by omega) (by omega) (by omega) _ _ _ hds.symm rfl rfl).mono ?_
      rintro e w1 ⟨rfl, S2⟩
      have S2' : Aside (SWK enc k w0 blk off (insertionSort (ltOf cf) d a d0.size) w1) := S2
      have hz2 : (insertionSort (ltOf cf) d a d0.size).size = d0.size := hz.trans hds
      generalize insertionSort (ltOf cf) d a d0.size = e1 at HST' S2' hz2
      clear S1 S2 hz
      go_wp2_with fail
      go_loopg [6] d0.size (fun kx s6 wr => ∃ (bs : Nat) (d : Array α), s6 = .int .i64 bs ∧ 20 ≤ bs ∧ bs ≤ 2 * d0.size + 20 ∧ d0.size - bs ≤ kx ∧ d.size = d0.size ∧ Aside (SWK enc k w0 blk off d wr) ∧ Hid (BlkFrom lt tg bs d0.size 0 d ∧ PermIn 0 d0.size d0 d))
      case atStart => exact ⟨20, e1, rfl, Nat.le_refl _, by omega, by omega, hz2, S2', HST'⟩
      case round =>
        clear S2' HST' hz2
        obtain ⟨bs, d, rfl, hb1, hb2, hkx, hds, S1, H1⟩ := hrel
        by_cases hlt : bs < d0.size
        · have hltz : (bs : Int) < (d0.size : Int) := by omega
          go_wp2_with fail
          have HS2 := Lib.hid (stage2_start H1.out.1 H1.out.2)
          clear H1
          go_loopg [7, 8] d0.size (fun kx s7 s8 wr => ∃ (q a2 : Nat) (d : Array α), s7 = .int .i64 a2 ∧ s8 = .int .i64 ((a2 : Int) + 2 * (bs : Int)) ∧ a2 ≤ d0.size ∧ d0.size - a2 ≤ kx ∧ d.size = d0.size ∧ Aside (SWK enc k w0 blk off d wr) ∧ Hid (Stage2 lt tg d0 d d0.size bs q a2))
          case atStart => exact ⟨0, 0, d, rfl, by first | rfl | (congr 1; omega), Nat.zero_le _, by omega, hds, S1, HS2⟩
          case round =>
            clear S1 HS2 hds
            obtain ⟨q, a2, d, rfl, rfl, ha2, hkx2, hds, S1, H1⟩ := hrel
            by_cases hlt2 : a2 + 2 * bs ≤ d0.size
            · have hltz2 : (a2 : Int) + 2 * (bs : Int) ≤ (d0.size : Int) := by omega
              have HP := Lib.hid (stage2_pre HCT.out H1.out (a2 + 2 * bs) (by omega) (by omega))
              go_wp2_with fail
              refine (sym_z k L enc cf lt HSW.out g cb blk off cap a2 (a2 + bs) (a2 + 2 * bs) d0 d w0 _ eg HC.out R hds.symm S1.out (by omega) (by omega) (by omega) (by omega) ⟨HP.out.1, HP.out.2.1, HP.out.2.2.1⟩ _ _ _ _ hds.symm rfl (by omega) (by omega)).mono ?_
              rintro e w1 ⟨rfl, d', S2, hp, hs⟩
              have S2' : Aside (SWK enc k w0 blk off d' w1) := S2
              have hds' : d'.size = d0.size := hp.1.trans hds
              have HST := Lib.hid ((stage2_step (by omega) H1.out (a2 + 2 * bs) (by omega) (by omega) (by omega) HP.out.2.2.2.1 HP.out.2.2.2.2 hp hs).1 rfl)
              clear S1 S2 hp hs
              go_wp2_with fail
              go_roundg (d0.size - (a2 + 2 * bs))
              case measure => omega
              case rel => exact ⟨q + 1, a2 + 2 * bs, d', by first | rfl | (congr 1; omega), by first | rfl | (congr 1; omega), by omega, by omega, hds', S2', HST⟩
            · have hltz2 : ¬ (a2 : Int) + 2 * (bs : Int) ≤ (d0.size : Int) := by omega
              by_cases hm : a2 + bs < d0.size
              · have hmz : (a2 : Int) + (bs : Int) < (d0.size : Int) := by omega
                have HP := Lib.hid (stage2_pre HCT.out H1.out d0.size (by omega) hm)
                go_wp2_with fail
                refine (sym_z k L enc cf lt HSW.out g cb blk off cap a2 (a2 + bs) d0.size d0 d w0 _ eg HC.out R hds.symm S1.out (by omega) hm (by omega) (by omega) ⟨HP.out.1, HP.out.2.1, HP.out.2.2.1⟩ _ _ _ _ hds.symm rfl (by omega) rfl).mono ?_
                rintro e w1 ⟨rfl, d', S2, hp, hs⟩
                have S2' : Aside (SWK enc k w0 blk off d' w1) := S2
                have hds' : d'.size = d0.size := hp.1.trans hds
                have HST := stage2_step (by omega) H1.out d0.size (by omega) hm (by omega) HP.out.2.2.2.1 HP.out.2.2.2.2 hp hs
                have HEND : Hid (BlkFrom lt tg (2 * bs) d0.size 0 d' ∧ PermIn 0 d0.size d0 d') := ⟨stage2_end HST.2.1 (by have := H1.out.1; omega), HST.2.2⟩
                clear S1 S2 hp hs HST
                go_wp2_with fail
                go_roundg (d0.size - 2 * bs)
                case measure => omega
                case rel => exact ⟨2 * bs, d', by first | rfl | (congr 1; omega), by omega, by omega, by omega, hds', S2', HEND⟩
              · have hmz : ¬ (a2 : Int) + (bs : Int) < (d0.size : Int) := by omega
                have HEND : Hid (BlkFrom lt tg (2 * bs) d0.size 0 d ∧ PermIn 0 d0.size d0 d) := ⟨stage2_end (stage2_none H1.out (by omega)) (by have := H1.out.1; omega), H1.out.2.2.2⟩
                go_wp2_with fail
                go_roundg (d0.size - 2 * bs)
                case measure => omega
                case rel => exact ⟨2 * bs, d, by first | rfl | (congr 1; omega), by omega, by omega, by omega, hds, S1, HEND⟩
        · have hltz : ¬ (bs : Int) < (d0.size : Int) := by omega
          have HF := Lib.hid (blk_sorted H1.out.1 (by omega))
          go_wp2_with fail
          go_end0
          exact ⟨rfl, d, S1.out, H1.out.2, HF.out⟩
end SM
end Go.Proofs.Ythgkgjcnmahacaa
