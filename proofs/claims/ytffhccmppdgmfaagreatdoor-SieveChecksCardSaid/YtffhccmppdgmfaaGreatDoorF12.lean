import Derived.Test.YtffhccmppdgmfaaGreatDoorF10
import Derived.Test.YtffhccmppdgmfaaGreatDoorF09
import Derived.Test.YtffhccmppdgmfaaGreatDoorF03
import Derived.Test.YtffhccmppdgmfaaGreatDoorF02
import Derived.BigQuiet
import Derived.Test.YtffhccmppdgmfaaGreatDoorF05
set_option linter.unusedSimpArgs false
set_option linter.unusedVariables false
set_option maxRecDepth 200000
set_option maxHeartbeats 8000000
namespace Go.Proofs.YtffhccmppdgmfaaGreatDoor
section
open Go Go.RowKit Go.OpenShut
def sortN (n : ByteArray) : Int := if isFieldB n then 1 else if n = svInBook then 2 else if stampB n then 3 else if (n = svUid \/ n = svHasMem \/ n = kindN) then 4 else 0
theorem rsort_any (s : ByteArray) (w : World) : Calls Tryz.prog 89 #[.string s] w fun e w' => e = .returned (.int .i64 (sortN s)) /\ w = w' := by
 by_cases h0 : s = ⟨#[110, 97, 109, 101]⟩
 ·subst h0
  have e0 : ((⟨#[110, 97, 109, 101]⟩ : ByteArray).toList == [110, 97, 109, 101]) = true := by (rw [<- bytes_dec]; decide)
  have hv : sortN (⟨#[110, 97, 109, 101]⟩) = 1 := by decide
  rw [hv]
  clear hv
  go_enter Tryz.func89, Tryz.ntmps89
  go_wp2_with fail
  go_ret
  exact ⟨rfl, rfl⟩
 by_cases h1 : s = ⟨#[110, 97, 109, 101, 47, 103, 105, 118, 101, 110]⟩
 ·subst h1
  have e0 : ((⟨#[110, 97, 109, 101, 47, 103, 105, 118, 101, 110]⟩ : ByteArray).toList == [110, 97, 109, 101]) = false := by (rw [<- bytes_dec]; decide)
  have e1 : ((⟨#[110, 97, 109, 101, 47, 103, 105, 118, 101, 110]⟩ : ByteArray).toList == [110, 97, 109, 101, 47, 103, 105, 118, 101, 110]) = true := by (rw [<- bytes_dec]; decide)
  have hv : sortN (⟨#[110, 97, 109, 101, 47, 103, 105, 118, 101, 110]⟩) = 1 := by decide
  rw [hv]
  clear hv
  go_enter Tryz.func89, Tryz.ntmps89
  go_wp2_with fail
  go_ret
  exact ⟨rfl, rfl⟩
 by_cases h2 : s = ⟨#[110, 97, 109, 101, 47, 115, 117, 114, 110, 97, 109, 101]⟩
 ·subst h2
  have e0 : ((⟨#[110, 97, 109, 101, 47, 115, 117, 114, 110, 97, 109, 101]⟩ : ByteArray).toList == [110, 97, 109, 101]) = false := by (rw [<- bytes_dec]; decide)
  have e1 : ((⟨#[110, 97, 109, 101, 47, 115, 117, 114, 110, 97, 109, 101]⟩ : ByteArray).toList == [110, 97, 109, 101, 47, 103, 105, 118, 101, 110]) = false := by (rw [<- bytes_dec]; decide)
  have e2 : ((⟨#[110, 97, 109, 101, 47, 115, 117, 114, 110, 97, 109, 101]⟩ : ByteArray).toList == [110, 97, 109, 101, 47, 115, 117, 114, 110, 97, 109, 101]) = true := by (rw [<- bytes_dec]; decide)
  have hv : sortN (⟨#[110, 97, 109, 101, 47, 115, 117, 114, 110, 97, 109, 101]⟩) = 1 := by decide
  rw [hv]
  clear hv
  go_enter Tryz.func89, Tryz.ntmps89
  go_wp2_with fail
  go_ret
  exact ⟨rfl, rfl⟩
 by_cases h3 : s = ⟨#[110, 105, 99, 107, 110, 97, 109, 101]⟩
 ·subst h3
  have e0 : ((⟨#[110, 105, 99, 107, 110, 97, 109, 101]⟩ : ByteArray).toList == [110, 97, 109, 101]) = false := by (rw [<- bytes_dec]; decide)
  have e1 : ((⟨#[110, 105, 99, 107, 110, 97, 109, 101]⟩ : ByteArray).toList == [110, 97, 109, 101, 47, 103, 105, 118, 101, 110]) = false := by (rw [<- bytes_dec]; decide)
  have e2 : ((⟨#[110, 105, 99, 107, 110, 97, 109, 101]⟩ : ByteArray).toList == [110, 97, 109, 101, 47, 115, 117, 114, 110, 97, 109, 101]) = false := by (rw [<- bytes_dec]; decide)
  have e3 : ((⟨#[110, 105, 99, 107, 110, 97, 109, 101]⟩ : ByteArray).toList == [110, 105, 99, 107, 110, 97, 109, 101]) = true := by (rw [<- bytes_dec]; decide)
  have hv : sortN (⟨#[110, 105, 99, 107, 110, 97, 109, 101]⟩) = 1 := by decide
  rw [hv]
  clear hv
  go_enter Tryz.func89, Tryz.ntmps89
  go_wp2_with fail
  go_ret
  exact ⟨rfl, rfl⟩
 by_cases h4 : s = ⟨#[111, 114, 103, 97, 110, 105, 122, 97, 116, 105, 111, 110]⟩
 ·subst h4
  have e0 : ((⟨#[111, 114, 103, 97, 110, 105, 122, 97, 116, 105, 111, 110]⟩ : ByteArray).toList == [110, 97, 109, 101]) = false := by (rw [<- bytes_dec]; decide)
  have e1 : ((⟨#[111, 114, 103, 97, 110, 105, 122, 97, 116, 105, 111, 110]⟩ : ByteArray).toList == [110, 97, 109, 101, 47, 103, 105, 118, 101, 110]) = false := by (rw [<- bytes_dec]; decide)
  have e2 : ((⟨#[111, 114, 103, 97, 110, 105, 122, 97, 116, 105, 111, 110]⟩ : ByteArray).toList == [110, 97, 109, 101, 47, 115, 117, 114, 110, 97, 109, 101]) = false := by (rw [<- bytes_dec]; decide)
  have e3 : ((⟨#[111, 114, 103, 97, 110, 105, 122, 97, 116, 105, 111, 110]⟩ : ByteArray).toList == [110, 105, 99, 107, 110, 97, 109, 101]) = false := by (rw [<- bytes_dec]; decide)
  have e4 : ((⟨#[111, 114, 103, 97, 110, 105, 122, 97, 116, 105, 111, 110]⟩ : ByteArray).toList == [111, 114, 103, 97, 110, 105, 122, 97, 116, 105, 111, 110]) = true := by (rw [<- bytes_dec]; decide)
  have hv : sortN (⟨#[111, 114, 103, 97, 110, 105, 122, 97, 116, 105, 111, 110]⟩) = 1 := by decide
  rw [hv]
  clear hv
  go_enter Tryz.func89, Tryz.ntmps89
  go_wp2_with fail
  go_ret
  exact ⟨rfl, rfl⟩
 by_cases h5 : s = ⟨#[101, 109, 97, 105, 108]⟩
 ·subst h5
  have e0 : ((⟨#[101, 109, 97, 105, 108]⟩ : ByteArray).toList == [110, 97, 109, 101]) = false := by (rw [<- bytes_dec]; decide)
  have e1 : ((⟨#[101, 109, 97, 105, 108]⟩ : ByteArray).toList == [110, 97, 109, 101, 47, 103, 105, 118, 101, 110]) = false := by (rw [<- bytes_dec]; decide)
  have e2 : ((⟨#[101, 109, 97, 105, 108]⟩ : ByteArray).toList == [110, 97, 109, 101, 47, 115, 117, 114, 110, 97, 109, 101]) = false := by (rw [<- bytes_dec]; decide)
  have e3 : ((⟨#[101, 109, 97, 105, 108]⟩ : ByteArray).toList == [110, 105, 99, 107, 110, 97, 109, 101]) = false := by (rw [<- bytes_dec]; decide)
  have e4 : ((⟨#[101, 109, 97, 105, 108]⟩ : ByteArray).toList == [111, 114, 103, 97, 110, 105, 122, 97, 116, 105, 111, 110]) = false := by (rw [<- bytes_dec]; decide)
  have e5 : ((⟨#[101, 109, 97, 105, 108]⟩ : ByteArray).toList == [101, 109, 97, 105, 108]) = true := by (rw [<- bytes_dec]; decide)
  have hv : sortN (⟨#[101, 109, 97, 105, 108]⟩) = 1 := by decide
  rw [hv]
  clear hv
  go_enter Tryz.func89, Tryz.ntmps89
  go_wp2_with fail
  go_ret
  exact ⟨rfl, rfl⟩
 by_cases h6 : s = ⟨#[112, 104, 111, 110, 101]⟩
 ·subst h6
  have e0 : ((⟨#[112, 104, 111, 110, 101]⟩ : ByteArray).toList == [110, 97, 109, 101]) = false := by (rw [<- bytes_dec]; decide)
  have e1 : ((⟨#[112, 104, 111, 110, 101]⟩ : ByteArray).toList == [110, 97, 109, 101, 47, 103, 105, 118, 101, 110]) = false := by (rw [<- bytes_dec]; decide)
  have e2 : ((⟨#[112, 104, 111, 110, 101]⟩ : ByteArray).toList == [110, 97, 109, 101, 47, 115, 117, 114, 110, 97, 109, 101]) = false := by (rw [<- bytes_dec]; decide)
  have e3 : ((⟨#[112, 104, 111, 110, 101]⟩ : ByteArray).toList == [110, 105, 99, 107, 110, 97, 109, 101]) = false := by (rw [<- bytes_dec]; decide)
  have e4 : ((⟨#[112, 104, 111, 110, 101]⟩ : ByteArray).toList == [111, 114, 103, 97, 110, 105, 122, 97, 116, 105, 111, 110]) = false := by (rw [<- bytes_dec]; decide)
  have e5 : ((⟨#[112, 104, 111, 110, 101]⟩ : ByteArray).toList == [101, 109, 97, 105, 108]) = false := by (rw [<- bytes_dec]; decide)
  have e6 : ((⟨#[112, 104, 111, 110, 101]⟩ : ByteArray).toList == [112, 104, 111, 110, 101]) = true := by (rw [<- bytes_dec]; decide)
  have hv : sortN (⟨#[112, 104, 111, 110, 101]⟩) = 1 := by decide
  rw [hv]
  clear hv
  go_enter Tryz.func89, Tryz.ntmps89
  go_wp2_with fail
  go_ret
  exact ⟨rfl, rfl⟩
 by_cases h7 : s = ⟨#[111, 110, 108, 105, 110, 101, 83, 101, 114, 118, 105, 99, 101]⟩
 ·subst h7
  have e0 : ((⟨#[111, 110, 108, 105, 110, 101, 83, 101, 114, 118, 105, 99, 101]⟩ : ByteArray).toList == [110, 97, 109, 101]) = false := by (rw [<- bytes_dec]; decide)
  have e1 : ((⟨#[111, 110, 108, 105, 110, 101, 83, 101, 114, 118, 105, 99, 101]⟩ : ByteArray).toList == [110, 97, 109, 101, 47, 103, 105, 118, 101, 110]) = false := by (rw [<- bytes_dec]; decide)
  have e2 : ((⟨#[111, 110, 108, 105, 110, 101, 83, 101, 114, 118, 105, 99, 101]⟩ : ByteArray).toList == [110, 97, 109, 101, 47, 115, 117, 114, 110, 97, 109, 101]) = false := by (rw [<- bytes_dec]; decide)
  have e3 : ((⟨#[111, 110, 108, 105, 110, 101, 83, 101, 114, 118, 105, 99, 101]⟩ : ByteArray).toList == [110, 105, 99, 107, 110, 97, 109, 101]) = false := by (rw [<- bytes_dec]; decide)
  have e4 : ((⟨#[111, 110, 108, 105, 110, 101, 83, 101, 114, 118, 105, 99, 101]⟩ : ByteArray).toList == [111, 114, 103, 97, 110, 105, 122, 97, 116, 105, 111, 110]) = false := by (rw [<- bytes_dec]; decide)
  have e5 : ((⟨#[111, 110, 108, 105, 110, 101, 83, 101, 114, 118, 105, 99, 101]⟩ : ByteArray).toList == [101, 109, 97, 105, 108]) = false := by (rw [<- bytes_dec]; decide)
  have e6 : ((⟨#[111, 110, 108, 105, 110, 101, 83, 101, 114, 118, 105, 99, 101]⟩ : ByteArray).toList == [112, 104, 111, 110, 101]) = false := by (rw [<- bytes_dec]; decide)
  have e7 : ((⟨#[111, 110, 108, 105, 110, 101, 83, 101, 114, 118, 105, 99, 101]⟩ : ByteArray).toList == [111, 110, 108, 105, 110, 101, 83, 101, 114, 118, 105, 99, 101]) = true := by (rw [<- bytes_dec]; decide)
  have hv : sortN (⟨#[111, 110, 108, 105, 110, 101, 83, 101, 114, 118, 105, 99, 101]⟩) = 1 := by decide
  rw [hv]
  clear hv
  go_enter Tryz.func89, Tryz.ntmps89
  go_wp2_with fail
  go_ret
  exact ⟨rfl, rfl⟩
 by_cases h8 : s = ⟨#[97, 100, 100, 114, 101, 115, 115]⟩
 ·subst h8
  have e0 : ((⟨#[97, 100, 100, 114, 101, 115, 115]⟩ : ByteArray).toList == [110, 97, 109, 101]) = false := by (rw [<- bytes_dec]; decide)
  have e1 : ((⟨#[97, 100, 100, 114, 101, 115, 115]⟩ : ByteArray).toList == [110, 97, 109, 101, 47, 103, 105, 118, 101, 110]) = false := by (rw [<- bytes_dec]; decide)
  have e2 : ((⟨#[97, 100, 100, 114, 101, 115, 115]⟩ : ByteArray).toList == [110, 97, 109, 101, 47, 115, 117, 114, 110, 97, 109, 101]) = false := by (rw [<- bytes_dec]; decide)
  have e3 : ((⟨#[97, 100, 100, 114, 101, 115, 115]⟩ : ByteArray).toList == [110, 105, 99, 107, 110, 97, 109, 101]) = false := by (rw [<- bytes_dec]; decide)
  have e4 : ((⟨#[97, 100, 100, 114, 101, 115, 115]⟩ : ByteArray).toList == [111, 114, 103, 97, 110, 105, 122, 97, 116, 105, 111, 110]) = false := by (rw [<- bytes_dec]; decide)
  have e5 : ((⟨#[97, 100, 100, 114, 101, 115, 115]⟩ : ByteArray).toList == [101, 109, 97, 105, 108]) = false := by (rw [<- bytes_dec]; decide)
  have e6 : ((⟨#[97, 100, 100, 114, 101, 115, 115]⟩ : ByteArray).toList == [112, 104, 111, 110, 101]) = false := by (rw [<- bytes_dec]; decide)
  have e7 : ((⟨#[97, 100, 100, 114, 101, 115, 115]⟩ : ByteArray).toList == [111, 110, 108, 105, 110, 101, 83, 101, 114, 118, 105, 99, 101]) = false := by (rw [<- bytes_dec]; decide)
  have e8 : ((⟨#[97, 100, 100, 114, 101, 115, 115]⟩ : ByteArray).toList == [97, 100, 100, 114, 101, 115, 115]) = true := by (rw [<- bytes_dec]; decide)
  have hv : sortN (⟨#[97, 100, 100, 114, 101, 115, 115]⟩) = 1 := by decide
  rw [hv]
  clear hv
  go_enter Tryz.func89, Tryz.ntmps89
  go_wp2_with fail
  go_ret
  exact ⟨rfl, rfl⟩
 by_cases h9 : s = ⟨#[110, 111, 116, 101]⟩
 ·subst h9
  have e0 : ((⟨#[110, 111, 116, 101]⟩ : ByteArray).toList == [110, 97, 109, 101]) = false := by (rw [<- bytes_dec]; decide)
  have e1 : ((⟨#[110, 111, 116, 101]⟩ : ByteArray).toList == [110, 97, 109, 101, 47, 103, 105, 118, 101, 110]) = false := by (rw [<- bytes_dec]; decide)
  have e2 : ((⟨#[110, 111, 116, 101]⟩ : ByteArray).toList == [110, 97, 109, 101, 47, 115, 117, 114, 110, 97, 109, 101]) = false := by (rw [<- bytes_dec]; decide)
  have e3 : ((⟨#[110, 111, 116, 101]⟩ : ByteArray).toList == [110, 105, 99, 107, 110, 97, 109, 101]) = false := by (rw [<- bytes_dec]; decide)
  have e4 : ((⟨#[110, 111, 116, 101]⟩ : ByteArray).toList == [111, 114, 103, 97, 110, 105, 122, 97, 116, 105, 111, 110]) = false := by (rw [<- bytes_dec]; decide)
  have e5 : ((⟨#[110, 111, 116, 101]⟩ : ByteArray).toList == [101, 109, 97, 105, 108]) = false := by (rw [<- bytes_dec]; decide)
  have e6 : ((⟨#[110, 111, 116, 101]⟩ : ByteArray).toList == [112, 104, 111, 110, 101]) = false := by (rw [<- bytes_dec]; decide)
  have e7 : ((⟨#[110, 111, 116, 101]⟩ : ByteArray).toList == [111, 110, 108, 105, 110, 101, 83, 101, 114, 118, 105, 99, 101]) = false := by (rw [<- bytes_dec]; decide)
  have e8 : ((⟨#[110, 111, 116, 101]⟩ : ByteArray).toList == [97, 100, 100, 114, 101, 115, 115]) = false := by (rw [<- bytes_dec]; decide)
  have e9 : ((⟨#[110, 111, 116, 101]⟩ : ByteArray).toList == [110, 111, 116, 101]) = true := by (rw [<- bytes_dec]; decide)
  have hv : sortN (⟨#[110, 111, 116, 101]⟩) = 1 := by decide
  rw [hv]
  clear hv
  go_enter Tryz.func89, Tryz.ntmps89
  go_wp2_with fail
  go_ret
  exact ⟨rfl, rfl⟩
 by_cases h10 : s = ⟨#[116, 101, 120, 116]⟩
 ·subst h10
  have e0 : ((⟨#[116, 101, 120, 116]⟩ : ByteArray).toList == [110, 97, 109, 101]) = false := by (rw [<- bytes_dec]; decide)
  have e1 : ((⟨#[116, 101, 120, 116]⟩ : ByteArray).toList == [110, 97, 109, 101, 47, 103, 105, 118, 101, 110]) = false := by (rw [<- bytes_dec]; decide)
  have e2 : ((⟨#[116, 101, 120, 116]⟩ : ByteArray).toList == [110, 97, 109, 101, 47, 115, 117, 114, 110, 97, 109, 101]) = false := by (rw [<- bytes_dec]; decide)
  have e3 : ((⟨#[116, 101, 120, 116]⟩ : ByteArray).toList == [110, 105, 99, 107, 110, 97, 109, 101]) = false := by (rw [<- bytes_dec]; decide)
  have e4 : ((⟨#[116, 101, 120, 116]⟩ : ByteArray).toList == [111, 114, 103, 97, 110, 105, 122, 97, 116, 105, 111, 110]) = false := by (rw [<- bytes_dec]; decide)
  have e5 : ((⟨#[116, 101, 120, 116]⟩ : ByteArray).toList == [101, 109, 97, 105, 108]) = false := by (rw [<- bytes_dec]; decide)
  have e6 : ((⟨#[116, 101, 120, 116]⟩ : ByteArray).toList == [112, 104, 111, 110, 101]) = false := by (rw [<- bytes_dec]; decide)
  have e7 : ((⟨#[116, 101, 120, 116]⟩ : ByteArray).toList == [111, 110, 108, 105, 110, 101, 83, 101, 114, 118, 105, 99, 101]) = false := by (rw [<- bytes_dec]; decide)
  have e8 : ((⟨#[116, 101, 120, 116]⟩ : ByteArray).toList == [97, 100, 100, 114, 101, 115, 115]) = false := by (rw [<- bytes_dec]; decide)
  have e9 : ((⟨#[116, 101, 120, 116]⟩ : ByteArray).toList == [110, 111, 116, 101]) = false := by (rw [<- bytes_dec]; decide)
  have e10 : ((⟨#[116, 101, 120, 116]⟩ : ByteArray).toList == [116, 101, 120, 116]) = true := by (rw [<- bytes_dec]; decide)
  have hv : sortN (⟨#[116, 101, 120, 116]⟩) = 1 := by decide
  rw [hv]
  clear hv
  go_enter Tryz.func89, Tryz.ntmps89
  go_wp2_with fail
  go_ret
  exact ⟨rfl, rfl⟩
 by_cases h11 : s = ⟨#[105, 110, 65, 100, 100, 114, 101, 115, 115, 66, 111, 111, 107]⟩
 ·subst h11
  have e0 : ((⟨#[105, 110, 65, 100, 100, 114, 101, 115, 115, 66, 111, 111, 107]⟩ : ByteArray).toList == [110, 97, 109, 101]) = false := by (rw [<- bytes_dec]; decide)
  have e1 : ((⟨#[105, 110, 65, 100, 100, 114, 101, 115, 115, 66, 111, 111, 107]⟩ : ByteArray).toList == [110, 97, 109, 101, 47, 103, 105, 118, 101, 110]) = false := by (rw [<- bytes_dec]; decide)
  have e2 : ((⟨#[105, 110, 65, 100, 100, 114, 101, 115, 115, 66, 111, 111, 107]⟩ : ByteArray).toList == [110, 97, 109, 101, 47, 115, 117, 114, 110, 97, 109, 101]) = false := by (rw [<- bytes_dec]; decide)
  have e3 : ((⟨#[105, 110, 65, 100, 100, 114, 101, 115, 115, 66, 111, 111, 107]⟩ : ByteArray).toList == [110, 105, 99, 107, 110, 97, 109, 101]) = false := by (rw [<- bytes_dec]; decide)
  have e4 : ((⟨#[105, 110, 65, 100, 100, 114, 101, 115, 115, 66, 111, 111, 107]⟩ : ByteArray).toList == [111, 114, 103, 97, 110, 105, 122, 97, 116, 105, 111, 110]) = false := by (rw [<- bytes_dec]; decide)
  have e5 : ((⟨#[105, 110, 65, 100, 100, 114, 101, 115, 115, 66, 111, 111, 107]⟩ : ByteArray).toList == [101, 109, 97, 105, 108]) = false := by (rw [<- bytes_dec]; decide)
  have e6 : ((⟨#[105, 110, 65, 100, 100, 114, 101, 115, 115, 66, 111, 111, 107]⟩ : ByteArray).toList == [112, 104, 111, 110, 101]) = false := by (rw [<- bytes_dec]; decide)
  have e7 : ((⟨#[105, 110, 65, 100, 100, 114, 101, 115, 115, 66, 111, 111, 107]⟩ : ByteArray).toList == [111, 110, 108, 105, 110, 101, 83, 101, 114, 118, 105, 99, 101]) = false := by (rw [<- bytes_dec]; decide)
  have e8 : ((⟨#[105, 110, 65, 100, 100, 114, 101, 115, 115, 66, 111, 111, 107]⟩ : ByteArray).toList == [97, 100, 100, 114, 101, 115, 115]) = false := by (rw [<- bytes_dec]; decide)
  have e9 : ((⟨#[105, 110, 65, 100, 100, 114, 101, 115, 115, 66, 111, 111, 107]⟩ : ByteArray).toList == [110, 111, 116, 101]) = false := by (rw [<- bytes_dec]; decide)
  have e10 : ((⟨#[105, 110, 65, 100, 100, 114, 101, 115, 115, 66, 111, 111, 107]⟩ : ByteArray).toList == [116, 101, 120, 116]) = false := by (rw [<- bytes_dec]; decide)
  have e11 : ((⟨#[105, 110, 65, 100, 100, 114, 101, 115, 115, 66, 111, 111, 107]⟩ : ByteArray).toList == [105, 110, 65, 100, 100, 114, 101, 115, 115, 66, 111, 111, 107]) = true := by (rw [<- bytes_dec]; decide)
  have hv : sortN (⟨#[105, 110, 65, 100, 100, 114, 101, 115, 115, 66, 111, 111, 107]⟩) = 2 := by decide
  rw [hv]
  clear hv
  go_enter Tryz.func89, Tryz.ntmps89
  go_wp2_with fail
  go_ret
  exact ⟨rfl, rfl⟩
 by_cases h12 : s = ⟨#[99, 114, 101, 97, 116, 101, 100, 66, 101, 102, 111, 114, 101]⟩
 ·subst h12
  have e0 : ((⟨#[99, 114, 101, 97, 116, 101, 100, 66, 101, 102, 111, 114, 101]⟩ : ByteArray).toList == [110, 97, 109, 101]) = false := by (rw [<- bytes_dec]; decide)
  have e1 : ((⟨#[99, 114, 101, 97, 116, 101, 100, 66, 101, 102, 111, 114, 101]⟩ : ByteArray).toList == [110, 97, 109, 101, 47, 103, 105, 118, 101, 110]) = false := by (rw [<- bytes_dec]; decide)
  have e2 : ((⟨#[99, 114, 101, 97, 116, 101, 100, 66, 101, 102, 111, 114, 101]⟩ : ByteArray).toList == [110, 97, 109, 101, 47, 115, 117, 114, 110, 97, 109, 101]) = false := by (rw [<- bytes_dec]; decide)
  have e3 : ((⟨#[99, 114, 101, 97, 116, 101, 100, 66, 101, 102, 111, 114, 101]⟩ : ByteArray).toList == [110, 105, 99, 107, 110, 97, 109, 101]) = false := by (rw [<- bytes_dec]; decide)
  have e4 : ((⟨#[99, 114, 101, 97, 116, 101, 100, 66, 101, 102, 111, 114, 101]⟩ : ByteArray).toList == [111, 114, 103, 97, 110, 105, 122, 97, 116, 105, 111, 110]) = false := by (rw [<- bytes_dec]; decide)
  have e5 : ((⟨#[99, 114, 101, 97, 116, 101, 100, 66, 101, 102, 111, 114, 101]⟩ : ByteArray).toList == [101, 109, 97, 105, 108]) = false := by (rw [<- bytes_dec]; decide)
  have e6 : ((⟨#[99, 114, 101, 97, 116, 101, 100, 66, 101, 102, 111, 114, 101]⟩ : ByteArray).toList == [112, 104, 111, 110, 101]) = false := by (rw [<- bytes_dec]; decide)
  have e7 : ((⟨#[99, 114, 101, 97, 116, 101, 100, 66, 101, 102, 111, 114, 101]⟩ : ByteArray).toList == [111, 110, 108, 105, 110, 101, 83, 101, 114, 118, 105, 99, 101]) = false := by (rw [<- bytes_dec]; decide)
  have e8 : ((⟨#[99, 114, 101, 97, 116, 101, 100, 66, 101, 102, 111, 114, 101]⟩ : ByteArray).toList == [97, 100, 100, 114, 101, 115, 115]) = false := by (rw [<- bytes_dec]; decide)
  have e9 : ((⟨#[99, 114, 101, 97, 116, 101, 100, 66, 101, 102, 111, 114, 101]⟩ : ByteArray).toList == [110, 111, 116, 101]) = false := by (rw [<- bytes_dec]; decide)
  have e10 : ((⟨#[99, 114, 101, 97, 116, 101, 100, 66, 101, 102, 111, 114, 101]⟩ : ByteArray).toList == [116, 101, 120, 116]) = false := by (rw [<- bytes_dec]; decide)
  have e11 : ((⟨#[99, 114, 101, 97, 116, 101, 100, 66, 101, 102, 111, 114, 101]⟩ : ByteArray).toList == [105, 110, 65, 100, 100, 114, 101, 115, 115, 66, 111, 111, 107]) = false := by (rw [<- bytes_dec]; decide)
  have e12 : ((⟨#[99, 114, 101, 97, 116, 101, 100, 66, 101, 102, 111, 114, 101]⟩ : ByteArray).toList == [99, 114, 101, 97, 116, 101, 100, 66, 101, 102, 111, 114, 101]) = true := by (rw [<- bytes_dec]; decide)
  have hv : sortN (⟨#[99, 114, 101, 97, 116, 101, 100, 66, 101, 102, 111, 114, 101]⟩) = 3 := by decide
  rw [hv]
  clear hv
  go_enter Tryz.func89, Tryz.ntmps89
  go_wp2_with fail
  go_ret
  exact ⟨rfl, rfl⟩
 by_cases h13 : s = ⟨#[99, 114, 101, 97, 116, 101, 100, 65, 102, 116, 101, 114]⟩
 ·subst h13
  have e0 : ((⟨#[99, 114, 101, 97, 116, 101, 100, 65, 102, 116, 101, 114]⟩ : ByteArray).toList == [110, 97, 109, 101]) = false := by (rw [<- bytes_dec]; decide)
  have e1 : ((⟨#[99, 114, 101, 97, 116, 101, 100, 65, 102, 116, 101, 114]⟩ : ByteArray).toList == [110, 97, 109, 101, 47, 103, 105, 118, 101, 110]) = false := by (rw [<- bytes_dec]; decide)
  have e2 : ((⟨#[99, 114, 101, 97, 116, 101, 100, 65, 102, 116, 101, 114]⟩ : ByteArray).toList == [110, 97, 109, 101, 47, 115, 117, 114, 110, 97, 109, 101]) = false := by (rw [<- bytes_dec]; decide)
  have e3 : ((⟨#[99, 114, 101, 97, 116, 101, 100, 65, 102, 116, 101, 114]⟩ : ByteArray).toList == [110, 105, 99, 107, 110, 97, 109, 101]) = false := by (rw [<- bytes_dec]; decide)
  have e4 : ((⟨#[99, 114, 101, 97, 116, 101, 100, 65, 102, 116, 101, 114]⟩ : ByteArray).toList == [111, 114, 103, 97, 110, 105, 122, 97, 116, 105, 111, 110]) = false := by (rw [<- bytes_dec]; decide)
  have e5 : ((⟨#[99, 114, 101, 97, 116, 101, 100, 65, 102, 116, 101, 114]⟩ : ByteArray).toList == [101, 109, 97, 105, 108]) = false := by (rw [<- bytes_dec]; decide)
  have e6 : ((⟨#[99, 114, 101, 97, 116, 101, 100, 65, 102, 116, 101, 114]⟩ : ByteArray).toList == [112, 104, 111, 110, 101]) = false := by (rw [<- bytes_dec]; decide)
  have e7 : ((⟨#[99, 114, 101, 97, 116, 101, 100, 65, 102, 116, 101, 114]⟩ : ByteArray).toList == [111, 110, 108, 105, 110, 101, 83, 101, 114, 118, 105, 99, 101]) = false := by (rw [<- bytes_dec]; decide)
  have e8 : ((⟨#[99, 114, 101, 97, 116, 101, 100, 65, 102, 116, 101, 114]⟩ : ByteArray).toList == [97, 100, 100, 114, 101, 115, 115]) = false := by (rw [<- bytes_dec]; decide)
  have e9 : ((⟨#[99, 114, 101, 97, 116, 101, 100, 65, 102, 116, 101, 114]⟩ : ByteArray).toList == [110, 111, 116, 101]) = false := by (rw [<- bytes_dec]; decide)
  have e10 : ((⟨#[99, 114, 101, 97, 116, 101, 100, 65, 102, 116, 101, 114]⟩ : ByteArray).toList == [116, 101, 120, 116]) = false := by (rw [<- bytes_dec]; decide)
  have e11 : ((⟨#[99, 114, 101, 97, 116, 101, 100, 65, 102, 116, 101, 114]⟩ : ByteArray).toList == [105, 110, 65, 100, 100, 114, 101, 115, 115, 66, 111, 111, 107]) = false := by (rw [<- bytes_dec]; decide)
  have e12 : ((⟨#[99, 114, 101, 97, 116, 101, 100, 65, 102, 116, 101, 114]⟩ : ByteArray).toList == [99, 114, 101, 97, 116, 101, 100, 66, 101, 102, 111, 114, 101]) = false := by (rw [<- bytes_dec]; decide)
  have e13 : ((⟨#[99, 114, 101, 97, 116, 101, 100, 65, 102, 116, 101, 114]⟩ : ByteArray).toList == [99, 114, 101, 97, 116, 101, 100, 65, 102, 116, 101, 114]) = true := by (rw [<- bytes_dec]; decide)
  have hv : sortN (⟨#[99, 114, 101, 97, 116, 101, 100, 65, 102, 116, 101, 114]⟩) = 3 := by decide
  rw [hv]
  clear hv
  go_enter Tryz.func89, Tryz.ntmps89
  go_wp2_with fail
  go_ret
  exact ⟨rfl, rfl⟩
 by_cases h14 : s = ⟨#[117, 112, 100, 97, 116, 101, 100, 66, 101, 102, 111, 114, 101]⟩
 ·subst h14
  have e0 : ((⟨#[117, 112, 100, 97, 116, 101, 100, 66, 101, 102, 111, 114, 101]⟩ : ByteArray).toList == [110, 97, 109, 101]) = false := by (rw [<- bytes_dec]; decide)
  have e1 : ((⟨#[117, 112, 100, 97, 116, 101, 100, 66, 101, 102, 111, 114, 101]⟩ : ByteArray).toList == [110, 97, 109, 101, 47, 103, 105, 118, 101, 110]) = false := by (rw [<- bytes_dec]; decide)
  have e2 : ((⟨#[117, 112, 100, 97, 116, 101, 100, 66, 101, 102, 111, 114, 101]⟩ : ByteArray).toList == [110, 97, 109, 101, 47, 115, 117, 114, 110, 97, 109, 101]) = false := by (rw [<- bytes_dec]; decide)
  have e3 : ((⟨#[117, 112, 100, 97, 116, 101, 100, 66, 101, 102, 111, 114, 101]⟩ : ByteArray).toList == [110, 105, 99, 107, 110, 97, 109, 101]) = false := by (rw [<- bytes_dec]; decide)
  have e4 : ((⟨#[117, 112, 100, 97, 116, 101, 100, 66, 101, 102, 111, 114, 101]⟩ : ByteArray).toList == [111, 114, 103, 97, 110, 105, 122, 97, 116, 105, 111, 110]) = false := by (rw [<- bytes_dec]; decide)
  have e5 : ((⟨#[117, 112, 100, 97, 116, 101, 100, 66, 101, 102, 111, 114, 101]⟩ : ByteArray).toList == [101, 109, 97, 105, 108]) = false := by (rw [<- bytes_dec]; decide)
  have e6 : ((⟨#[117, 112, 100, 97, 116, 101, 100, 66, 101, 102, 111, 114, 101]⟩ : ByteArray).toList == [112, 104, 111, 110, 101]) = false := by (rw [<- bytes_dec]; decide)
  have e7 : ((⟨#[117, 112, 100, 97, 116, 101, 100, 66, 101, 102, 111, 114, 101]⟩ : ByteArray).toList == [111, 110, 108, 105, 110, 101, 83, 101, 114, 118, 105, 99, 101]) = false := by (rw [<- bytes_dec]; decide)
  have e8 : ((⟨#[117, 112, 100, 97, 116, 101, 100, 66, 101, 102, 111, 114, 101]⟩ : ByteArray).toList == [97, 100, 100, 114, 101, 115, 115]) = false := by (rw [<- bytes_dec]; decide)
  have e9 : ((⟨#[117, 112, 100, 97, 116, 101, 100, 66, 101, 102, 111, 114, 101]⟩ : ByteArray).toList == [110, 111, 116, 101]) = false := by (rw [<- bytes_dec]; decide)
  have e10 : ((⟨#[117, 112, 100, 97, 116, 101, 100, 66, 101, 102, 111, 114, 101]⟩ : ByteArray).toList == [116, 101, 120, 116]) = false := by (rw [<- bytes_dec]; decide)
  have e11 : ((⟨#[117, 112, 100, 97, 116, 101, 100, 66, 101, 102, 111, 114, 101]⟩ : ByteArray).toList == [105, 110, 65, 100, 100, 114, 101, 115, 115, 66, 111, 111, 107]) = false := by (rw [<- bytes_dec]; decide)
  have e12 : ((⟨#[117, 112, 100, 97, 116, 101, 100, 66, 101, 102, 111, 114, 101]⟩ : ByteArray).toList == [99, 114, 101, 97, 116, 101, 100, 66, 101, 102, 111, 114, 101]) = false := by (rw [<- bytes_dec]; decide)
  have e13 : ((⟨#[117, 112, 100, 97, 116, 101, 100, 66, 101, 102, 111, 114, 101]⟩ : ByteArray).toList == [99, 114, 101, 97, 116, 101, 100, 65, 102, 116, 101, 114]) = false := by (rw [<- bytes_dec]; decide)
  have e14 : ((⟨#[117, 112, 100, 97, 116, 101, 100, 66, 101, 102, 111, 114, 101]⟩ : ByteArray).toList == [117, 112, 100, 97, 116, 101, 100, 66, 101, 102, 111, 114, 101]) = true := by (rw [<- bytes_dec]; decide)
  have hv : sortN (⟨#[117, 112, 100, 97, 116, 101, 100, 66, 101, 102, 111, 114, 101]⟩) = 3 := by decide
  rw [hv]
  clear hv
  go_enter Tryz.func89, Tryz.ntmps89
  go_wp2_with fail
  go_ret
  exact ⟨rfl, rfl⟩
 by_cases h15 : s = ⟨#[117, 112, 100, 97, 116, 101, 100, 65, 102, 116, 101, 114]⟩
 ·subst h15
  have e0 : ((⟨#[117, 112, 100, 97, 116, 101, 100, 65, 102, 116, 101, 114]⟩ : ByteArray).toList == [110, 97, 109, 101]) = false := by (rw [<- bytes_dec]; decide)
  have e1 : ((⟨#[117, 112, 100, 97, 116, 101, 100, 65, 102, 116, 101, 114]⟩ : ByteArray).toList == [110, 97, 109, 101, 47, 103, 105, 118, 101, 110]) = false := by (rw [<- bytes_dec]; decide)
  have e2 : ((⟨#[117, 112, 100, 97, 116, 101, 100, 65, 102, 116, 101, 114]⟩ : ByteArray).toList == [110, 97, 109, 101, 47, 115, 117, 114, 110, 97, 109, 101]) = false := by (rw [<- bytes_dec]; decide)
  have e3 : ((⟨#[117, 112, 100, 97, 116, 101, 100, 65, 102, 116, 101, 114]⟩ : ByteArray).toList == [110, 105, 99, 107, 110, 97, 109, 101]) = false := by (rw [<- bytes_dec]; decide)
  have e4 : ((⟨#[117, 112, 100, 97, 116, 101, 100, 65, 102, 116, 101, 114]⟩ : ByteArray).toList == [111, 114, 103, 97, 110, 105, 122, 97, 116, 105, 111, 110]) = false := by (rw [<- bytes_dec]; decide)
  have e5 : ((⟨#[117, 112, 100, 97, 116, 101, 100, 65, 102, 116, 101, 114]⟩ : ByteArray).toList == [101, 109, 97, 105, 108]) = false := by (rw [<- bytes_dec]; decide)
  have e6 : ((⟨#[117, 112, 100, 97, 116, 101, 100, 65, 102, 116, 101, 114]⟩ : ByteArray).toList == [112, 104, 111, 110, 101]) = false := by (rw [<- bytes_dec]; decide)
  have e7 : ((⟨#[117, 112, 100, 97, 116, 101, 100, 65, 102, 116, 101, 114]⟩ : ByteArray).toList == [111, 110, 108, 105, 110, 101, 83, 101, 114, 118, 105, 99, 101]) = false := by (rw [<- bytes_dec]; decide)
  have e8 : ((⟨#[117, 112, 100, 97, 116, 101, 100, 65, 102, 116, 101, 114]⟩ : ByteArray).toList == [97, 100, 100, 114, 101, 115, 115]) = false := by (rw [<- bytes_dec]; decide)
  have e9 : ((⟨#[117, 112, 100, 97, 116, 101, 100, 65, 102, 116, 101, 114]⟩ : ByteArray).toList == [110, 111, 116, 101]) = false := by (rw [<- bytes_dec]; decide)
  have e10 : ((⟨#[117, 112, 100, 97, 116, 101, 100, 65, 102, 116, 101, 114]⟩ : ByteArray).toList == [116, 101, 120, 116]) = false := by (rw [<- bytes_dec]; decide)
  have e11 : ((⟨#[117, 112, 100, 97, 116, 101, 100, 65, 102, 116, 101, 114]⟩ : ByteArray).toList == [105, 110, 65, 100, 100, 114, 101, 115, 115, 66, 111, 111, 107]) = false := by (rw [<- bytes_dec]; decide)
  have e12 : ((⟨#[117, 112, 100, 97, 116, 101, 100, 65, 102, 116, 101, 114]⟩ : ByteArray).toList == [99, 114, 101, 97, 116, 101, 100, 66, 101, 102, 111, 114, 101]) = false := by (rw [<- bytes_dec]; decide)
  have e13 : ((⟨#[117, 112, 100, 97, 116, 101, 100, 65, 102, 116, 101, 114]⟩ : ByteArray).toList == [99, 114, 101, 97, 116, 101, 100, 65, 102, 116, 101, 114]) = false := by (rw [<- bytes_dec]; decide)
  have e14 : ((⟨#[117, 112, 100, 97, 116, 101, 100, 65, 102, 116, 101, 114]⟩ : ByteArray).toList == [117, 112, 100, 97, 116, 101, 100, 66, 101, 102, 111, 114, 101]) = false := by (rw [<- bytes_dec]; decide)
  have e15 : ((⟨#[117, 112, 100, 97, 116, 101, 100, 65, 102, 116, 101, 114]⟩ : ByteArray).toList == [117, 112, 100, 97, 116, 101, 100, 65, 102, 116, 101, 114]) = true := by (rw [<- bytes_dec]; decide)
  have hv : sortN (⟨#[117, 112, 100, 97, 116, 101, 100, 65, 102, 116, 101, 114]⟩) = 3 := by decide
  rw [hv]
  clear hv
  go_enter Tryz.func89, Tryz.ntmps89
  go_wp2_with fail
  go_ret
  exact ⟨rfl, rfl⟩
 by_cases h16 : s = ⟨#[117, 105, 100]⟩
 ·subst h16
  have e0 : ((⟨#[117, 105, 100]⟩ : ByteArray).toList == [110, 97, 109, 101]) = false := by (rw [<- bytes_dec]; decide)
  have e1 : ((⟨#[117, 105, 100]⟩ : ByteArray).toList == [110, 97, 109, 101, 47, 103, 105, 118, 101, 110]) = false := by (rw [<- bytes_dec]; decide)
  have e2 : ((⟨#[117, 105, 100]⟩ : ByteArray).toList == [110, 97, 109, 101, 47, 115, 117, 114, 110, 97, 109, 101]) = false := by (rw [<- bytes_dec]; decide)
  have e3 : ((⟨#[117, 105, 100]⟩ : ByteArray).toList == [110, 105, 99, 107, 110, 97, 109, 101]) = false := by (rw [<- bytes_dec]; decide)
  have e4 : ((⟨#[117, 105, 100]⟩ : ByteArray).toList == [111, 114, 103, 97, 110, 105, 122, 97, 116, 105, 111, 110]) = false := by (rw [<- bytes_dec]; decide)
  have e5 : ((⟨#[117, 105, 100]⟩ : ByteArray).toList == [101, 109, 97, 105, 108]) = false := by (rw [<- bytes_dec]; decide)
  have e6 : ((⟨#[117, 105, 100]⟩ : ByteArray).toList == [112, 104, 111, 110, 101]) = false := by (rw [<- bytes_dec]; decide)
  have e7 : ((⟨#[117, 105, 100]⟩ : ByteArray).toList == [111, 110, 108, 105, 110, 101, 83, 101, 114, 118, 105, 99, 101]) = false := by (rw [<- bytes_dec]; decide)
  have e8 : ((⟨#[117, 105, 100]⟩ : ByteArray).toList == [97, 100, 100, 114, 101, 115, 115]) = false := by (rw [<- bytes_dec]; decide)
  have e9 : ((⟨#[117, 105, 100]⟩ : ByteArray).toList == [110, 111, 116, 101]) = false := by (rw [<- bytes_dec]; decide)
  have e10 : ((⟨#[117, 105, 100]⟩ : ByteArray).toList == [116, 101, 120, 116]) = false := by (rw [<- bytes_dec]; decide)
  have e11 : ((⟨#[117, 105, 100]⟩ : ByteArray).toList == [105, 110, 65, 100, 100, 114, 101, 115, 115, 66, 111, 111, 107]) = false := by (rw [<- bytes_dec]; decide)
  have e12 : ((⟨#[117, 105, 100]⟩ : ByteArray).toList == [99, 114, 101, 97, 116, 101, 100, 66, 101, 102, 111, 114, 101]) = false := by (rw [<- bytes_dec]; decide)
  have e13 : ((⟨#[117, 105, 100]⟩ : ByteArray).toList == [99, 114, 101, 97, 116, 101, 100, 65, 102, 116, 101, 114]) = false := by (rw [<- bytes_dec]; decide)
  have e14 : ((⟨#[117, 105, 100]⟩ : ByteArray).toList == [117, 112, 100, 97, 116, 101, 100, 66, 101, 102, 111, 114, 101]) = false := by (rw [<- bytes_dec]; decide)
  have e15 : ((⟨#[117, 105, 100]⟩ : ByteArray).toList == [117, 112, 100, 97, 116, 101, 100, 65, 102, 116, 101, 114]) = false := by (rw [<- bytes_dec]; decide)
  have e16 : ((⟨#[117, 105, 100]⟩ : ByteArray).toList == [117, 105, 100]) = true := by (rw [<- bytes_dec]; decide)
  have hv : sortN (⟨#[117, 105, 100]⟩) = 4 := by decide
  rw [hv]
  clear hv
  go_enter Tryz.func89, Tryz.ntmps89
  go_wp2_with fail
  go_ret
  exact ⟨rfl, rfl⟩
 by_cases h17 : s = ⟨#[104, 97, 115, 77, 101, 109, 98, 101, 114]⟩
 ·subst h17
  have e0 : ((⟨#[104, 97, 115, 77, 101, 109, 98, 101, 114]⟩ : ByteArray).toList == [110, 97, 109, 101]) = false := by (rw [<- bytes_dec]; decide)
  have e1 : ((⟨#[104, 97, 115, 77, 101, 109, 98, 101, 114]⟩ : ByteArray).toList == [110, 97, 109, 101, 47, 103, 105, 118, 101, 110]) = false := by (rw [<- bytes_dec]; decide)
  have e2 : ((⟨#[104, 97, 115, 77, 101, 109, 98, 101, 114]⟩ : ByteArray).toList == [110, 97, 109, 101, 47, 115, 117, 114, 110, 97, 109, 101]) = false := by (rw [<- bytes_dec]; decide)
  have e3 : ((⟨#[104, 97, 115, 77, 101, 109, 98, 101, 114]⟩ : ByteArray).toList == [110, 105, 99, 107, 110, 97, 109, 101]) = false := by (rw [<- bytes_dec]; decide)
  have e4 : ((⟨#[104, 97, 115, 77, 101, 109, 98, 101, 114]⟩ : ByteArray).toList == [111, 114, 103, 97, 110, 105, 122, 97, 116, 105, 111, 110]) = false := by (rw [<- bytes_dec]; decide)
  have e5 : ((⟨#[104, 97, 115, 77, 101, 109, 98, 101, 114]⟩ : ByteArray).toList == [101, 109, 97, 105, 108]) = false := by (rw [<- bytes_dec]; decide)
  have e6 : ((⟨#[104, 97, 115, 77, 101, 109, 98, 101, 114]⟩ : ByteArray).toList == [112, 104, 111, 110, 101]) = false := by (rw [<- bytes_dec]; decide)
  have e7 : ((⟨#[104, 97, 115, 77, 101, 109, 98, 101, 114]⟩ : ByteArray).toList == [111, 110, 108, 105, 110, 101, 83, 101, 114, 118, 105, 99, 101]) = false := by (rw [<- bytes_dec]; decide)
  have e8 : ((⟨#[104, 97, 115, 77, 101, 109, 98, 101, 114]⟩ : ByteArray).toList == [97, 100, 100, 114, 101, 115, 115]) = false := by (rw [<- bytes_dec]; decide)
  have e9 : ((⟨#[104, 97, 115, 77, 101, 109, 98, 101, 114]⟩ : ByteArray).toList == [110, 111, 116, 101]) = false := by (rw [<- bytes_dec]; decide)
  have e10 : ((⟨#[104, 97, 115, 77, 101, 109, 98, 101, 114]⟩ : ByteArray).toList == [116, 101, 120, 116]) = false := by (rw [<- bytes_dec]; decide)
  have e11 : ((⟨#[104, 97, 115, 77, 101, 109, 98, 101, 114]⟩ : ByteArray).toList == [105, 110, 65, 100, 100, 114, 101, 115, 115, 66, 111, 111, 107]) = false := by (rw [<- bytes_dec]; decide)
  have e12 : ((⟨#[104, 97, 115, 77, 101, 109, 98, 101, 114]⟩ : ByteArray).toList == [99, 114, 101, 97, 116, 101, 100, 66, 101, 102, 111, 114, 101]) = false := by (rw [<- bytes_dec]; decide)
  have e13 : ((⟨#[104, 97, 115, 77, 101, 109, 98, 101, 114]⟩ : ByteArray).toList == [99, 114, 101, 97, 116, 101, 100, 65, 102, 116, 101, 114]) = false := by (rw [<- bytes_dec]; decide)
  have e14 : ((⟨#[104, 97, 115, 77, 101, 109, 98, 101, 114]⟩ : ByteArray).toList == [117, 112, 100, 97, 116, 101, 100, 66, 101, 102, 111, 114, 101]) = false := by (rw [<- bytes_dec]; decide)
  have e15 : ((⟨#[104, 97, 115, 77, 101, 109, 98, 101, 114]⟩ : ByteArray).toList == [117, 112, 100, 97, 116, 101, 100, 65, 102, 116, 101, 114]) = false := by (rw [<- bytes_dec]; decide)
  have e16 : ((⟨#[104, 97, 115, 77, 101, 109, 98, 101, 114]⟩ : ByteArray).toList == [117, 105, 100]) = false := by (rw [<- bytes_dec]; decide)
  have e17 : ((⟨#[104, 97, 115, 77, 101, 109, 98, 101, 114]⟩ : ByteArray).toList == [104, 97, 115, 77, 101, 109, 98, 101, 114]) = true := by (rw [<- bytes_dec]; decide)
  have hv : sortN (⟨#[104, 97, 115, 77, 101, 109, 98, 101, 114]⟩) = 4 := by decide
  rw [hv]
  clear hv
  go_enter Tryz.func89, Tryz.ntmps89
  go_wp2_with fail
  go_ret
  exact ⟨rfl, rfl⟩
 by_cases h18 : s = ⟨#[107, 105, 110, 100]⟩
 ·subst h18
  have e0 : ((⟨#[107, 105, 110, 100]⟩ : ByteArray).toList == [110, 97, 109, 101]) = false := by (rw [<- bytes_dec]; decide)
  have e1 : ((⟨#[107, 105, 110, 100]⟩ : ByteArray).toList == [110, 97, 109, 101, 47, 103, 105, 118, 101, 110]) = false := by (rw [<- bytes_dec]; decide)
  have e2 : ((⟨#[107, 105, 110, 100]⟩ : ByteArray).toList == [110, 97, 109, 101, 47, 115, 117, 114, 110, 97, 109, 101]) = false := by (rw [<- bytes_dec]; decide)
  have e3 : ((⟨#[107, 105, 110, 100]⟩ : ByteArray).toList == [110, 105, 99, 107, 110, 97, 109, 101]) = false := by (rw [<- bytes_dec]; decide)
  have e4 : ((⟨#[107, 105, 110, 100]⟩ : ByteArray).toList == [111, 114, 103, 97, 110, 105, 122, 97, 116, 105, 111, 110]) = false := by (rw [<- bytes_dec]; decide)
  have e5 : ((⟨#[107, 105, 110, 100]⟩ : ByteArray).toList == [101, 109, 97, 105, 108]) = false := by (rw [<- bytes_dec]; decide)
  have e6 : ((⟨#[107, 105, 110, 100]⟩ : ByteArray).toList == [112, 104, 111, 110, 101]) = false := by (rw [<- bytes_dec]; decide)
  have e7 : ((⟨#[107, 105, 110, 100]⟩ : ByteArray).toList == [111, 110, 108, 105, 110, 101, 83, 101, 114, 118, 105, 99, 101]) = false := by (rw [<- bytes_dec]; decide)
  have e8 : ((⟨#[107, 105, 110, 100]⟩ : ByteArray).toList == [97, 100, 100, 114, 101, 115, 115]) = false := by (rw [<- bytes_dec]; decide)
  have e9 : ((⟨#[107, 105, 110, 100]⟩ : ByteArray).toList == [110, 111, 116, 101]) = false := by (rw [<- bytes_dec]; decide)
  have e10 : ((⟨#[107, 105, 110, 100]⟩ : ByteArray).toList == [116, 101, 120, 116]) = false := by (rw [<- bytes_dec]; decide)
  have e11 : ((⟨#[107, 105, 110, 100]⟩ : ByteArray).toList == [105, 110, 65, 100, 100, 114, 101, 115, 115, 66, 111, 111, 107]) = false := by (rw [<- bytes_dec]; decide)
  have e12 : ((⟨#[107, 105, 110, 100]⟩ : ByteArray).toList == [99, 114, 101, 97, 116, 101, 100, 66, 101, 102, 111, 114, 101]) = false := by (rw [<- bytes_dec]; decide)
  have e13 : ((⟨#[107, 105, 110, 100]⟩ : ByteArray).toList == [99, 114, 101, 97, 116, 101, 100, 65, 102, 116, 101, 114]) = false := by (rw [<- bytes_dec]; decide)
  have e14 : ((⟨#[107, 105, 110, 100]⟩ : ByteArray).toList == [117, 112, 100, 97, 116, 101, 100, 66, 101, 102, 111, 114, 101]) = false := by (rw [<- bytes_dec]; decide)
  have e15 : ((⟨#[107, 105, 110, 100]⟩ : ByteArray).toList == [117, 112, 100, 97, 116, 101, 100, 65, 102, 116, 101, 114]) = false := by (rw [<- bytes_dec]; decide)
  have e16 : ((⟨#[107, 105, 110, 100]⟩ : ByteArray).toList == [117, 105, 100]) = false := by (rw [<- bytes_dec]; decide)
  have e17 : ((⟨#[107, 105, 110, 100]⟩ : ByteArray).toList == [104, 97, 115, 77, 101, 109, 98, 101, 114]) = false := by (rw [<- bytes_dec]; decide)
  have e18 : ((⟨#[107, 105, 110, 100]⟩ : ByteArray).toList == [107, 105, 110, 100]) = true := by (rw [<- bytes_dec]; decide)
  have hv : sortN (⟨#[107, 105, 110, 100]⟩) = 4 := by decide
  rw [hv]
  clear hv
  go_enter Tryz.func89, Tryz.ntmps89
  go_wp2_with fail
  go_ret
  exact ⟨rfl, rfl⟩
 have e0 : (s.toList == [110, 97, 109, 101]) = false := by rw [<- bytes_dec]; exact decide_eq_false h0
 have e1 : (s.toList == [110, 97, 109, 101, 47, 103, 105, 118, 101, 110]) = false := by rw [<- bytes_dec]; exact decide_eq_false h1
 have e2 : (s.toList == [110, 97, 109, 101, 47, 115, 117, 114, 110, 97, 109, 101]) = false := by rw [<- bytes_dec]; exact decide_eq_false h2
 have e3 : (s.toList == [110, 105, 99, 107, 110, 97, 109, 101]) = false := by rw [<- bytes_dec]; exact decide_eq_false h3
 have e4 : (s.toList == [111, 114, 103, 97, 110, 105, 122, 97, 116, 105, 111, 110]) = false := by rw [<- bytes_dec]; exact decide_eq_false h4
 have e5 : (s.toList == [101, 109, 97, 105, 108]) = false := by rw [<- bytes_dec]; exact decide_eq_false h5
 have e6 : (s.toList == [112, 104, 111, 110, 101]) = false := by rw [<- bytes_dec]; exact decide_eq_false h6
 have e7 : (s.toList == [111, 110, 108, 105, 110, 101, 83, 101, 114, 118, 105, 99, 101]) = false := by rw [<- bytes_dec]; exact decide_eq_false h7
 have e8 : (s.toList == [97, 100, 100, 114, 101, 115, 115]) = false := by rw [<- bytes_dec]; exact decide_eq_false h8
 have e9 : (s.toList == [110, 111, 116, 101]) = false := by rw [<- bytes_dec]; exact decide_eq_false h9
 have e10 : (s.toList == [116, 101, 120, 116]) = false := by rw [<- bytes_dec]; exact decide_eq_false h10
 have e11 : (s.toList == [105, 110, 65, 100, 100, 114, 101, 115, 115, 66, 111, 111, 107]) = false := by rw [<- bytes_dec]; exact decide_eq_false h11
 have e12 : (s.toList == [99, 114, 101, 97, 116, 101, 100, 66, 101, 102, 111, 114, 101]) = false := by rw [<- bytes_dec]; exact decide_eq_false h12
 have e13 : (s.toList == [99, 114, 101, 97, 116, 101, 100, 65, 102, 116, 101, 114]) = false := by rw [<- bytes_dec]; exact decide_eq_false h13
 have e14 : (s.toList == [117, 112, 100, 97, 116, 101, 100, 66, 101, 102, 111, 114, 101]) = false := by rw [<- bytes_dec]; exact decide_eq_false h14
 have e15 : (s.toList == [117, 112, 100, 97, 116, 101, 100, 65, 102, 116, 101, 114]) = false := by rw [<- bytes_dec]; exact decide_eq_false h15
 have e16 : (s.toList == [117, 105, 100]) = false := by rw [<- bytes_dec]; exact decide_eq_false h16
 have e17 : (s.toList == [104, 97, 115, 77, 101, 109, 98, 101, 114]) = false := by rw [<- bytes_dec]; exact decide_eq_false h17
 have e18 : (s.toList == [107, 105, 110, 100]) = false := by rw [<- bytes_dec]; exact decide_eq_false h18
 have hv : sortN s = 0 := by
  have ha : isFieldB s = false := by
   unfold isFieldB
   simp only [Bool.or_eq_false_iff, decide_eq_false_iff_not]
   refine ⟨h10, h1, h2, ?_⟩
   rw [List.any_eq_false]
   intro y hy
   simp only [decide_eq_true_eq]
   intro e
   subst e
   simp only [allF, List.mem_cons, List.not_mem_nil, or_false] at hy
   rcases hy with e | e | e | e | e | e | e | e
   all_goals first | exact h0 e | exact h3 e | exact h4 e | exact h5 e | exact h6 e | exact h7 e | exact h8 e | exact h9 e
  have hb : stampB s = false := by
   unfold stampB
   simp only [Bool.or_eq_false_iff, decide_eq_false_iff_not]
   exact ⟨h12, h13, h14, h15⟩
  unfold sortN
  rw [if_neg (by rw [ha]; decide), if_neg (show ¬ s = svInBook from h11), if_neg (by rw [hb]; decide), if_neg (show ¬ (s = svUid \/ s = svHasMem \/ s = kindN) from fun h => h.elim h16 (fun h => h.elim h17 h18))]
 rw [hv]
 clear hv h0 h1 h2 h3 h4 h5 h6 h7 h8 h9 h10 h11 h12 h13 h14 h15 h16 h17 h18
 go_enter Tryz.func89, Tryz.ntmps89
 go_wp2_with fail
 go_ret
 exact ⟨rfl, rfl⟩
theorem sortN_zero {n : ByteArray} (h : (askB n || isFieldB n) = false) : sortN n = 0 := by
 rw [Bool.or_eq_false_iff] at h
 obtain ⟨h1, h2⟩ := h
 unfold askB at h1
 simp only [Bool.or_eq_false_iff, decide_eq_false_iff_not] at h1
 obtain ⟨g1, g2, g3, g4, g5⟩ := h1
 unfold sortN
 rw [if_neg (by rw [h2]; decide), if_neg g1, if_neg (by rw [g5]; decide), if_neg (fun h => h.elim g2 (fun h => h.elim g3 g4))]
theorem sortN_pos {n : ByteArray} (h : (askB n || isFieldB n) = true) : sortN n ≠ 0 := by
 unfold sortN
 by_cases hf : isFieldB n = true
 ·rw [if_pos hf]; decide
 rw [if_neg hf]
 by_cases g1 : n = svInBook
 ·rw [if_pos g1]; decide
 rw [if_neg g1]
 by_cases g2 : stampB n = true
 ·rw [if_pos g2]; decide
 rw [if_neg g2]
 by_cases g3 : (n = svUid \/ n = svHasMem \/ n = kindN)
 ·rw [if_pos g3]; decide
 exfalso
 rw [Bool.not_eq_true] at hf g2
 unfold askB at h
 rw [hf, g2] at h
 simp only [Bool.or_false, Bool.or_eq_true, decide_eq_true_eq] at h
 rcases h with h | h | h | h
 ·exact g1 h
 ·exact g3 (.inl h)
 ·exact g3 (.inr (.inl h))
 ·exact g3 (.inr (.inr h))
theorem rightC_sort (n : ByteArray) (x : JV) : rightC n x = (decide (x.k = 4) && (decide (x.s.size <= 255) && ((!decide (sortN n = 1) || decide (x.s.size <= 64)) && ((!decide (sortN n = 2) || idB x.s) && (!decide (sortN n = 3) || (secF x.s.data.toList).isSome))))) := by
 have h1 : decide (sortN n = 1) = isFieldB n := by
  rw [Bool.eq_iff_iff, decide_eq_true_iff]
  constructor
  ·intro h
   by_cases hf : isFieldB n = true
   ·exact hf
   ·exfalso
    revert h
    unfold sortN
    rw [if_neg hf]
    repeat' split
    all_goals decide
  ·intro hf
   unfold sortN
   rw [if_pos hf]
 have ff : ∀ m : ByteArray, m = svInBook \/ m = svCrBef \/ m = svCrAft \/ m = svUpBef \/ m = svUpAft -> isFieldB m = false := by
  rintro m (rfl | rfl | rfl | rfl | rfl) <;> decide
 have h2 : decide (sortN n = 2) = decide (n = svInBook) := by
  rw [Bool.eq_iff_iff, decide_eq_true_iff, decide_eq_true_iff]
  constructor
  ·intro h
   by_cases hf : n = svInBook
   ·exact hf
   ·exfalso
    revert h
    unfold sortN
    rw [if_neg hf]
    repeat' split
    all_goals decide
  ·rintro rfl
   decide
 have h3 : decide (sortN n = 3) = stampB n := by
  rw [Bool.eq_iff_iff, decide_eq_true_iff]
  constructor
  ·intro h
   by_cases hf : stampB n = true
   ·exact hf
   ·exfalso
    revert h
    unfold sortN
    rw [if_neg hf]
    repeat' split
    all_goals decide
  ·intro hf
   unfold stampB at hf
   simp only [Bool.or_eq_true, decide_eq_true_eq] at hf
   rcases hf with rfl | rfl | rfl | rfl <;> decide
 unfold rightC
 rw [h1, h2, h3]
theorem rlong_any (y m : Int) (w : World) (h0 : 0 <= y) (h1 : y <= 10000) (m0 : 1 <= m) (m1 : m <= 12) : Calls Tryz.prog 113 #[.int .i64 y, .int .i64 m] w fun e w' => e = .returned (.int .i64 (monthF y m)) /\ w = w' := by
 have HM : Hid (monthF y m = if m = 4 \/ m = 6 \/ m = 9 \/ m = 11 then 30 else if m = 2 then (if leapB y then 29 else 28) else 31) := rfl
 obtain ⟨a, ha⟩ : ∃ a, (y % 4 == 0) = a := ⟨_, rfl⟩
 obtain ⟨b, hb⟩ : ∃ a, (y % 100 == 0) = a := ⟨_, rfl⟩
 obtain ⟨c, hc⟩ : ∃ a, (y % 400 == 0) = a := ⟨_, rfl⟩
 have hb2 : (y % 100 != 0) = !b := by unfold bne; rw [hb]
 have HL : Hid (leapB y = ((a && !b) || c)) := by
  unfold Hid leapB
  rw [<- ha, <- hb, <- hc]
  have h : ∀ n : Int, (n == 0) = decide (n = 0) := fun n => by by_cases h : n = 0 <;> simp [h]
  rw [h, h, h]
  simp
 rw [HL.out] at HM
 clear HL
 obtain ⟨R, hR⟩ : ∃ R, monthF y m = R := ⟨_, rfl⟩
 rw [hR] at HM
 rw [hR]
 clear hR
 rcases (show m = 1 \/ m = 3 \/ m = 4 \/ m = 5 \/ m = 6 \/ m = 7 \/ m = 8 \/ m = 9 \/ m = 10 \/ m = 11 \/ m = 12 \/ m = 2 by omega) with rfl | rfl | rfl | rfl | rfl | rfl | rfl | rfl | rfl | rfl | rfl | rfl
 case inr.inr.inr.inr.inr.inr.inr.inr.inr.inr.inr =>
  cases a <;> cases b <;> cases c
  all_goals
   simp only [Bool.not_false, Bool.not_true] at hb2
   go_enter Tryz.func113, Tryz.ntmps113
   go_wp2_with fail
   go_ret
   exact ⟨ret_intS (by rw [HM.out]; decide), rfl⟩
 all_goals
  clear ha hb hc hb2
  go_enter Tryz.func113, Tryz.ntmps113
  go_wp2_with fail
  go_ret
  exact ⟨ret_intS (by rw [HM.out]; rfl), rfl⟩
theorem numAt_succ {l : List UInt8} {i k : Nat} {c : UInt8} (h : l[i + k]? = some c) : (l.drop i).take (k + 1) = (l.drop i).take k ++ [c] := by
 rw [List.take_add_one, List.getElem?_drop, h]
 rfl
theorem rnumber_any (s : ByteArray) (i n : Nat) (w : World) (hs : s.size <= maxLen) (hin : i + n <= s.size) (hn9 : n <= 9) : Calls Tryz.prog 84 #[.string s, .int .i64 (i : Int), .int .i64 (n : Int)] w fun e w' => e = .returned (.int .i64 (numR s.data.toList i n)) /\ w = w' := by
 have HGE : Hid (∀ k, (h : k < s.size) -> s.data.toList[k]? = some s[k]) := fun k h => get_optS h
 unfold maxLen at hs
 have i0 : (0 : Int) <= (i : Int) := Int.natCast_nonneg _
 have n0 : (0 : Int) <= (n : Int) := Int.natCast_nonneg _
 have hin' : (i : Int) + (n : Int) <= (s.size : Int) := by omega
 have hss : (s.size : Int) <= 9223372036854775807 := by omega
 obtain ⟨E, hE⟩ : ∃ E : Nat, i + n = E := ⟨_, rfl⟩
 have hE' : (i : Int) + (n : Int) = (E : Int) := by omega
 go_enter Tryz.func84, Tryz.ntmps84
 go_wp2_with fail
 go_loopw [7, 8] (fun v x wr => ∃ j : Nat, i <= j /\ j <= E /\ x = .int .i64 (j : Int) /\ v = .int .i64 (numAt s.data.toList i (j - i)) /\ w = wr /\ Hid (((s.data.toList.drop i).take (j - i)).all digU = true)) (fun _ x _ => E - (intOf x).toNat)
 case atStart => exact ⟨i, Nat.le_refl _, by omega, rfl, by rw [Nat.sub_self]; rfl, rfl, by rw [Nat.sub_self]; rfl⟩
 case round =>
  obtain ⟨j, hij, hjE, rfl, rfl, rfl, hD⟩ := hrel
  have j0 : (0 : Int) <= (j : Int) := Int.natCast_nonneg _
  obtain ⟨t0, t1⟩ := numAt_lt hD.out
  have t2 : (10 : Int) ^ (j - i) <= 10 ^ 9 := by
   have h3 : (10 : Nat) ^ (j - i) <= 10 ^ 9 := Nat.pow_le_pow_right (by decide) (by omega)
   have h4 : (((10 : Nat) ^ (j - i) : Nat) : Int) <= ((10 ^ 9 : Nat) : Int) := by omega
   simpa using h4
  have t3 : numAt s.data.toList i (j - i) < 1000000000 := Int.lt_of_lt_of_le t1 (Int.le_trans t2 (by decide))
  obtain ⟨T, hT⟩ : ∃ T, numAt s.data.toList i (j - i) = T := ⟨_, rfl⟩
  rw [hT] at t0 t3
  rw [hT]
  have HT := Lib.hid hT
  clear t1 t2 hT
  by_cases hlt : j < E
  ·have hjs : j < s.size := by omega
   have hjs' : (j : Int) < (s.size : Int) := by omega
   have hjE' : (j : Int) < (E : Int) := by omega
   have q1 : decide ((j : Int) < (E : Int)) = true := decide_eq_true hjE'
   have q1' : decide ((j : Int) < (i : Int) + (n : Int)) = true := decide_eq_true (by omega)
   have hg := HGE.out j hjs
   obtain ⟨c, hc⟩ : ∃ c, s[j] = c := ⟨_, rfl⟩
   rw [hc] at hg
   have hsu := numAt_succ (l := s.data.toList) (i := i) (k := j - i) (c := c) (by rw [show i + (j - i) = j by omega]; exact hg)
   have HSU := Lib.hid hsu
   have HG := Lib.hid hg
   have hcl := c.toNat_lt
   have c0 : (0 : Int) <= ((c.toNat : Nat) : Int) := Int.natCast_nonneg _
   have c256 : ((c.toNat : Nat) : Int) < 256 := by omega
   obtain ⟨x, hx⟩ : ∃ b, decide (((c.toNat : Nat) : Int) < 48) = b := ⟨_, rfl⟩
   obtain ⟨y, hy⟩ : ∃ b, decide ((57 : Int) < ((c.toNat : Nat) : Int)) = b := ⟨_, rfl⟩
   have HDG : Hid (digU c = !(x || y)) := by
    unfold Hid digU
    rw [<- hx, <- hy]
    by_cases h1 : c.toNat < 48
    ·rw [decide_eq_true (p := ((c.toNat : Nat) : Int) < 48) (by omega), decide_eq_false (p := 48 <= c.toNat) (by omega)]; rfl
    ·rw [decide_eq_false (p := ((c.toNat : Nat) : Int) < 48) (by omega), decide_eq_true (p := 48 <= c.toNat) (by omega)]
     by_cases h2 : 57 < c.toNat
     ·rw [decide_eq_true (p := (57 : Int) < ((c.toNat : Nat) : Int)) (by omega), decide_eq_false (p := c.toNat <= 57) (by omega)]; rfl
     ·rw [decide_eq_false (p := (57 : Int) < ((c.toNat : Nat) : Int)) (by omega), decide_eq_true (p := c.toNat <= 57) (by omega)]; rfl
   have HNO : Hid (digU c = false -> numR s.data.toList i n = -1) := fun hd => by
    refine numR_no ?_
    cases ha : ((s.data.toList.drop i).take n).all digU with
    | false => rfl
    | true =>
      have hm : ((s.data.toList.drop i).take n)[j - i]? = some c := by
       rw [List.getElem?_take, if_pos (by omega), List.getElem?_drop, show i + (j - i) = j by omega]
       exact HG.out
      have := List.all_eq_true.1 ha c (List.mem_of_getElem? hm)
      rw [hd] at this
      cases this
   clear hg hsu
   cases x <;> cases y
   case false.false =>
    have hx2 := of_decide_eq_false hx
    have hy2 := of_decide_eq_false hy
    go_wp2_with fail
    go_roundw
    case rel =>
     refine ⟨j + 1, by omega, by omega, by go_num, ?_, by trivial, ?_⟩
     ·unfold numAt
      rw [show j + 1 - i = (j - i) + 1 by omega, HSU.out, valD_snoc]
      have h2 := HT.out
      unfold numAt at h2
      rw [h2]
      unfold stepD
      congr 1
      omega
     ·unfold Hid
      rw [show j + 1 - i = (j - i) + 1 by omega, HSU.out, List.all_append, hD.out]
      simpa using HDG.out
    case measure => simp [intOf]; omega
   all_goals
    have HR := Lib.hid (HNO.out (by rw [HDG.out]; rfl))
    go_wp2_with fail
    rw [HR.out]
    go_ret
    exact ⟨rfl, rfl⟩
  ·obtain rfl : j = E := by omega
   have q1 : decide ((j : Int) < (j : Int)) = false := decide_eq_false (by omega)
   have q1' : decide ((j : Int) < (i : Int) + (n : Int)) = false := decide_eq_false (by omega)
   have HR : Hid (numR s.data.toList i n = T) := by
    unfold Hid
    have h1 := hD.out
    have h2 := HT.out
    rw [show j - i = n by omega] at h1 h2
    rw [numR_yes h1, h2]
   go_wp2_with fail
   rw [HR.out]
   go_ret
   exact ⟨rfl, rfl⟩
end
end Go.Proofs.YtffhccmppdgmfaaGreatDoor
