/-
  The modulus is a prime.
-/
import Derived.Test.YtkpihidjolfkoaaPoc
namespace Go.Pr
theorem q5 : Prime 421987 := prime_trial (k := 650) (by decide +kernel) (by decide +kernel) (by decide +kernel)
theorem q6 : Prime 755057 := prime_trial (k := 869) (by decide +kernel) (by decide +kernel) (by decide +kernel)
theorem q4 : Prime 13090036741 := prime_step (Q := 421987) (b := 9676538530) (g := 19) (by decide +kernel) q5 (by decide +kernel) (by decide +kernel) (by decide +kernel) (by decide +kernel)
theorem q3 : Prime 3819663927398918131021 := prime_two (Q := 13090036741) (S := 755057) (by decide +kernel) (by decide +kernel)
  (fun _ hr hd => pock (N := 3819663927398918131021) (b := 2236669622039346762846) (g := 34) (by decide +kernel) q4 (by decide +kernel) (by decide +kernel) (by decide +kernel) hr hd)
  (fun _ hr hd => pock (N := 3819663927398918131021) (b := 3072291452636436773356) (g := 20) (by decide +kernel) q6 (by decide +kernel) (by decide +kernel) (by decide +kernel) hr hd) (by decide +kernel)
theorem q2 : Prime 1125266252156850182658904441386709967 := prime_step (Q := 3819663927398918131021) (b := 569094264676275985966734733593272495) (g := 72) (by decide +kernel) q3 (by decide +kernel) (by decide +kernel) (by decide +kernel) (by decide +kernel)
theorem q1 : Prime 15778400344354997994418419698270088123916926905054652752758194827714659 := prime_step (Q := 1125266252156850182658904441386709967) (b := 584602478677671312863650330581164049005241475155695537731613712292485) (g := 120) (by decide +kernel) q2 (by decide +kernel) (by decide +kernel) (by decide +kernel) (by decide +kernel)
theorem prime_p : Prime 4002409555221667393417789825735904156556882819939007885332058136124031650490837864442687629129015664037894272559787 := prime_step (Q := 15778400344354997994418419698270088123916926905054652752758194827714659) (b := 3857652229587791131170562170362777322661165158253241750951056708149380781976590789690115968560841332125271833377494) (g := 234) (by decide +kernel) q1 (by decide +kernel) (by decide +kernel) (by decide +kernel) (by decide +kernel)
end Go.Pr
