/- The cheapest word: the laws. -/
import Derived.Test.YtfldfcibjkhpnaaMx
import Derived.Test.YtfldfcibjkhpnaaLd
import Derived.Test.YtfldfcibjkhpnaaLg
set_option linter.unusedSimpArgs false
set_option linter.unusedVariables false
namespace Go.Fw
open Go Go.Proofs
set_option linter.unnecessarySimpa false

theorem CheapIs.shape {n : Int} {rs : List Rd} {L : Int} {r : List D} (h : CheapIs n rs L r) : ∃ b c o, r = [sD b, iD c, .bool o] := by
  rcases h with ⟨_, rfl⟩ | ⟨_, b, c, _, rfl⟩
  · exact ⟨[], -1, false, rfl⟩
  · exact ⟨b, c, _, rfl⟩
theorem CheapIs.uniq {n : Int} {rs : List Rd} {L : Int} {r q : List D} (h : CheapIs n rs L r) (h' : CheapIs n rs L q) : r = q := by
  rcases h with ⟨v, rfl⟩ | ⟨v, b, c, hc, rfl⟩ <;> rcases h' with ⟨v', rfl⟩ | ⟨v', b', c', hc', rfl⟩
  · rfl
  · exact absurd v' v
  · exact absurd v v'
  · obtain ⟨rfl, rfl⟩ := hc.uniq (fun w => Iff.rfl) (fun w hw => hw.1) hc'
    rfl

theorem c_FnExactCheapestWord (n : Int) (rs : List Rd) (L : Int) (h1 : rs.length ≤ 9223372036854775807) (_ : -9223372036854775808 ≤ L) (_ : L ≤ 9223372036854775807) : DCalls Try.prog 10 [.d (roadsD n rs), iA L] fun y => y = .bool true := by
  refine dcalls_intro Ty.mixed Try.func10 rfl rfl rfl [2] (by kernel_rfl) (by simp) ?_
  simp [roadsD]
  refine .dval (c_szRoads n rs _) rfl (by simp) rfl ?_
  rw [wrap64 (by omega) (by omega)]
  simp
  intro hz
  have h3 : rs.length ≤ 1048576 := by
    split at hz <;> omega
  refine .ddat (c_toRoads n rs h3) rfl (by simp) ?_
  rintro _ rfl
  simp
  refine .tdat (c_sCheapestWord n rs L h1) rfl (by simp) ?_
  rintro r hr
  obtain ⟨b, c, o, rfl⟩ := hr.shape
  simp
  refine .ddat (c_toRoads n rs h3) rfl (by simp) ?_
  rintro _ rfl
  simp [roadsD, rsD]
  refine .tdat (c_CheapestWord n rs L h1) rfl (by simp [roadsD, rsD]) ?_
  rintro q hq
  have e := hq.uniq hr
  subst e
  simp
  refine .one (sch [.pur 0, .pur 1, .eff 2 [0], .eff 3 [], .pur 4]) (by kernel_rfl) ?_
  simp
  refine .ddat (c_toRoads n rs h3) rfl (by simp) ?_
  rintro _ rfl
  simp
  refine .dval (c_eqRoads n n rs rs h1) rfl (by simp) rfl ?_
  simp
end Go.Fw
