/- Calls whose looked-at arguments are written otherwise. -/
import Derived.Test.YtbkbpnccnhaolaaFwX
set_option linter.unusedSimpArgs false
set_option linter.unusedVariables false
namespace Go.Fw
open Go

section
variable {P : Program} {fz : List Nat} {σ : AS} {Q : Ex → AS → Prop} {K : AS → Prop}

theorem CallVC.ddropE {f : FuncId} {as args args' : List AV} {p : Prop} {l : List Nat} {R : D → Prop} {K : AV → AS → Prop} (hc : DCalls P f args R) (hv : viewL P σ.hp as = some (p, args', l)) (he : args' = args) (hp : p)
    (hk : ∀ r, R r → K (.d r) (σ.withHp (σ.hp.dropL l))) : CallVC P f as σ K := .ddrop hc (he ▸ hv) hp hk
theorem CallVC.tdropE {f : FuncId} {as args args' : List AV} {p : Prop} {l : List Nat} {R : List D → Prop} {K : AV → AS → Prop} (hc : TCalls P f args R) (hv : viewL P σ.hp as = some (p, args', l)) (he : args' = args) (hp : p)
    (hk : ∀ r, R r → K (.tp (r.map .d)) (σ.withHp (σ.hp.dropL l))) : CallVC P f as σ K := .tdrop hc (he ▸ hv) hp hk
theorem CallVC.ddatE {f : FuncId} {xs ys ys' : List AV} {p : Prop} {R : D → Prop} {K : AV → AS → Prop} (hc : DCalls P f ys R) (hv : viewL P σ.hp xs = some (p, ys', [])) (he : ys' = ys) (hp : p) (hk : ∀ r, R r → K (.d r) σ) : CallVC P f xs σ K :=
  .ddat hc (he ▸ hv) hp hk
end
end Go.Fw
