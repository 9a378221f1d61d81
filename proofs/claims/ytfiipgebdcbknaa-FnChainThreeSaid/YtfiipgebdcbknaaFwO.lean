/- What is shown of an operation suffices. -/
import Derived.Test.YtfiipgebdcbknaaFwN
set_option linter.unusedSimpArgs false
set_option linter.unusedVariables false
namespace Go.Fw
open Go

def updO (ρ : Nat → Value) (dst : Option Nat) (v : Value) : Nat → Value := match dst with | some t => upd ρ t v | none => ρ

section
variable {P : Program} {c : Ctx} {σ : AS} {ρ : Nat → Value} {w : World} {loc : Nat → Option (Nat × Nat)}

theorem RepL.putO (h : RepL P c σ ρ w [] [] loc) (dst : Option Nat) {v : Value} {x : AV} (hv : RepA P w (okOf c w σ.hp loc) loc v x) : RepL P c (σ.put dst x) (updO ρ dst v) w [] [] loc := by
  cases dst with
  | none => exact h
  | some t => exact h.put t hv

theorem stripsP_get : ∀ {l : List AV}, stripsP l → ∀ (i : Nat) x, l[i]? = some x → x.strip.1
  | [], _, i, x, hx => by simp at hx
  | y :: r, h, 0, x, hx => by simp at hx; subst hx; exact h.1
  | y :: r, h, i + 1, x, hx => by simp at hx; exact stripsP_get h.2 i x hx

/-- Operands of a call. -/
theorem RepL.args (h : RepL P c σ ρ w [] [] loc) (l : List Operand) (hs : stripsP (l.map σ.opd)) :
    (l.map (evalR ρ)).length = (strips (l.map σ.opd)).length ∧ ∀ (i : Nat) v x, (l.map (evalR ρ))[i]? = some v → (strips (l.map σ.opd))[i]? = some x → RepA P w (okOf c w σ.hp loc) loc v x := by
  refine ⟨by simp [strips], fun i v x hv hx => ?_⟩
  simp only [strips, List.getElem?_map, Option.map_eq_some_iff] at hv hx
  obtain ⟨a, ha, rfl⟩ := hv
  obtain ⟨b, ⟨b', hb', rfl⟩, rfl⟩ := hx
  rw [ha] at hb'; simp only [Option.some.injEq] at hb'; subst hb'
  exact (h.opd a).strip (stripsP_get hs i _ (by simp [ha]))

theorem run_enter {f : FuncId} (hc : callable P f = true) (args : Array Value) : (callFunc f args).run P w = .ok (.enter f args) w := by
  unfold callable at hc
  split at hc
  · rename_i fn hf
    simp only [Bool.and_eq_true, Bool.not_eq_true'] at hc
    have hb : fn.body.isNone = false := by
      cases hb : fn.body with
      | none => rw [hb] at hc; exact absurd hc.2 (by simp)
      | some b => rfl
    simp only [callFunc, Sem.run_bind, run_program, Result.andThen_ok, hf, hc.1, Bool.false_eq_true, if_false, hb, Sem.run_pure]
  · cases hc

theorem run_call {ρ : Nat → Value} {o : Oper} {cl : Call} {f : Operand} (ho : o.op = .call cl) (hcal : cl.callee = .value f) {g : FuncId} {fst cap : Array Value} (hf : evalR ρ f = .func (.func g) fst cap) (hc : callable P g = true) :
    (execOp (evalR ρ) o).run P w = .ok (.enter g (fst ++ cl.args.map (evalR ρ) ++ cap)) w := by
  simp only [execOp, ho, resolve, hcal, hf, Deferred.ofValue, Sem.run_bind, Sem.run_pure, Result.andThen_ok, invoke]
  exact run_enter hc _

/-- What is shown of a call suffices. -/
theorem vcCall_sound {N : Act → World → Prop} {Q : Exit → Act → World → Prop} {a : Act} {o : Oper} {cl : Call} {f : Operand} (ho : o.op = .call cl) (hcal : cl.callee = .value f)
    (h : RepL P c σ (fun s => a.tmps.getD s undef) w [] [] loc) (hs : (σ.opd f).strip.1) (hss : stripsP (cl.args.toList.map σ.opd)) {K : AV → AS → Prop} (hv : vcCall P σ (σ.opd f).strip.2 (strips (cl.args.toList.map σ.opd)) K)
    (hnext : ∀ x σ' v w' loc', K x σ' → RepL P c σ' (fun s => a.tmps.getD s undef) w' [v] [x] loc' → N (a.put o.dst v) w') : o.wp P a w N Q := by
  have heval : a.eval = evalR (fun s => a.tmps.getD s undef) := by funext x; cases x <;> rfl
  obtain ⟨al, ag⟩ := h.args cl.args.toList hss
  have hf := (h.opd f).strip hs
  unfold vcCall at hv
  split at hv
  · rename_i g first caps e
    rw [e] at hf
    obtain ⟨hcb, hv⟩ := hv
    generalize hval : evalR (fun s => a.tmps.getD s undef) f = fval at hf
    cases hf with | @fv _ fst cap _ _ h1 h2 h3 h4 =>
    have hrun := run_call (P := P) (w := w) (ρ := fun s => a.tmps.getD s undef) ho hcal hval hcb
    unfold Oper.wp
    rw [heval, hrun, Oper.upon_enter]
    have hall : RepL P c σ (fun s => a.tmps.getD s undef) w (fst.toList ++ cl.args.toList.map (evalR (fun s => a.tmps.getD s undef)) ++ cap.toList) (first ++ strips (cl.args.toList.map σ.opd) ++ caps) loc := by
      refine h.setVals (by simp only [List.length_append, Array.length_toList, al]; omega) fun i v x hv1 hx1 => ?_
      rw [List.getElem?_append] at hv1 hx1
      have e1 : (fst.toList ++ cl.args.toList.map (evalR (fun s => a.tmps.getD s undef))).length = (first ++ strips (cl.args.toList.map σ.opd)).length := by simp only [List.length_append, Array.length_toList, al]; omega
      rw [e1] at hv1
      split at hv1
      · rename_i hi
        rw [if_pos hi] at hx1
        rw [List.getElem?_append] at hv1 hx1
        have e2 : fst.toList.length = first.length := by simpa using h1
        rw [e2] at hv1
        split at hv1
        · rename_i hi2
          rw [if_pos hi2] at hx1
          exact h3 i v x (by rwa [Array.getElem?_toList] at hv1) hx1
        · rename_i hi2
          rw [if_neg hi2] at hx1
          exact ag _ v x hv1 hx1
      · rename_i hi
        rw [if_neg hi] at hx1
        exact h4 _ v x (by rwa [Array.getElem?_toList] at hv1) hx1
    have hargs : (fst.toList ++ cl.args.toList.map (evalR (fun s => a.tmps.getD s undef)) ++ cap.toList).toArray = fst ++ cl.args.map (evalR (fun s => a.tmps.getD s undef)) ++ cap := by
      apply Array.ext'; simp
    have := hv c _ w _ loc hall
    rw [hargs] at this
    refine this.mono fun e w' ⟨v, x, σ', loc', he, hk, hr⟩ => ?_
    subst he
    exact hnext x σ' v w' loc' hk hr
  · rename_i S e
    rw [e] at hf
    split at hv
    · rename_i p ds l hd
      obtain ⟨hp, hS⟩ := hv
      generalize hval : evalR (fun s => a.tmps.getD s undef) f = fval at hf
      cases hf with | clo hclo =>
      obtain ⟨g, fst, cap, rfl, hcb, H⟩ := hclo
      have hrun := run_call (P := P) (w := w) (ρ := fun s => a.tmps.getD s undef) ho hcal hval hcb
      unfold Oper.wp
      rw [heval, hrun, Oper.upon_enter]
      obtain ⟨d1, d2⟩ := toDA_rep h hd hp (l' := l) fun i hi => hi
      have := H w (okOf c w (σ.hp.dropL l) loc) (fun b hb => ⟨hb.dropL l, rfl⟩) (fun b hb => hb.1) ds (cl.args.toList.map (evalR (fun s => a.tmps.getD s undef))) (fun y => K (.d y) σ) (by rw [al, d1])
        (fun i v x hv1 hx1 => by
          have hlt : i < (strips (cl.args.toList.map σ.opd)).length := by rw [← al]; exact (List.getElem?_eq_some_iff.1 hv1).1
          exact d2 i v _ x (List.getElem?_eq_getElem hlt) hx1 (ag i v _ hv1 (List.getElem?_eq_getElem hlt))) hS
      have hargs : (cl.args.toList.map (evalR (fun s => a.tmps.getD s undef))).toArray = cl.args.map (evalR (fun s => a.tmps.getD s undef)) := by apply Array.ext'; simp
      rw [hargs] at this
      refine this.mono fun e w' ⟨v, x, he, hf, hr, hk, hx⟩ => ?_
      subst he
      exact hnext (.d x) σ v w' loc hk ((h.ext' hx).setVal1 (.d (hr.of_flat hf)))
    · exact hv.elim
  · exact hv.elim

end
end Go.Fw
