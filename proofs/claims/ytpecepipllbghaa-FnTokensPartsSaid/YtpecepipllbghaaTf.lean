/- Tokens are parts. -/
import Derived.Test.YtpecepipllbghaaTe
import Derived.Test.YtpecepipllbghaaOw
set_option linter.unusedSimpArgs false
set_option linter.unusedVariables false
namespace Go.Fw
open Go Go.Proofs
set_option linter.unusedSectionVars false
set_option linter.unnecessarySimpa false

section
variable {P : Program} {σ : AS}
/-- A call's first argument is a slice of the frame's own, which a slot also holds: it is taken as data from now on. -/
theorem CallVC.frz0 {f : FuncId} {x : AV} {rest : List AV} {p : Prop} {y : D} {l : List Nat} {K : AV → AS → Prop} (s : Nat) (hx : σ.sl s = x) (hd : toD σ.hp x = some (p, y, l)) (hp : p)
    (h : CallVC P f (.d y :: rest) ((σ.withHp (σ.hp.dropL l)).put (some s) (.d y)) K) : CallVC P f (x :: rest) σ K := by
  intro c ρ w vals loc hr
  have h2 := RepL.dropL l hr
  have hs := toD_rep hr (by rw [hx]; exact hd) hp (hr.slots s) (l' := l) fun i hi => hi
  refine h c ρ w vals loc ⟨fun t => ?_, by rw [h2.len]; rfl, fun i v z hv hz => ?_, h2.heap, h2.inj, h2.own, h2.ext, h2.fix, h2.dom, h2.liveU⟩
  · simp only [AS.put, AS.withHp, upd]
    by_cases ht : t = s
    · subst ht; rw [if_pos rfl]; exact .d hs
    · rw [if_neg ht]; exact h2.slots t
  · cases i with
    | zero =>
      simp only [List.getElem?_cons_zero, Option.some.injEq] at hz
      subst hz
      exact .d (toD_rep hr hd hp (hr.vals 0 v x hv rfl) (l' := l) fun i hi => hi)
    | succ i =>
      exact h2.vals (i + 1) v z hv hz
end

theorem dv_snoc {a : Df} {n : Nat} {x y : List UInt8} (hx : Dv a n x) (hy : y ≠ []) (ha : a.acc y = true) : Dv a (n + 1) (x ++ y) := ⟨x, y, rfl, hy, ha, hx⟩
theorem atK_dv {a : Df} {s : List UInt8} : ∀ {k : Nat}, (∀ j, j < k → tkOk [a] s (atK [a] s j) = true) → Dv a k (s.take (atK [a] s k))
  | 0, _ => rfl
  | k + 1, h => by
    have ih := atK_dv (k := k) fun j hj => h j (by omega)
    have hok := h k (by omega)
    have hle := atK_le [a] s k
    have hle2 := atK_le [a] s (k + 1)
    have hin := atK_inc hok
    have hsu := atK_succ hok
    have hlt : (atK [a] s k : Int) < (tk [a] s (atK [a] s k) 1).t := by simpa [tkOk] using hok
    obtain ⟨p, p1, p2, p3, _⟩ := tk_is [a] s (atK [a] s k) 1 hlt
    have p0 : p = 0 := by omega
    subst p0
    have hd : ([a] : List Df).getD 0 ⟨[], []⟩ = a := rfl
    rw [hd] at p3
    obtain ⟨i, i1, i2, i3⟩ := long_acc a s (atK [a] s k) (s.length - atK [a] s k) (by unfold longest at p3; omega)
    have hlen : ([a] : List Df).length = 1 := rfl
    rw [hlen] at hsu
    have hi : atK [a] s (k + 1) = atK [a] s k + i := by
      unfold longest at p3
      omega
    have e : s.take (atK [a] s (k + 1)) = s.take (atK [a] s k) ++ (s.drop (atK [a] s k)).take i := by rw [hi, List.take_add]
    rw [e]
    refine dv_snoc ih (fun hnil => ?_) i3
    have := congrArg List.length hnil
    simp at this
    omega

theorem tks_upto (ds : List Df) (s : List UInt8) : ∀ m, (∃ k, TksAll ds s k) ∨ ∀ j, j < m → tkOk ds s (atK ds s j) = true
  | 0 => .inr fun j hj => absurd hj (Nat.not_lt_zero j)
  | m + 1 => by
    rcases tks_upto ds s m with h | h
    · exact .inl h
    · cases hc : tkOk ds s (atK ds s m) with
      | false => exact .inl ⟨m, h, hc⟩
      | true =>
        refine .inr fun j hj => ?_
        rcases Nat.lt_or_ge j m with h1 | h1
        · exact h j h1
        · have : j = m := by omega
          subst this; exact hc
theorem tks_ex (ds : List Df) (s : List UInt8) : ∃ k, TksAll ds s k := by
  rcases tks_upto ds s (s.length + 1) with h | h
  · exact h
  · have h1 := atK_ge h
    have h2 := atK_le ds s (s.length + 1)
    omega

set_option maxHeartbeats 800000 in
set_option maxRecDepth 100000 in
theorem c_FnTokensParts (code : List UInt8) (hl : code.length ≤ 9223372036854775807) : DCalls Try.prog 6 [.d (.list (codeD code))] fun y => y = .bool true := by
  refine dcalls_intro Ty.mixed Try.func6 rfl rfl rfl [] (by kernel_rfl) (by simp) ?_
  simp [codeD_lenD]
  intro h20
  refine .tdat (c_DrawFewestParts code) rfl (by simp) ?_
  rintro _ ⟨a, s, rfl, ha, hs⟩
  have hf := ha.fine
  have hf1 : ∀ b ∈ [a], b.fine := fun b hb => by simp at hb; subst hb; exact hf
  have hT := c_Tokens [a] s (by simp) hf1 (by omega)
  have hS := c_sTokens [a] s (by simp) hf1 (by omega)
  obtain ⟨X, n, hT, hS, hfin⟩ : ∃ (X : List D) (n : Int), TCalls Try.prog 19 [.d (dsD [a]), sA s] (fun r => r = [.list X, iD n]) ∧ TCalls Try.prog 20 [.d (dsD [a]), sA s] (fun r => r = [.list X, iD n]) ∧ (n = s.length → 0 ≤ fewest a s ∧ fewest a s ≤ X.length) := by
    by_cases hV : okPats [a] = true ∧ textOk s = true
    · obtain ⟨k, hk⟩ := tks_ex [a] s
      refine ⟨toksD [a] s k, atK [a] s k, tmono hT fun r hr => hr.uniq (.inl ⟨hV, k, hk, rfl⟩), tmono hS fun r hr => hr.uniq (.inl ⟨hV, k, hk, rfl⟩), fun hn => ?_⟩
      have hd := atK_dv hk.1
      have hn' : atK [a] s k = s.length := by omega
      rw [hn', List.take_length] at hd
      have := (fewest_dv (by rw [← okPats_one]; exact hV.1) hV.2).2.1 k hd
      rw [toksD_len]; exact this
    · exact ⟨[], -1, tmono hT fun r hr => hr.uniq (.inr ⟨hV, rfl⟩), tmono hS fun r hr => hr.uniq (.inr ⟨hV, rfl⟩), fun hn => by omega⟩
  simp [Df.d]
  refine .frz0 5 (by simp) rfl (by simp) ?_
  simp
  refine .tdat hT rfl (by simp [Df.d]) ?_
  rintro _ rfl
  simp
  refine .tdat hS rfl (by simp [Df.d]) ?_
  rintro _ rfl
  simp
  refine .dval (c_FewestParts a s hf (by omega)) rfl (by simp [Df.d]) rfl ?_
  simp
  refine ⟨fun h => ⟨h, fun h2 => ⟨h, h2⟩⟩, ?_⟩
  refine .flat (fun _ => c_alive) rfl (by simp) rfl (by simp) ?_
  simp
  by_cases hn : n = (s.length : Int)
  · obtain ⟨g1, g2⟩ := hfin hn
    simp [hn, g1, g2]
  · simp [hn]
end Go.Fw
