/- Expressions for words; automata that are drawn, perhaps of few words. -/
import Derived.Test.YtpecepipllbghaaDoorOl
import Derived.Test.YtpecepipllbghaaDoorGwB
set_option linter.unusedSimpArgs false
set_option linter.unusedVariables false
namespace Go.Fw
open Go Go.Proofs
set_option linter.unusedSectionVars false
set_option linter.unnecessarySimpa false

abbrev ssD' (ws : List (List UInt8)) : D := .list (ws.map sD)

set_option maxRecDepth 100000 in
theorem s_WordExpr (s : List UInt8) (hsl : s.length ≤ 9223372036854775807) : SCalls Tryd.prog 68 [sA s] fun sz xs => sz = 2 ∧ ∃ e : List Pt, xs = e.map Pt.d ∧ e.length ≤ 17 := by
  refine scalls_intro Ty.mixed Tryd.func68 rfl rfl rfl [] (by kernel_rfl) (by simp) ?_
  simp
  refine .dval (c_sWordValid s hsl) rfl (by simp) rfl ?_
  simp
  intro hv
  have hwl : (s.length : Int) ≤ 8 := letters_len hv
  refine LoopVC.at { g : Nat × List Pt // g.1 ≤ s.length ∧ g.2.length ≤ 2 * g.1 } (fun g => [(0, sA s), (3, .sl 2 900 0 g.1.2.length), (4, iA g.1.1)]) (fun g => [(900, .ar 2 (g.1.2.map Pt.d))]) [900] (fun g => s.length - g.1.1) ⟨(0, []), by simp, by simp⟩ (by simp) (by simp) ?_
  rintro ⟨⟨k, e⟩, hk, he⟩
  simp only at hk he
  rcases Nat.lt_or_ge k s.length with h | h
  · simp [h]
    generalize IntKind.i64.wrap (IntKind.u8.wrap ((s[k].toNat : Int) - 97)) = v
    refine ⟨⟨by omega, by omega⟩, fun _ => ⟨⟨by omega, by omega⟩, k + 1, e ++ [⟨3, v⟩, ⟨4, 0⟩], .mk ?_ ?_, ⟨h, by simp; omega⟩, by omega⟩, fun _ => ⟨k + 1, e ++ [⟨3, v⟩], .mk ?_ ?_, ⟨h, by simp; omega⟩, by omega⟩⟩
    · simp; exact wrap64 (by omega) (by omega)
    · simp [Pt.d]
    · simp; exact wrap64 (by omega) (by omega)
    · simp [Pt.d]
  · have : k = s.length := by omega
    subst this
    simp
    exact ⟨fun _ => ⟨⟨by omega, by omega⟩, e ++ [⟨2, 0⟩], by simp [Pt.d], by simp; omega⟩, fun _ => ⟨e, rfl, by omega⟩⟩

theorem fits2' (e : List Pt) : ∀ y ∈ List.take e.length (e.map Pt.d), y.fits 2 := fun y hy => fits2 e y (List.mem_of_mem_take hy)
set_option maxRecDepth 100000 in
theorem c_WordsExpr (ws : List (List UInt8)) (hl : ws.length ≤ 1000) (hw : ∀ w ∈ ws, w.length ≤ 1000) : TCalls Tryd.prog 60 [.d (ssD' ws)] fun r => ∃ (e : List Pt) (ok : Bool), r = [ptsD e, .bool ok] ∧ e.length ≤ 100 := by
  refine tcalls_intro Ty.mixed Tryd.func60 rfl rfl rfl [] (by kernel_rfl) (by simp) ?_
  simp
  refine LoopVC.wk (Wk.renB 800 901 (by omega) (by omega) (by simp [AS.free])) ?_
  refine LoopVC.at { g : Nat × List Pt // g.1 ≤ ws.length ∧ g.2.length ≤ 60 } (fun g => [(0, .d (ssD' ws)), (4, .sl 2 901 0 g.1.2.length), (5, iA g.1.1)]) (fun g => [(901, .ar 2 (g.1.2.map Pt.d))]) [901] (fun g => ws.length - g.1.1) ⟨(0, [⟨1, 0⟩]), by simp, by simp⟩ (by simp) (by simp [Pt.d]) ?_
  rintro ⟨⟨k, e⟩, hk, he⟩
  simp only at hk he
  rcases Nat.lt_or_ge k ws.length with h | h
  · have hwk := hw _ (List.getElem_mem h)
    simp [h]
    refine .freshS 1900 (s_WordExpr ws[k] (by omega)) (by omega) (by simp) rfl (by simp) ?_
    rintro _ _ ⟨rfl, x, rfl, hx⟩
    simp
    intro hx0
    refine ⟨fun hk0 hx60 => ?_, fun hk0 => ?_⟩
    · refine ⟨k + 1, x, ((Wk.mk (slots := [(0, .d (ssD' ws)), (4, .sl 2 1900 0 x.length), (5, iA (k + 1))]) (heap := [(1900, .ar 2 (x.map Pt.d))]) (used := [1900]) ?_ ?_).trans (Wk.renB 1900 901 (by omega) (by omega) (by simp [AS.free]))).trans (.mk ?_ ?_), ⟨h, by omega⟩, by omega⟩
      · simp; exact wrap64 (by omega) (by omega)
      · simp
      · simp
      · simp
    · refine ⟨⟨fits2' x, by omega, by omega⟩, ⟨by omega, by omega⟩, fun h60 => ?_⟩
      refine ⟨k + 1, e ++ x ++ [⟨5, 0⟩], .mk ?_ ?_, ⟨h, by simp; omega⟩, by omega⟩
      · simp; exact ⟨by omega, wrap64 (by omega) (by omega)⟩
      · simp [Pt.d, takeM]
  · simp [Nat.not_lt.2 h]
    exact ⟨e, takeM _ _, by omega⟩
end Go.Fw
