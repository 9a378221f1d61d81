/- Texts with their tokens' numbers, on both sides. -/
import Derived.Test.YtpecepipllbghaaDoorTkn
set_option linter.unusedSimpArgs false
set_option linter.unusedVariables false
namespace Go.Fw
open Go Go.Proofs
set_option linter.unusedSectionVars false
set_option linter.unnecessarySimpa false

theorem dmono {P : Program} {f : FuncId} {args : List AV} {R R' : D → Prop} (h : DCalls P f args R) (hk : ∀ r, R r → R' r) : DCalls P f args R' :=
  ACalls.mono h fun _ _ _ ⟨⟨r, h1, h2⟩, h3⟩ => ⟨⟨r, h1, hk r h2⟩, h3⟩
def digB (p : Int) : UInt8 := UInt8.ofNat (48 + p.toNat)

/-- The text so far. -/
def txK (ds : List Df) (s : List UInt8) : Nat → List UInt8
  | 0 => []
  | k + 1 => txK ds s k ++ ((s.take (atK ds s (k + 1))).drop (atK ds s k) ++ [digB (tk ds s (atK ds s k) ds.length).p])
theorem txK_succ (ds : List Df) (s : List UInt8) (k : Nat) : txK ds s (k + 1) = txK ds s k ++ ((s.take (atK ds s (k + 1))).drop (atK ds s k) ++ [digB (tk ds s (atK ds s k) ds.length).p]) := rfl
theorem txK_len (ds : List Df) (s : List UInt8) : ∀ k, (∀ j, j < k → tkOk ds s (atK ds s j) = true) → (txK ds s k).length = atK ds s k + k
  | 0, _ => rfl
  | k + 1, h => by
    have ih := txK_len ds s k fun j hj => h j (by omega)
    have h1 := atK_inc (h k (by omega))
    have h2 := atK_le ds s (k + 1)
    rw [txK_succ]
    simp [ih]
    omega
def TxR (ds : List Df) (s : List UInt8) (r : List UInt8) : Prop :=
  ((okPats ds = true ∧ textOk s = true) ∧ ∃ k, TksAll ds s k ∧ r = txK ds s k ++ s.drop (atK ds s k)) ∨ (¬ (okPats ds = true ∧ textOk s = true) ∧ r = [])
theorem TxR.uniq {ds : List Df} {s : List UInt8} {r q : List UInt8} (h : TxR ds s r) (h' : TxR ds s q) : r = q := by
  rcases h with ⟨h1, k, h2, rfl⟩ | ⟨h1, rfl⟩ <;> rcases h' with ⟨g1, k', g2, rfl⟩ | ⟨g1, rfl⟩
  · rw [h2.uniq g2]
  · exact absurd h1 g1
  · exact absurd g1 h1
  · rfl
theorem toks_get {ds : List Df} {s : List UInt8} {k j : Nat} (h : ∀ j, j < k → tkOk ds s (atK ds s j) = true) (hj : j < k) : (toksD ds s k)[j]? = some (tokD (tk ds s (atK ds s j) ds.length).p (atK ds s j) (atK ds s (j + 1) : Nat)) ∧ (∀ h, (toksD ds s k)[j]'h = tokD (tk ds s (atK ds s j) ds.length).p (atK ds s j) (atK ds s (j + 1) : Nat)) := by
  have hok := h j hj
  have hb := tk_bd ds s (atK_le ds s j) ds.length
  have e : tkD ds s (atK ds s j) = tokD (tk ds s (atK ds s j) ds.length).p (atK ds s j) (atK ds s (j + 1) : Nat) := by
    unfold tkD
    rw [hok, atK_succ hok, Int.toNat_of_nonneg (by omega)]; rfl
  refine ⟨?_, fun h => ?_⟩
  · simp [toksD, hj, e]
  · simp [toksD, e]

theorem dig_at (n : Nat) (h : n < 10) : (([48, 49, 50, 51, 52, 53, 54, 55, 56, 57, 97, 98, 99, 100, 101, 102, 103, 104, 105, 106, 107, 108, 109, 110, 111, 112, 113, 114, 115, 116, 117, 118, 119, 120, 121, 122] : List UInt8).take (n + 1)).drop n = [digB n] := by
  have : ∀ n : Fin 10, (([48, 49, 50, 51, 52, 53, 54, 55, 56, 57, 97, 98, 99, 100, 101, 102, 103, 104, 105, 106, 107, 108, 109, 110, 111, 112, 113, 114, 115, 116, 117, 118, 119, 120, 121, 122] : List UInt8).take (n.1 + 1)).drop n.1 = [digB n.1] := by decide
  exact this ⟨n, h⟩

set_option maxRecDepth 100000 in
theorem c_small (n : Nat) (h : n < 10) : DCalls Tryd.prog 63 [iA n] fun y => y = sD [digB n] := by
  refine dcalls_intro Ty.mixed Tryd.func63 rfl rfl rfl [] (by kernel_rfl) (by simp) ?_
  have hw : IntKind.i64.wrap ((n : Int) + 1) = ((n + 1 : Nat) : Int) := by rw [wrap64 (by omega) (by omega)]; omega
  have hd := dig_at n h
  simp [hw]
  exact ⟨fun _ => ⟨⟨by omega, by omega⟩, by simpa using hd⟩, fun h => by omega⟩
set_option maxRecDepth 100000 in
theorem c_FormatInt (n : Nat) (h : n < 10) : DCalls Tryd.prog 49 [iA n, iA 10] fun y => y = sD [digB n] := by
  refine dcalls_intro Ty.mixed Tryd.func49 rfl rfl rfl [] (by kernel_rfl) (by simp) ?_
  simp [show (n : Int) < 100 by omega, show n < 100 by omega]
  refine .dval (c_small n h) rfl (by simp) rfl ?_
  simp
set_option maxRecDepth 100000 in
theorem c_itoa (n : Nat) (h : n < 10) : DCalls Tryd.prog 26 [iA n] fun y => y = sD [digB n] := by
  refine dcalls_intro Ty.mixed Tryd.func26 rfl rfl rfl [] (by kernel_rfl) (by simp) ?_
  simp
  refine .dval (c_FormatInt n h) rfl (by simp) rfl ?_
  simp
set_option maxRecDepth 100000 in
theorem c_Itoa (n : Nat) (h : n < 10) : DCalls Tryd.prog 14 [iA n] fun y => y = sD [digB n] := by
  refine dcalls_intro Ty.mixed Tryd.func14 rfl rfl rfl [] (by kernel_rfl) (by simp) ?_
  simp
  refine .dval (c_itoa n h) rfl (by simp) rfl ?_
  simp

set_option maxHeartbeats 800000 in
set_option maxRecDepth 100000 in
theorem c_TokenText (ds : List Df) (s : List UInt8) (hdl : ds.length ≤ 9223372036854775807) (hdf : ∀ a ∈ ds, a.fine) (hsl : s.length ≤ 9223372036854775807) : DCalls Tryd.prog 6 [.d (dsD ds), sA s] fun y => ∃ r, y = sD r ∧ TxR ds s r := by
  refine dcalls_intro Ty.mixed Tryd.func6 rfl rfl rfl [9] (by kernel_rfl) (by simp) ?_
  simp
  refine .tdat (c_Tokens ds s hdl hdf hsl) rfl (by simp) ?_
  intro r hr
  rcases hr with ⟨⟨h1, h2⟩, k, hk, rfl⟩ | ⟨hno, rfl⟩
  · have hle := atK_le ds s k
    have hwl : (s.length : Int) ≤ 30 := letters_len h2
    have htl := toksD_len ds s k
    have hge := atK_ge hk.1
    have hpl := okPats_len h1
    simp [show ¬ ((atK ds s k : Int) < 0) by omega]
    refine LoopVC.at { j : Nat // j ≤ k } (fun j => [(1, sA s), (6, iA (atK ds s k)), (7, sA (txK ds s j.1)), (18, .d (.list (toksD ds s k))), (19, iA k), (20, iA j.1)]) (fun _ => []) [] (fun j => k - j.1) ⟨0, by omega⟩ (by simp [htl, txK]) (by simp) ?_
    rintro ⟨j, hj⟩
    have hx := txK_len ds s j fun i hi => hk.1 i (by omega)
    rcases Nat.lt_or_ge j k with hjk | hjk
    · obtain ⟨b1, b2⟩ := toks_get hk.1 hjk
      have hin := atK_inc (hk.1 j hjk)
      have hle1 := atK_le ds s (j + 1)
      have hb := tk_bd ds s (atK_le ds s j) ds.length
      have hsu := txK_succ ds s j
      obtain ⟨p, hp⟩ : ∃ p : Nat, (tk ds s (atK ds s j) ds.length).p = p := ⟨(tk ds s (atK ds s j) ds.length).p.toNat, by omega⟩
      rw [hp] at b1 b2 hsu
      have hp10 : p < 10 := by omega
      generalize toksD ds s k = X at *
      simp [htl, hjk, b1, b2, tokD]
      refine .one (sch [.pur 0, .pur 1, .pur 2, .pur 3, .pur 4, .pur 5, .pur 6, .pur 7, .pur 8, .eff 9 [0, 1, 2, 3, 4, 5, 6], .pur 10, .pur 11, .eff 12 []]) (by kernel_rfl) ?_
      simp [htl, hjk, b1, b2, tokD]
      refine ⟨⟨by omega, by omega⟩, .dval (c_Itoa p hp10) rfl (by simp) rfl ?_⟩
      simp
      refine ⟨by omega, by omega, by omega, j + 1, .mk (by simp [hsu]; exact wrap64 (by omega) (by omega)) (by simp), by omega, by omega⟩
    · have : j = k := by omega
      subst this
      simp [htl]
      exact ⟨hle, by omega, .inl ⟨⟨h1, h2⟩, j, hk, rfl⟩⟩
  · simp
    exact .inr ⟨hno, rfl⟩

set_option maxHeartbeats 800000 in
set_option maxRecDepth 100000 in
theorem c_sTokenText (ds : List Df) (s : List UInt8) (hdl : ds.length ≤ 9223372036854775807) (hdf : ∀ a ∈ ds, a.fine) (hsl : s.length ≤ 9223372036854775807) : DCalls Tryd.prog 7 [.d (dsD ds), sA s] fun y => ∃ r, y = sD r ∧ TxR ds s r := by
  refine dcalls_intro Ty.mixed Tryd.func7 rfl rfl rfl [] (by kernel_rfl) (by simp) ?_
  simp
  refine .tdat (c_sTokens ds s hdl hdf hsl) rfl (by simp) ?_
  intro r hr
  rcases hr with ⟨⟨h1, h2⟩, k, hk, rfl⟩ | ⟨hno, rfl⟩
  · have hle := atK_le ds s k
    have hwl : (s.length : Int) ≤ 30 := letters_len h2
    have htl := toksD_len ds s k
    have hge := atK_ge hk.1
    have hpl := okPats_len h1
    simp [show ¬ ((atK ds s k : Int) < 0) by omega]
    refine LoopVC.at { j : Nat // j ≤ k } (fun j => [(1, sA s), (5, sA (txK ds s j.1)), (6, .d (.list (toksD ds s k))), (7, iA (atK ds s k)), (8, iA j.1)]) (fun _ => []) [] (fun j => k - j.1) ⟨0, by omega⟩ (by simp [htl, txK]) (by simp) ?_
    rintro ⟨j, hj⟩
    have hx := txK_len ds s j fun i hi => hk.1 i (by omega)
    rcases Nat.lt_or_ge j k with hjk | hjk
    · obtain ⟨b1, b2⟩ := toks_get hk.1 hjk
      have hin := atK_inc (hk.1 j hjk)
      have hle1 := atK_le ds s (j + 1)
      have hb := tk_bd ds s (atK_le ds s j) ds.length
      have hsu := txK_succ ds s j
      obtain ⟨p, hp⟩ : ∃ p : Nat, (tk ds s (atK ds s j) ds.length).p = p := ⟨(tk ds s (atK ds s j) ds.length).p.toNat, by omega⟩
      rw [hp] at b1 b2 hsu
      have hp10 : p < 10 := by omega
      generalize toksD ds s k = X at *
      simp [htl, hjk, b1, b2, tokD]
      refine .one (sch [.pur 0, .pur 1, .pur 2, .pur 3, .pur 4, .pur 5, .pur 6, .pur 7, .pur 8, .pur 9, .pur 10, .pur 11, .pur 12, .pur 13, .pur 14, .pur 15, .pur 16, .pur 17, .pur 18, .pur 19, .pur 20, .eff 21 [0, 1, 2, 3, 4, 5, 6, 7, 8, 9, 10, 11, 12, 13], .pur 22, .pur 23, .eff 24 []]) (by kernel_rfl) ?_
      simp [htl, hjk, b1, b2, tokD]
      have hdw : IntKind.u8.wrap (IntKind.i64.wrap (48 + (p : Int))) = ((digB p).toNat : Int) := by
        have : ∀ n : Fin 10, IntKind.u8.wrap (IntKind.i64.wrap (48 + (n.1 : Int))) = ((digB n.1).toNat : Int) := by decide
        exact this ⟨p, hp10⟩
      refine ⟨⟨by omega, by omega⟩, by omega, ⟨⟨by omega, by omega⟩, by omega⟩, by omega, ⟨j + 1, .mk (by simp [hsu, hdw]; exact wrap64 (by omega) (by omega)) (by simp), by omega, by omega⟩⟩
    · have : j = k := by omega
      subst this
      simp [htl]
      exact ⟨hle, by omega, .inl ⟨⟨h1, h2⟩, j, hk, rfl⟩⟩
  · simp
    exact .inr ⟨hno, rfl⟩
end Go.Fw
