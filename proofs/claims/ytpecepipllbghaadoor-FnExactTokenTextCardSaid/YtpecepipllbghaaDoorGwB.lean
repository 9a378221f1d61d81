/- A block of the frame's own under another number. -/
import Derived.Test.YtpecepipllbghaaDoorFwb
set_option linter.unusedSimpArgs false
set_option linter.unusedVariables false
namespace Go.Fw
open Go

def gR (k k' id : Nat) : Nat := if id = k then k' else id
/-- Block 'k' gets the number 'q'. -/
def AS.renB (σ : AS) (k q : Nat) : AS :=
  ⟨fun s => (σ.sl s).ren (gR k q), ⟨fun id => if id = q then (σ.hp.heap k).map (Blk.ren (gR k q)) else if id = k then none else (σ.hp.heap id).map (Blk.ren (gR k q)), σ.hp.lock⟩, upd σ.used q true⟩

section
variable {P : Program} {σ : AS}

theorem Wk.renB (k q : Nat) (hk : 100 ≤ k) (hne : k ≠ q) (hf : σ.free q) : Wk P σ (σ.renB k q) := by
  intro c ρ w loc h
  obtain ⟨hq1, hq2⟩ := h.free_heap hf
  let loc' : Nat → Option (Nat × Nat) := fun id => if id = q then loc k else if id = k then none else loc id
  have hl1 : loc' q = loc k := by simp [loc']
  have hl2 : loc' k = none := by simp [loc', hne]
  have hl3 : ∀ id, id ≠ q → id ≠ k → loc' id = loc id := fun id h1 h2 => by simp [loc', h1, h2]
  have hg : ∀ id r, loc id = some r → loc' (gR k q id) = some r := fun id r hr => by
    by_cases h1 : id = k
    · subst h1; simp [gR, hl1, hr]
    · have h2 : id ≠ q := fun e => by subst e; rw [hq2] at hr; cases hr
      simp [gR, h1, hl3 id h2 h1, hr]
  have hlive : ∀ id, Live (σ.renB k q).hp id → (id = q ∧ Live σ.hp k) ∨ (id ≠ q ∧ id ≠ k ∧ Live σ.hp id) := fun id hL => by
    unfold Live at hL ⊢
    simp only [AS.renB] at hL
    by_cases h1 : id = q
    · rw [if_pos h1] at hL
      refine .inl ⟨h1, fun e => hL (by rw [e]; rfl)⟩
    · rw [if_neg h1] at hL
      by_cases h2 : id = k
      · rw [if_pos h2] at hL; exact absurd rfl hL
      · rw [if_neg h2] at hL
        exact .inr ⟨h1, h2, fun e => hL (by rw [e]; rfl)⟩
  have hsrc : ∀ id, Live (σ.renB k q).hp id → ∃ j, Live σ.hp j ∧ loc' id = loc j ∧ (id = q → j = k) ∧ (id ≠ q → j = id) := fun id hL => by
    rcases hlive id hL with ⟨h1, h2⟩ | ⟨h1, h2, h3⟩
    · exact ⟨k, h2, by rw [h1, hl1], fun _ => rfl, fun h => absurd h1 h⟩
    · exact ⟨id, h3, hl3 id h1 h2, fun h => absurd h h1, fun _ => rfl⟩
  have hok : ∀ b, okOf c w σ.hp loc b → okOf c w (σ.renB k q).hp loc' b ∧ w.heap[b]? = w.heap[b]? := fun b ⟨h1, h2, h3⟩ => by
    refine ⟨⟨h1, h2, fun id δ hL e => ?_⟩, rfl⟩
    obtain ⟨j, h4, h5, _, _⟩ := hsrc id hL
    exact h3 j δ h4 (h5 ▸ e)
  refine ⟨loc', fun s => ?_, h.len, fun i v x hv hx => ?_, fun id blk hb => ?_, fun id id' b δ δ' h1 h2 e1 e2 => ?_, fun id b δ h1 e1 => ?_, h.ext, fun id hid => ?_, fun id hid => ?_, fun id hL => ?_⟩
  · exact ((h.slots s).ren (gR k q) hg).mono hok (Shapes.refl w)
  · simp at hx
  · simp only [AS.renB] at hb
    by_cases h1 : id = q
    · subst h1
      rw [if_pos rfl, Option.map_eq_some_iff] at hb
      obtain ⟨b0, hb0, rfl⟩ := hb
      have := (h.heap k b0 hb0).ren (gR k id) hg (loc' := loc') (fun e => by simp [gR, hl1, e])
      have e : gR k id k = id := by simp [gR]
      rw [e] at this
      exact this.mono hok (Shapes.refl w) (fun _ _ _ => rfl)
    · rw [if_neg h1] at hb
      by_cases h2 : id = k
      · rw [if_pos h2] at hb; cases hb
      · rw [if_neg h2, Option.map_eq_some_iff] at hb
        obtain ⟨b0, hb0, rfl⟩ := hb
        have := (h.heap id b0 hb0).ren (gR k q) hg (loc' := loc') (fun e => by simp [gR, h2, hl3 id h1 h2, e])
        have e : gR k q id = id := by simp [gR, h2]
        rw [e] at this
        exact this.mono hok (Shapes.refl w) (fun _ _ _ => rfl)
  · obtain ⟨j, a1, a2, a3, a4⟩ := hsrc id h1
    obtain ⟨j', b1, b2, b3, b4⟩ := hsrc id' h2
    have hjj := h.inj j j' b δ δ' a1 b1 (a2 ▸ e1) (b2 ▸ e2)
    by_cases h3 : id = q
    · by_cases h4 : id' = q
      · rw [h3, h4]
      · have q1 := a3 h3
        have q2 := b4 h4
        rcases hlive id' h2 with ⟨h5, _⟩ | ⟨_, h5, _⟩
        · exact absurd h5 h4
        · omega
    · by_cases h4 : id' = q
      · have q1 := b3 h4
        have q2 := a4 h3
        rcases hlive id h1 with ⟨h5, _⟩ | ⟨_, h5, _⟩
        · exact absurd h5 h3
        · omega
      · have q1 := a4 h3
        have q2 := b4 h4
        omega
  · obtain ⟨j, a1, a2, _, _⟩ := hsrc id h1
    exact h.own j b δ a1 (a2 ▸ e1)
  · have h1 : id ≠ q := fun e => by have := hf.1; omega
    have h2 : id ≠ k := by omega
    rw [hl3 id h1 h2]; exact h.fix id hid
  · simp only [AS.renB, upd] at hid
    by_cases h1 : id = q
    · rw [if_pos h1] at hid; cases hid
    · rw [if_neg h1] at hid
      by_cases h2 : id = k
      · rw [h2]; exact hl2
      · rw [hl3 id h1 h2]; exact h.dom id hid
  · simp only [AS.renB, upd]
    by_cases h1 : id = q
    · rw [if_pos h1]
    · rw [if_neg h1]
      rcases hlive id hL with ⟨h5, _⟩ | ⟨_, _, h5⟩
      · exact absurd h5 h1
      · exact h.liveU id h5

theorem renB_sl {k q s : Nat} : (σ.renB k q).sl s = (σ.sl s).ren (gR k q) := rfl
theorem renB_heap {k q id : Nat} : (σ.renB k q).hp.heap id = if id = q then (σ.hp.heap k).map (Blk.ren (gR k q)) else if id = k then none else (σ.hp.heap id).map (Blk.ren (gR k q)) := rfl
theorem renB_used {k q id : Nat} : (σ.renB k q).used id = if id = q then true else σ.used id := rfl
attribute [simp] renB_sl renB_heap renB_used AV.ren AV.renL Blk.ren gR
end
end Go.Fw
