/- A part of the proofs of this seat: SxP. No condition is set. -/
import Derived.Test.YtchhjighipjnnaaSxO
set_option linter.unusedVariables false
set_option linter.unusedSimpArgs false
namespace Go.Sx

/-! ### loops -/
def lpX (K : St → Prop) (Q : XE → St → Prop) : XE → St → Prop := fun e s => match e with | .normal => K s | e => Q e s
/-- what the loop keeps of a state -/
def prK (ks : List Nat) (K : St → Prop) (st : St) : Prop := K (prune ks st)
section
variable {P : Program} {cfg : Cfg} {dr : Array Oper → (St → Prop) → St → Prop} {e : List (Nat × EV)} {L : List (Nat × List AV)} {H : List (List AV)} {Q : XE → St → Prop} {K : St → Prop}
/-- A LOOP OF N ROUNDS: the state at the head of round k is S k; round N does not come back -/
theorem b_loop (ks : List Nat) (N : Nat) (S : Nat → St) {c : Code} (h0 : prune ks ⟨e, L, H⟩ = S 0)
    (hs : ∀ k, k < N → ∀ K : St → Prop, K (S (k + 1)) → Ex P cfg dr c (lpX (prK ks K) Q) (S k))
    (hx : ∀ K : St → Prop, Ex P cfg dr c (lpX (prK ks K) Q) (S N)) : Ex P cfg dr (.loop c) Q ⟨e, L, H⟩ := by
  show ∃ ks n, roundsX (Ex P cfg dr c) ks Q n (prune ks ⟨e, L, H⟩)
  refine ⟨ks, N + 1, ?_⟩
  rw [h0]
  have key : ∀ m k, k + m = N → roundsX (Ex P cfg dr c) ks Q (m + 1) (S k) := by
    intro m
    induction m with
    | zero => intro k hk; rw [Nat.add_zero] at hk; subst hk; exact hx (roundsX (Ex P cfg dr c) ks Q 0)
    | succ m ih => intro k hk; exact hs k (by omega) (roundsX (Ex P cfg dr c) ks Q (m + 1)) (ih (k + 1) (by omega))
  exact key N 0 (by omega)
theorem lp_n (h : K ⟨e, L, H⟩) : lpX K Q .normal ⟨e, L, H⟩ := h
theorem lp_r (h : Q .ret ⟨e, L, H⟩) : lpX K Q .ret ⟨e, L, H⟩ := h
theorem lp_e {i : Nat} (h : Q (.exit i) ⟨e, L, H⟩) : lpX K Q (.exit i) ⟨e, L, H⟩ := h
theorem pr_k {ks : List Nat} {s : St} (hp : prune ks ⟨e, L, H⟩ = s) (h : K s) : prK ks K ⟨e, L, H⟩ := by subst hp; exact h
end
end Go.Sx
