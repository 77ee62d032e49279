/- A part of the proofs of this seat: RG. No condition is set. -/
import Derived.Test.YtchhjighipjnnaaRF
import Derived.KernelRfl
set_option linter.unusedVariables false
namespace Go.Sx
/-! ### what the model answers by itself: a float's bits -/
section
variable {P : Program} {f : Nat} {fn : Func} (h1 : P.funcs[f]? = some fn) (h2 : (fn.name == "runtime.NumGoroutine") = false) (h3 : fn.body.isNone = true) (h4 : Extern.findNext fn = none)
include h1 h2 h3 h4
theorem bitsX (h5 : Extern.find fn = some Extern.MathFloatBits.float64bits) (b : Nat) (w : World) : (callFunc f #[.float .f64 b]).run P w = .ok (.value (.int .u64 b)) w := by
  rw [run_callFunc_extern h1 h2 h3 h4 h5]
  rfl
theorem fromX (h5 : Extern.find fn = some Extern.MathFloatBits.float64frombits) (n : Int) (w : World) : (callFunc f #[.int .u64 n]).run P w = .ok (.value (.float .f64 n.toNat)) w := by
  rw [run_callFunc_extern h1 h2 h3 h4 h5]
  rfl
theorem xbits_raw (h5 : Extern.find fn = some Extern.MathFloatBits.float64bits) (H : List (List AV)) (b : Nat) : CSpec P f [.fraw b] H (.int .u64 b) H := by
  refine .inr ⟨rfl, fun w g cargs h => ?_⟩
  simp only [LRep] at h
  obtain ⟨v, r, hv, h6, rfl⟩ := h
  simp only [VRep] at h6
  obtain ⟨rfl, _⟩ := h6
  have : cargs = #[.float .f64 b] := Array.ext' hv
  subst this
  exact ⟨_, bitsX h1 h2 h3 h4 h5 b w, by simp [VRep]⟩
theorem xbits_flt (h5 : Extern.find fn = some Extern.MathFloatBits.float64bits) (H : List (List AV)) (b : Nat) (hn : ¬ isNaN b = true) : CSpec P f [.flt b] H (.int .u64 b) H := by
  refine .inr ⟨rfl, fun w g cargs h => ?_⟩
  simp only [LRep] at h
  obtain ⟨v, r, hv, h6, rfl⟩ := h
  simp only [VRep] at h6
  obtain ⟨c, rfl, _, hc⟩ := h6
  have hcb : c = b := by
    unfold cn at hc
    split at hc
    · exfalso; apply hn; rw [← hc]; decide
    · exact hc
  subst hcb
  have : cargs = #[.float .f64 c] := Array.ext' hv
  subst this
  exact ⟨_, bitsX h1 h2 h3 h4 h5 c w, by simp [VRep]⟩
theorem xfrom (h5 : Extern.find fn = some Extern.MathFloatBits.float64frombits) (H : List (List AV)) (n : Int) (hn : 0 ≤ n ∧ n ≤ 18446744073709551615) : CSpec P f [.int .u64 n] H (.fraw n.toNat) H := by
  refine .inr ⟨rfl, fun w g cargs h => ?_⟩
  simp only [LRep] at h
  obtain ⟨v, r, hv, h6, rfl⟩ := h
  simp only [VRep] at h6
  subst h6
  have : cargs = #[.int .u64 n] := Array.ext' hv
  subst this
  exact ⟨_, fromX h1 h2 h3 h4 h5 n w, by simp only [VRep]; exact ⟨trivial, by omega⟩⟩
end
theorem VRep.fl {w : World} {g : Gh} {b x : Nat} {v : Value} (h : VRep w g (.fraw b) v) (hx : cn b = x) : VRep w g (.flt x) v := by
  simp only [VRep] at h ⊢
  exact ⟨b, h.1, h.2, hx⟩
theorem CSpec.fl {P : Program} {f : Nat} {args : List AV} {H H' : List (List AV)} {b x : Nat} (h : CSpec P f args H (.fraw b) H') (hx : cn b = x) : CSpec P f args H (.flt x) H' := by
  rcases h with ⟨h1, h2⟩ | ⟨rfl, h2⟩
  · exact .inl ⟨h1, fun w g cargs hw hl => (h2 w g cargs hw hl).mono fun e w' ⟨v, g', a, b, c, d⟩ => ⟨v, g', a, b, c, d.fl hx⟩⟩
  · exact .inr ⟨rfl, fun w g cargs hl => (h2 w g cargs hl).imp fun v h => ⟨h.1, h.2.fl hx⟩⟩
end Go.Sx
