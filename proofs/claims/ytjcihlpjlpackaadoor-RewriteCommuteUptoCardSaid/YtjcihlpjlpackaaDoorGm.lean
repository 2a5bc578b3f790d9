/-
  Loops whose states hang on five variables or more, over abstract states. Proved here: each from the loop of one variable. No conditions.
-/
import Derived.Test.YtjcihlpjlpackaaDoorGl
set_option linter.unusedVariables false
namespace Go.GH
open Go
section
variable {C : Ctx} {st : St} {Q : Exit → St → Prop} {α β γ δ ε ζ η θ : Type} {c : Code}

theorem SCode.loop5 (I : α → β → γ → δ → ε → St) (Inv : α → β → γ → δ → ε → Prop) (μ : α → β → γ → δ → ε → Nat) (x : α) (y : β) (z : γ) (u : δ) (v : ε) (hi : Inv x y z u v) (h₀ : (I x y z u v).Le st)
    (round : ∀ x y z u v, Inv x y z u v → SCode C c (I x y z u v) (fun e st' => match e with
      | .normal => ∃ x' y' z' u' v', Inv x' y' z' u' v' ∧ μ x' y' z' u' v' < μ x y z u v ∧ (I x' y' z' u' v').Le st'
      | e => Q e st')) : SCode C (.loop c) st Q :=
  SCode.loopP (fun p : α × β × γ × δ × ε => I p.1 p.2.1 p.2.2.1 p.2.2.2.1 p.2.2.2.2) (fun p => Inv p.1 p.2.1 p.2.2.1 p.2.2.2.1 p.2.2.2.2) (fun p => μ p.1 p.2.1 p.2.2.1 p.2.2.2.1 p.2.2.2.2) (x, y, z, u, v) hi h₀ (fun p hp => (round p.1 p.2.1 p.2.2.1 p.2.2.2.1 p.2.2.2.2 hp).mono (fun e st' q => by
    cases e <;> first | (obtain ⟨x, y, z, u, v, h⟩ := q; exact ⟨(x, y, z, u, v), h⟩) | exact q))

theorem SCode.loop6 (I : α → β → γ → δ → ε → ζ → St) (Inv : α → β → γ → δ → ε → ζ → Prop) (μ : α → β → γ → δ → ε → ζ → Nat) (x : α) (y : β) (z : γ) (u : δ) (v : ε) (q : ζ) (hi : Inv x y z u v q) (h₀ : (I x y z u v q).Le st)
    (round : ∀ x y z u v q, Inv x y z u v q → SCode C c (I x y z u v q) (fun e st' => match e with
      | .normal => ∃ x' y' z' u' v' q', Inv x' y' z' u' v' q' ∧ μ x' y' z' u' v' q' < μ x y z u v q ∧ (I x' y' z' u' v' q').Le st'
      | e => Q e st')) : SCode C (.loop c) st Q :=
  SCode.loopP (fun p : α × β × γ × δ × ε × ζ => I p.1 p.2.1 p.2.2.1 p.2.2.2.1 p.2.2.2.2.1 p.2.2.2.2.2) (fun p => Inv p.1 p.2.1 p.2.2.1 p.2.2.2.1 p.2.2.2.2.1 p.2.2.2.2.2) (fun p => μ p.1 p.2.1 p.2.2.1 p.2.2.2.1 p.2.2.2.2.1 p.2.2.2.2.2) (x, y, z, u, v, q) hi h₀ (fun p hp => (round p.1 p.2.1 p.2.2.1 p.2.2.2.1 p.2.2.2.2.1 p.2.2.2.2.2 hp).mono (fun e st' q => by
    cases e <;> first | (obtain ⟨x, y, z, u, v, q, h⟩ := q; exact ⟨(x, y, z, u, v, q), h⟩) | exact q))

theorem SCode.loop7 (I : α → β → γ → δ → ε → ζ → η → St) (Inv : α → β → γ → δ → ε → ζ → η → Prop) (μ : α → β → γ → δ → ε → ζ → η → Nat) (x : α) (y : β) (z : γ) (u : δ) (v : ε) (q : ζ) (r : η) (hi : Inv x y z u v q r) (h₀ : (I x y z u v q r).Le st)
    (round : ∀ x y z u v q r, Inv x y z u v q r → SCode C c (I x y z u v q r) (fun e st' => match e with
      | .normal => ∃ x' y' z' u' v' q' r', Inv x' y' z' u' v' q' r' ∧ μ x' y' z' u' v' q' r' < μ x y z u v q r ∧ (I x' y' z' u' v' q' r').Le st'
      | e => Q e st')) : SCode C (.loop c) st Q :=
  SCode.loopP (fun p : α × β × γ × δ × ε × ζ × η => I p.1 p.2.1 p.2.2.1 p.2.2.2.1 p.2.2.2.2.1 p.2.2.2.2.2.1 p.2.2.2.2.2.2) (fun p => Inv p.1 p.2.1 p.2.2.1 p.2.2.2.1 p.2.2.2.2.1 p.2.2.2.2.2.1 p.2.2.2.2.2.2) (fun p => μ p.1 p.2.1 p.2.2.1 p.2.2.2.1 p.2.2.2.2.1 p.2.2.2.2.2.1 p.2.2.2.2.2.2) (x, y, z, u, v, q, r) hi h₀ (fun p hp => (round p.1 p.2.1 p.2.2.1 p.2.2.2.1 p.2.2.2.2.1 p.2.2.2.2.2.1 p.2.2.2.2.2.2 hp).mono (fun e st' q => by
    cases e <;> first | (obtain ⟨x, y, z, u, v, q, r, h⟩ := q; exact ⟨(x, y, z, u, v, q, r), h⟩) | exact q))

theorem SCode.loop8 (I : α → β → γ → δ → ε → ζ → η → θ → St) (Inv : α → β → γ → δ → ε → ζ → η → θ → Prop) (μ : α → β → γ → δ → ε → ζ → η → θ → Nat) (x : α) (y : β) (z : γ) (u : δ) (v : ε) (q : ζ) (r : η) (s : θ) (hi : Inv x y z u v q r s) (h₀ : (I x y z u v q r s).Le st)
    (round : ∀ x y z u v q r s, Inv x y z u v q r s → SCode C c (I x y z u v q r s) (fun e st' => match e with
      | .normal => ∃ x' y' z' u' v' q' r' s', Inv x' y' z' u' v' q' r' s' ∧ μ x' y' z' u' v' q' r' s' < μ x y z u v q r s ∧ (I x' y' z' u' v' q' r' s').Le st'
      | e => Q e st')) : SCode C (.loop c) st Q :=
  SCode.loopP (fun p : α × β × γ × δ × ε × ζ × η × θ => I p.1 p.2.1 p.2.2.1 p.2.2.2.1 p.2.2.2.2.1 p.2.2.2.2.2.1 p.2.2.2.2.2.2.1 p.2.2.2.2.2.2.2) (fun p => Inv p.1 p.2.1 p.2.2.1 p.2.2.2.1 p.2.2.2.2.1 p.2.2.2.2.2.1 p.2.2.2.2.2.2.1 p.2.2.2.2.2.2.2) (fun p => μ p.1 p.2.1 p.2.2.1 p.2.2.2.1 p.2.2.2.2.1 p.2.2.2.2.2.1 p.2.2.2.2.2.2.1 p.2.2.2.2.2.2.2) (x, y, z, u, v, q, r, s) hi h₀ (fun p hp => (round p.1 p.2.1 p.2.2.1 p.2.2.2.1 p.2.2.2.2.1 p.2.2.2.2.2.1 p.2.2.2.2.2.2.1 p.2.2.2.2.2.2.2 hp).mono (fun e st' q => by
    cases e <;> first | (obtain ⟨x, y, z, u, v, q, r, s, h⟩ := q; exact ⟨(x, y, z, u, v, q, r, s), h⟩) | exact q))

end
end Go.GH
