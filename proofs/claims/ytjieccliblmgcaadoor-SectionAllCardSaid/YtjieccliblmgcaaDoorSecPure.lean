/- Sections in turn, as plain numbers: what SectionAll's run comes to. -/
import Derived.Test.YtjieccliblmgcaaDoorEvSecIn
namespace Go.Proofs.YtjieccliblmgcaaDoor.Ev
set_option linter.unusedSimpArgs false
set_option linter.unusedVariables false
open Go

/-- The next ticket, the one served, each section's stage, ticket and times, and the order. -/
structure PAll where
  nx : Nat
  sv : Nat
  l : List (Nat × Nat × Nat)
  ord : List Nat

def pstep (e i : Nat) (p : PAll) : PAll := match p.l[i]? with
  | none => p
  | some (st, tk, tm) => match st with
    | 0 => ⟨p.nx + 1, p.sv, p.l.set i (1, p.nx, tm), p.ord⟩
    | 1 => ⟨p.nx, p.sv, p.l.set i (if tk = p.sv then 2 else 1, tk, tm), p.ord⟩
    | 2 => ⟨p.nx, p.sv, p.l.set i (if tm + 1 < e then 2 else 3, tk, tm + 1), p.ord ++ [i]⟩
    | 3 => ⟨p.nx, p.sv + 1, p.l.set i (4, tk, tm), p.ord⟩
    | _ => p

/-- Is the state one that the lemmas of a step take? -/
def pok (i : Nat) (p : PAll) : Bool := match p.l[i]? with
  | none => false
  | some (st, tk, tm) => decide (p.nx ≤ 100 ∧ p.sv ≤ 100 ∧ tk ≤ 100 ∧ tm ≤ 100 ∧ st ≤ 4 ∧ p.ord.length ≤ 100 ∧ (st = 3 → tk = p.sv))
def pover (i : Nat) (p : PAll) : Bool := match p.l[i]? with
  | some (4, _, _) => true
  | _ => false

/-- A round from section d on, m sections are left of it; how many are not over. -/
def rowP (e : Nat) : Nat → Nat → PAll → Nat → PAll × Nat
  | 0, _, p, lf => (p, lf)
  | m + 1, d, p, lf => rowP e m (d + 1) (pstep e d p) (if pover d (pstep e d p) then lf else lf + 1)
def rowOk (e : Nat) : Nat → Nat → PAll → Bool
  | 0, _, _ => true
  | m + 1, d, p => pok d p && rowOk e m (d + 1) (pstep e d p)

/-- n rounds are left: each can be walked, and at the end all is as the statement says. -/
def Good (k e : Nat) : Nat → Nat → PAll → Nat → Bool
  | 0, r, p, lf => decide (lf = 0) && decide (r ≤ (e + 3) * k + 1) && decide (p.ord = (List.range (k * e)).map (· / e)) && decide (p.nx = p.sv) && decide (p.nx ≤ 100)
  | n + 1, r, p, lf => decide (0 < lf) && decide (r < 4000) && rowOk e k 0 p && Good k e n (r + 1) (rowP e k 0 p 0).1 (rowP e k 0 p 0).2

def roundsP (k e : Nat) : Nat → PAll → Nat → Nat
  | 0, _, _ => 0
  | f + 1, p, lf => if lf = 0 then 0 else roundsP k e f (rowP e k 0 p 0).1 (rowP e k 0 p 0).2 + 1
def pinit (k : Nat) : PAll := ⟨0, 0, List.replicate k (0, 0, 0), []⟩

theorem good_all : ∀ k < 8, ∀ e < 5, Good (k + 1) (e + 1) (roundsP (k + 1) (e + 1) 100 (pinit (k + 1)) (k + 1)) 0 (pinit (k + 1)) (k + 1) = true := by decide +kernel

end Go.Proofs.YtjieccliblmgcaaDoor.Ev
