/- Plain mathematics of runs. -/
import Derived.Test.YtlaaajkehjoffaaDoorMath
namespace Go.Proofs.YtlaaajkehjoffaaDoor
open Go.RowKit

/-- The outputs and the states behind them, step by step. -/
def Sec.trace (s : Sec) : St → List Int → List (Int × St)
  | _, [] => []
  | y, x :: xs => (s.out y x, s.next y x) :: s.trace (s.next y x) xs
/-- The state behind all steps. -/
def Sec.after (s : Sec) : St → List Int → St
  | y, [] => y
  | y, x :: xs => s.after (s.next y x) xs
/-- The outputs. -/
def Sec.outs (s : Sec) (y : St) (xs : List Int) : List Int := (s.trace y xs).map (·.1)

theorem trace_len (s : Sec) (y : St) (xs : List Int) : (s.trace y xs).length = xs.length := by
  induction xs generalizing y with
  | nil => rfl
  | cons x xs ih => simp [Sec.trace, ih]
theorem trace_snoc (s : Sec) (y : St) (xs : List Int) (x : Int) : s.trace y (xs ++ [x]) = s.trace y xs ++ [(s.out (s.after y xs) x, s.next (s.after y xs) x)] := by
  induction xs generalizing y with
  | nil => rfl
  | cons a l ih => simp [Sec.trace, Sec.after, ih]
theorem after_snoc (s : Sec) (y : St) (xs : List Int) (x : Int) : s.after y (xs ++ [x]) = s.next (s.after y xs) x := by
  induction xs generalizing y with
  | nil => rfl
  | cons a l ih => simp [Sec.after, ih]
theorem trace_append (s : Sec) (y : St) (xs zs : List Int) : s.trace y (xs ++ zs) = s.trace y xs ++ s.trace (s.after y xs) zs := by
  induction xs generalizing y with
  | nil => rfl
  | cons a l ih => simp [Sec.trace, Sec.after, ih]
theorem after_append (s : Sec) (y : St) (xs zs : List Int) : s.after y (xs ++ zs) = s.after (s.after y xs) zs := by
  induction xs generalizing y with
  | nil => rfl
  | cons a l ih => simp [Sec.after, ih]
theorem outs_len (s : Sec) (y : St) (xs : List Int) : (s.outs y xs).length = xs.length := by simp [Sec.outs, trace_len]
theorem outs_snoc (s : Sec) (y : St) (xs : List Int) (x : Int) : s.outs y (xs ++ [x]) = s.outs y xs ++ [s.out (s.after y xs) x] := by simp [Sec.outs, trace_snoc]
theorem after_ok {s : Sec} {y : St} (hy : y.Ok) : ∀ {xs : List Int}, (∀ x ∈ xs, -32767 ≤ x ∧ x ≤ 32767) → (s.after y xs).Ok := by
  intro xs
  induction xs generalizing y with
  | nil => intro _; exact hy
  | cons a l ih => intro h; exact ih (next_ok hy (h a (by simp)).1 (h a (by simp)).2) fun x hx => h x (by simp [hx])
theorem outs_bd {s : Sec} {y : St} {xs : List Int} : ∀ x ∈ s.outs y xs, -32767 ≤ x ∧ x ≤ 32767 := by
  induction xs generalizing y with
  | nil => intro x hx; simp [Sec.outs, Sec.trace] at hx
  | cons a l ih =>
    intro x hx
    simp only [Sec.outs, Sec.trace, List.map_cons, List.mem_cons] at hx
    rcases hx with rfl | hx
    · exact lim_bd _
    · exact ih x hx
/-- The trace of the first k inputs, and one more. -/
theorem trace_take_succ (s : Sec) (y : St) {xs : List Int} {k : Nat} {x : Int} (h : xs[k]? = some x) :
    s.trace y (xs.take (k + 1)) = s.trace y (xs.take k) ++ [(s.out (s.after y (xs.take k)) x, s.next (s.after y (xs.take k)) x)] := by
  rw [List.take_add_one, h]; exact trace_snoc _ _ _ _
theorem after_take_succ (s : Sec) (y : St) {xs : List Int} {k : Nat} {x : Int} (h : xs[k]? = some x) : s.after y (xs.take (k + 1)) = s.next (s.after y (xs.take k)) x := by
  rw [List.take_add_one, h]; exact after_snoc _ _ _ _
/-- The state behind a trace. -/
def lastSt (y : St) (pre : List (Int × St)) : St := (pre.getLast?.map (·.2)).getD y
theorem lastSt_nil (y : St) : lastSt y [] = y := rfl
theorem lastSt_snoc (y : St) (pre : List (Int × St)) (p : Int × St) : lastSt y (pre ++ [p]) = p.2 := by simp [lastSt]
theorem lastSt_trace (s : Sec) (y : St) (xs : List Int) : lastSt y (s.trace y xs) = s.after y xs := by
  rcases List.eq_nil_or_concat xs with rfl | ⟨l, a, rfl⟩
  · rfl
  · rw [List.concat_eq_append, trace_snoc, lastSt_snoc, after_snoc]
/-- What may come next. -/
def Sec.nx (s : Sec) (y : St) (xs : List Int) (pre : List (Int × St)) (p : Int × St) : Prop :=
  ∃ k x, xs[k]? = some x ∧ pre = s.trace y (xs.take k) ∧ p = (s.out (s.after y (xs.take k)) x, s.next (s.after y (xs.take k)) x)
end Go.Proofs.YtlaaajkehjoffaaDoor
