/- Plain mathematics of sections: no program in sight. -/
import Derived.Test.YtlaaajkehjoffaaDoorWords
namespace Go.Proofs.YtlaaajkehjoffaaDoor
open Go.RowKit
set_option maxRecDepth 100000

/-- The error of a number that is to lie from lo to hi. -/
def rng (n lo hi : Int) : Int := if n < lo ∨ hi < n then 3 else 0

/-- The error of a tap, of an input or an output. -/
def vErr (n : Int) : Int := rng n (-32767) 32767

structure Sec where
  b0 : Int
  b1 : Int
  b2 : Int
  a1 : Int
  a2 : Int
  sh : Int

structure St where
  x1 : Int
  x2 : Int
  y1 : Int
  y2 : Int

/-- A section that is valid. -/
structure Sec.Ok (s : Sec) : Prop where
  b0l : -32767 ≤ s.b0
  b0h : s.b0 ≤ 32767
  b1l : -32767 ≤ s.b1
  b1h : s.b1 ≤ 32767
  b2l : -32767 ≤ s.b2
  b2h : s.b2 ≤ 32767
  a1l : -32767 ≤ s.a1
  a1h : s.a1 ≤ 32767
  a2l : -32767 ≤ s.a2
  a2h : s.a2 ≤ 32767
  shl : 0 ≤ s.sh
  shh : s.sh ≤ 15

/-- A state that is valid. -/
structure St.Ok (x : St) : Prop where
  x1l : -32767 ≤ x.x1
  x1h : x.x1 ≤ 32767
  x2l : -32767 ≤ x.x2
  x2h : x.x2 ≤ 32767
  y1l : -32767 ≤ x.y1
  y1h : x.y1 ≤ 32767
  y2l : -32767 ≤ x.y2
  y2h : x.y2 ≤ 32767

/-- The unit of a section. -/
def Sec.unit (s : Sec) : Int := 2 ^ s.sh.toNat
/-- An absolute value. -/
def ab (n : Int) : Int := max n (-n)
/-- The unit less the taps of the output. -/
def Sec.room (s : Sec) : Int := s.unit - ab s.a1 - ab s.a2
/-- The sum of a step. -/
def Sec.sum (s : Sec) (x : St) (i : Int) : Int := s.b0 * i + s.b1 * x.x1 + s.b2 * x.x2 - s.a1 * x.y1 - s.a2 * x.y2
/-- The raw output of a step. -/
def Sec.raw (s : Sec) (x : St) (i : Int) : Int := s.sum x i / s.unit
/-- A number within the limits of a value. -/
def lim (n : Int) : Int := max (-32767) (min 32767 n)
/-- The output of a step. -/
def Sec.out (s : Sec) (x : St) (i : Int) : Int := lim (s.raw x i)
/-- The state behind a step. -/
def Sec.next (s : Sec) (x : St) (i : Int) : St := ⟨i, x.x1, s.out x i, x.y1⟩

theorem unit_bd {s : Sec} (h : s.Ok) : 1 ≤ s.unit ∧ s.unit ≤ 32768 := by
  have h1 := h.shl
  have h2 := h.shh
  have h3 : s.sh.toNat ≤ 15 := by omega
  unfold Sec.unit
  generalize s.sh.toNat = k at h3
  rcases k with _ | _ | _ | _ | _ | _ | _ | _ | _ | _ | _ | _ | _ | _ | _ | _ | k
  all_goals first | omega | (simp; done) | decide

/-- Powers of 2. -/
def pow2 (k : Nat) : Int := 2 ^ k
theorem pow2_succ (k : Nat) : pow2 (k + 1) = 2 * pow2 k := by unfold pow2; rw [Int.pow_succ]; omega
theorem pow2_bd {k : Nat} (h : k ≤ 15) : 1 ≤ pow2 k ∧ pow2 k ≤ 32768 := by
  unfold pow2
  rcases k with _ | _ | _ | _ | _ | _ | _ | _ | _ | _ | _ | _ | _ | _ | _ | _ | k
  all_goals first | omega | (simp; done) | decide

theorem ab_bd {n m : Int} (h1 : -m ≤ n) (h2 : n ≤ m) : 0 ≤ ab n ∧ ab n ≤ m := by unfold ab; omega

theorem mul_bd {a b : Int} (h1 : -32768 ≤ a) (h2 : a ≤ 32768) (h3 : -32768 ≤ b) (h4 : b ≤ 32768) : -1073741824 ≤ a * b ∧ a * b ≤ 1073741824 := by
  have e : a.natAbs ≤ 32768 := by omega
  have f : b.natAbs ≤ 32768 := by omega
  have g : (a * b).natAbs ≤ 32768 * 32768 := by rw [Int.natAbs_mul]; exact Nat.mul_le_mul e f
  omega

theorem sum_bd {s : Sec} {x : St} {i : Int} (h : s.Ok) (hx : x.Ok) (h1 : -32767 ≤ i) (h2 : i ≤ 32767) : -5368709120 ≤ s.sum x i ∧ s.sum x i ≤ 5368709120 := by
  have a := @mul_bd s.b0 i (by have := h.b0l; omega) (by have := h.b0h; omega) (by omega) (by omega)
  have b := @mul_bd s.b1 x.x1 (by have := h.b1l; omega) (by have := h.b1h; omega) (by have := hx.x1l; omega) (by have := hx.x1h; omega)
  have c := @mul_bd s.b2 x.x2 (by have := h.b2l; omega) (by have := h.b2h; omega) (by have := hx.x2l; omega) (by have := hx.x2h; omega)
  have d := @mul_bd s.a1 x.y1 (by have := h.a1l; omega) (by have := h.a1h; omega) (by have := hx.y1l; omega) (by have := hx.y1h; omega)
  have e := @mul_bd s.a2 x.y2 (by have := h.a2l; omega) (by have := h.a2h; omega) (by have := hx.y2l; omega) (by have := hx.y2h; omega)
  unfold Sec.sum
  omega

theorem lim_bd (n : Int) : -32767 ≤ lim n ∧ lim n ≤ 32767 := by unfold lim; omega

theorem next_ok {s : Sec} {x : St} {i : Int} (hx : x.Ok) (h1 : -32767 ≤ i) (h2 : i ≤ 32767) : (s.next x i).Ok := by
  have := lim_bd (s.raw x i)
  exact ⟨h1, h2, hx.x1l, hx.x1h, this.1, this.2, hx.y1l, hx.y1h⟩

/-! ### Errors -/
def inB (n lo hi : Int) : Bool := decide (lo ≤ n ∧ n ≤ hi)
theorem inB_iff {n lo hi : Int} : inB n lo hi = true ↔ lo ≤ n ∧ n ≤ hi := by unfold inB; simp
theorem rng_eq (n lo hi : Int) : rng n lo hi = if inB n lo hi then 0 else 3 := by unfold rng inB; split <;> simp <;> omega
theorem vErr_eq (n : Int) : vErr n = if inB n (-32767) 32767 then 0 else 3 := rng_eq n _ _

def Sec.okB (s : Sec) : Bool := inB s.b0 (-32767) 32767 && inB s.b1 (-32767) 32767 && inB s.b2 (-32767) 32767 && inB s.a1 (-32767) 32767 && inB s.a2 (-32767) 32767 && inB s.sh 0 15
def St.okB (x : St) : Bool := inB x.x1 (-32767) 32767 && inB x.x2 (-32767) 32767 && inB x.y1 (-32767) 32767 && inB x.y2 (-32767) 32767
theorem Sec.ok_iff {s : Sec} : s.okB = true ↔ s.Ok := by
  unfold Sec.okB
  simp only [Bool.and_eq_true, inB_iff]
  exact ⟨fun ⟨⟨⟨⟨⟨a, b⟩, c⟩, d⟩, e⟩, f⟩ => ⟨a.1, a.2, b.1, b.2, c.1, c.2, d.1, d.2, e.1, e.2, f.1, f.2⟩,
    fun h => ⟨⟨⟨⟨⟨⟨h.b0l, h.b0h⟩, h.b1l, h.b1h⟩, h.b2l, h.b2h⟩, h.a1l, h.a1h⟩, h.a2l, h.a2h⟩, h.shl, h.shh⟩⟩
theorem St.ok_iff {x : St} : x.okB = true ↔ x.Ok := by
  unfold St.okB
  simp only [Bool.and_eq_true, inB_iff]
  exact ⟨fun ⟨⟨⟨a, b⟩, c⟩, d⟩ => ⟨a.1, a.2, b.1, b.2, c.1, c.2, d.1, d.2⟩, fun h => ⟨⟨⟨⟨h.x1l, h.x1h⟩, h.x2l, h.x2h⟩, h.y1l, h.y1h⟩, h.y2l, h.y2h⟩⟩
/-- The error of a section, of a state, of a signal. -/
def Sec.err (s : Sec) : Int := if s.okB then 0 else 3
def St.err (x : St) : Int := if x.okB then 0 else 3
def vB (n : Int) : Bool := inB n (-32767) 32767
def sigErr (l : List Int) : Int := if 4096 < l.length then 5 else if l.all vB then 0 else 3
theorem Sec.err_ok {s : Sec} (h : s.err = 0) : s.Ok := by
  unfold Sec.err at h
  split at h
  · exact Sec.ok_iff.1 (by assumption)
  · omega
theorem Sec.err_of {s : Sec} (h : s.Ok) : s.err = 0 := by unfold Sec.err; rw [if_pos (Sec.ok_iff.2 h)]
theorem St.err_ok {s : St} (h : s.err = 0) : s.Ok := by
  unfold St.err at h
  split at h
  · exact St.ok_iff.1 (by assumption)
  · omega
theorem St.err_of {s : St} (h : s.Ok) : s.err = 0 := by unfold St.err; rw [if_pos (St.ok_iff.2 h)]
theorem sigErr_ok {l : List Int} (h : sigErr l = 0) : l.length ≤ 4096 ∧ ∀ x ∈ l, -32767 ≤ x ∧ x ≤ 32767 := by
  unfold sigErr at h
  split at h
  · omega
  · split at h
    · rename_i h1
      exact ⟨by omega, fun x hx => inB_iff.1 (List.all_eq_true.1 h1 x hx)⟩
    · omega
theorem sigErr_of {l : List Int} (h1 : l.length ≤ 4096) (h : ∀ x ∈ l, -32767 ≤ x ∧ x ≤ 32767) : sigErr l = 0 := by
  unfold sigErr
  have h2 : l.all vB = true := List.all_eq_true.2 fun x hx => inB_iff.2 (h x hx)
  rw [if_neg (by omega), if_pos h2]

/-- The first number that is not 0, or 0. -/
def fnz : List Int → Int
  | [] => 0
  | x :: xs => if x = 0 then fnz xs else x
theorem fnz_bools (l : List Bool) : fnz (l.map fun b => if b then 0 else 3) = if l.all id then 0 else 3 := by
  induction l with
  | nil => rfl
  | cons b l ih => cases b <;> simp [fnz, ih]
theorem sec_err_eq (s : Sec) : fnz [fnz [vErr s.b0, vErr s.b1, vErr s.b2, vErr s.a1, vErr s.a2], rng s.sh 0 15] = s.err := by
  have e1 := fnz_bools [inB s.b0 (-32767) 32767, inB s.b1 (-32767) 32767, inB s.b2 (-32767) 32767, inB s.a1 (-32767) 32767, inB s.a2 (-32767) 32767]
  simp only [List.map_cons, List.map_nil, ← vErr_eq] at e1
  rw [e1, rng_eq]
  have e2 := fnz_bools [[inB s.b0 (-32767) 32767, inB s.b1 (-32767) 32767, inB s.b2 (-32767) 32767, inB s.a1 (-32767) 32767, inB s.a2 (-32767) 32767].all id, inB s.sh 0 15]
  simp only [List.map_cons, List.map_nil] at e2
  rw [e2]
  simp [Sec.err, Sec.okB, and_assoc]
theorem st_err_eq (s : St) : fnz [vErr s.x1, vErr s.x2, vErr s.y1, vErr s.y2] = s.err := by
  have e1 := fnz_bools [inB s.x1 (-32767) 32767, inB s.x2 (-32767) 32767, inB s.y1 (-32767) 32767, inB s.y2 (-32767) 32767]
  simp only [List.map_cons, List.map_nil, ← vErr_eq] at e1
  rw [e1]
  simp [St.err, St.okB, and_assoc]
theorem fnz_vals (l : List Int) : fnz (l.map vErr) = if l.all vB then 0 else 3 := by
  have := fnz_bools (l.map vB)
  rw [List.map_map] at this
  rw [show vErr = (fun b => if b = true then 0 else 3) ∘ vB from funext fun n => vErr_eq n]
  rw [this]
  simp
theorem sig_err_eq (l : List Int) : fnz [if 4096 < l.length then 5 else 0, fnz (l.map vErr)] = sigErr l := by
  rw [fnz_vals]
  unfold sigErr
  by_cases h : 4096 < l.length
  · simp [fnz, h]
  · by_cases h2 : l.all vB <;> simp [fnz, h, h2]
end Go.Proofs.YtlaaajkehjoffaaDoor
