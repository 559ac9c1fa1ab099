/- A map keyed by states: its own laws. -/
import Derived.Test.YtpcmflfinlkeiaaGreatDoorRSettle
import Derived.Laws.StructEq
import Derived.WideMake
import Derived.Maps.OwnOps
namespace Go.Proofs.YtpcmflfinlkeiaaGreatDoor
open Go.RowKit Go.Shelf
set_option maxRecDepth 100000

def stV (x : St) : Value := .agg #[.int .i64 x.x1, .int .i64 x.x2, .int .i64 x.y1, .int .i64 x.y2]
/-- The entries of the states so far. -/
def seenE (s : Sec) (x : St) (n : Nat) : List MapEntry := (List.range n).map fun i => { key := stV (s.orb x i), val := .int .i64 (i : Int), born := i }
theorem seenE_succ (s : Sec) (x : St) (n : Nat) : seenE s x (n + 1) = seenE s x n ++ [{ key := stV (s.orb x n), val := .int .i64 (n : Int), born := n }] := by
  simp [seenE, List.range_succ]
theorem eqSt (a b : St) (w : World) : (Op.equal 61 (stV a) (stV b)).run Tryz.prog w = .ok (a.eqB b) w := by
  unfold Op.equal stV
  rw [show Op.maxDepth = 9999 + 1 from rfl, run_equalIn_struct w 9999 61 _ _ (by kernel_rfl) (by kernel_rfl)]
  simp [Program.fieldsOf, Tryz.underlying61, Op.eqFields, go_sem, St.eqB, run_equalIn_int _ _ _ _ _ _ _ Tryz.underlying3]
  by_cases h1 : a.x1 = b.x1 <;> by_cases h2 : a.x2 = b.x2 <;> by_cases h3 : a.y1 = b.y1 <;> by_cases h4 : a.y2 = b.y2 <;> simp [h1, h2, h3, h4, go_sem]
theorem checkSt (em : Bool) (a : St) (w : World) : (Instr.checkKey em 10000 61 (stV a)).run Tryz.prog w = .ok () w := by kernel_rfl
theorem St.eqB_comm (a b : St) : a.eqB b = b.eqB a := by
  rw [Bool.eq_iff_iff, St.eqB_iff, St.eqB_iff]; exact eq_comm
theorem findAsk_none (a : St) (w : World) (es : List MapEntry) (i : Nat) (h : ∀ e ∈ es, ∃ b, e.key = stV b ∧ a.eqB b = false) :
    (Instr.findAsking 61 (stV a) es i).run Tryz.prog w = .ok none w := by
  induction es generalizing i with
  | nil => rfl
  | cons e es ih =>
    obtain ⟨b, hb, hne⟩ := h e (by simp)
    unfold Instr.findAsking
    simp only [Sem.run_bind, hb, eqSt, Result.andThen_ok, hne, Bool.false_eq_true, if_false]
    exact ih _ fun e' he' => h e' (by simp [he'])
theorem findAsk_some (a : St) (w : World) (pre post : List MapEntry) (e : MapEntry) (i : Nat) (h : ∀ e ∈ pre, ∃ b, e.key = stV b ∧ a.eqB b = false) (b : St) (hb : e.key = stV b) (he : a.eqB b = true) :
    (Instr.findAsking 61 (stV a) (pre ++ e :: post) i).run Tryz.prog w = .ok (some (i + pre.length, e.val)) w := by
  induction pre generalizing i with
  | nil =>
    unfold Instr.findAsking
    simp only [List.nil_append, Sem.run_bind, hb, eqSt, Result.andThen_ok, he, if_true, Sem.run_pure]
    rfl
  | cons e' es ih =>
    obtain ⟨b', hb', hne⟩ := h e' (by simp)
    unfold Instr.findAsking
    simp only [List.cons_append, Sem.run_bind, hb', eqSt, Result.andThen_ok, hne, Bool.false_eq_true, if_false]
    rw [ih _ fun e'' he'' => h e'' (by simp [he''])]
    simp only [List.length_cons]
    congr 3; omega
theorem findKey_of (a : St) (w : World) (es : List MapEntry) (r : Option (Nat × Value)) (h : (Instr.findAsking 61 (stV a) es).run Tryz.prog w = .ok r w) : (Instr.findKey 61 (stV a) es).run Tryz.prog w = .ok r w := by
  unfold Instr.findKey
  simp only [Sem.run_bind, run_underlying Tryz.underlying61, Result.andThen_ok]
  cases es with
  | nil =>
    have : r = none := by
      have h' : (Result.ok none w : Result (Option (Nat × Value))) = .ok r w := h
      injection h' with h'
      exact h'.symm
    subst this
    rfl
  | cons e es => exact h

def SeenAt (w : World) (B : Nat) (s : Sec) (x : St) (n : Nat) : Prop := w.heap[B]? = some (.map (seenE s x n).toArray n)
theorem seen_miss_all {s : Sec} {x : St} {n : Nat} (h : s.hit x n = none) : ∀ e ∈ seenE s x n, ∃ b, e.key = stV b ∧ (s.orb x n).eqB b = false := by
  intro e he
  simp only [seenE, List.mem_map] at he
  obtain ⟨i, hi, rfl⟩ := he
  unfold Sec.hit at h
  rw [List.find?_eq_none] at h
  refine ⟨_, rfl, ?_⟩
  rw [St.eqB_comm]
  simpa using h i hi
theorem seen_split {s : Sec} {x : St} {n i : Nat} (h : s.hit x n = some i) : ∃ pre post, seenE s x n = pre ++ { key := stV (s.orb x i), val := .int .i64 (i : Int), born := i } :: post ∧ pre.length = i ∧ (∀ e ∈ pre, ∃ b, e.key = stV b ∧ (s.orb x n).eqB b = false) ∧ (s.orb x n).eqB (s.orb x i) = true := by
  unfold Sec.hit at h
  rw [List.find?_range_eq_some] at h
  obtain ⟨h1, h2, h3⟩ := h
  have h2' : i < n := by simpa using h2
  refine ⟨seenE s x i, (List.range (n - (i + 1))).map (fun j => { key := stV (s.orb x (i + 1 + j)), val := .int .i64 ((i + 1 + j : Nat) : Int), born := i + 1 + j }), ?_, by simp [seenE], ?_, by rw [St.eqB_comm]; exact h1⟩
  · have e : n = (i + 1) + (n - (i + 1)) := by omega
    conv => lhs; unfold seenE; rw [e, List.range_add, List.map_append, List.map_map]
    rw [show (List.range (i + 1)).map _ = seenE s x (i + 1) from rfl, seenE_succ, List.append_assoc]
    rfl
  · intro e he
    simp only [seenE, List.mem_map, List.mem_range] at he
    obtain ⟨j, hj, rfl⟩ := he
    exact ⟨_, rfl, by rw [St.eqB_comm]; simpa using h3 j hj⟩
theorem seen_lookup_none {s : Sec} {x : St} {n B : Nat} {w : World} (hB : SeenAt w B s x n) (h : s.hit x n = none) :
    (Instr.lookup 127 (.map (some B)) (stV (s.orb x n)) true).run Tryz.prog w = .ok (.tuple #[.int .i64 0, .bool false]) w := by
  have hf := findKey_of (s.orb x n) w _ _ (findAsk_none (s.orb x n) w (seenE s x n) 0 (seen_miss_all h))
  have hz : (zeroValue 3).run Tryz.prog w = .ok (.int .i64 0) w := by kernel_rfl
  simp [Instr.lookup, run_underlying Tryz.underlying127, MapKept.run_getObj_map hB, checkSt, hf, hz, Result.andThen]
theorem seen_lookup_some {s : Sec} {x : St} {n B i : Nat} {w : World} (hB : SeenAt w B s x n) (h : s.hit x n = some i) :
    (Instr.lookup 127 (.map (some B)) (stV (s.orb x n)) true).run Tryz.prog w = .ok (.tuple #[.int .i64 (i : Int), .bool true]) w := by
  obtain ⟨pre, post, e, hl, hp, hh⟩ := seen_split h
  have hf := findKey_of (s.orb x n) w _ _ (findAsk_some (s.orb x n) w pre post { key := stV (s.orb x i), val := .int .i64 (i : Int), born := i } 0 hp (s.orb x i) rfl hh)
  rw [← e] at hf
  simp [Instr.lookup, run_underlying Tryz.underlying127, MapKept.run_getObj_map hB, checkSt, hf, Result.andThen]
theorem seen_put {s : Sec} {x : St} {n B : Nat} {w : World} (hB : SeenAt w B s x n) (h : s.hit x n = none) :
    ∃ w', (Instr.mapUpdate 127 (.map (some B)) (stV (s.orb x n)) (.int .i64 (n : Int))).run Tryz.prog w = .ok () w' ∧ SeenAt w' B s x (n + 1) ∧ Below B w w' ∧ ∀ g, g ≠ B → w'.heap[g]? = w.heap[g]? := by
  have hf := findKey_of (s.orb x n) w _ _ (findAsk_none (s.orb x n) w (seenE s x n) 0 (seen_miss_all h))
  have hlt : B < w.heap.size := by
    rcases Nat.lt_or_ge B w.heap.size with h | h
    · exact h
    · unfold SeenAt at hB; rw [Array.getElem?_eq_none h] at hB; cases hB
  refine ⟨w.putObj B (.map (seenE s x (n + 1)).toArray (n + 1)), ?_, World.putObj_heap_same hlt, ?_, fun g hg => World.putObj_heap_other hg⟩
  · simp [Instr.mapUpdate, run_underlying Tryz.underlying127, MapKept.run_getObj_map hB, checkSt, hf, MapKept.run_setObj_map _ hB, Result.andThen, seenE_succ, World.putObj]
  · exact ⟨rfl, rfl, rfl, by simp [World.putObj], fun k hk => World.putObj_heap_other (by omega)⟩

theorem wpList_insert {P : Program} (w w' : World) {ops : Array Oper} {rest : List Oper} {o : Oper} {a : Act} {Q : Exit → Act → World → Prop}
    (hg : o.guard = none) (m x v : Operand) (t : TypeId) (hop : o.op = Op.insert t m x v) (M X V : Value) (hm : a.eval m = M) (hx : a.eval x = X) (hv : a.eval v = V)
    (hrun : (Instr.mapUpdate t M X V).run P w = .ok () w') (hK : wpList P ops Q rest (a.put o.dst undef) w') : wpList P ops Q (o :: rest) a w := by
  refine wpList_plain hg fun K' hK' => ?_
  unfold Oper.wp
  simp [execOp, hop, hm, hx, hv, hrun, Result.andThen]
  exact hK' _ _ hK
theorem wpList_mapUp {P : Program} (w w' : World) {ops : Array Oper} {rest : List Oper} {o : Oper} {a : Act} {Q : Exit → Act → World → Prop}
    (hg : o.guard = none) (m x v : Operand) (t : TypeId) (hop : o.op = Op.mapUpdate t m x v) (M X V : Value) (hm : a.eval m = M) (hx : a.eval x = X) (hv : a.eval v = V)
    (hrun : (Instr.mapUpdate t M X V).run P w = .ok () w') (hK : wpList P ops Q rest (a.put o.dst undef) w') : wpList P ops Q (o :: rest) a w := by
  refine wpList_plain hg fun K' hK' => ?_
  unfold Oper.wp
  simp [execOp, hop, hm, hx, hv, hrun, Result.andThen]
  exact hK' _ _ hK
theorem wpList_look {P : Program} (w : World) {ops : Array Oper} {rest : List Oper} {o : Oper} {a : Act} {Q : Exit → Act → World → Prop}
    (hg : o.guard = none) (m x : Operand) (t : TypeId) (hop : o.op = Op.lookup t m x true) (M X R : Value) (hm : a.eval m = M) (hx : a.eval x = X)
    (hrun : (Instr.lookup t M X true).run P w = .ok R w) (hK : wpList P ops Q rest (a.put o.dst R) w) : wpList P ops Q (o :: rest) a w := by
  refine wpList_plain hg fun K' hK' => ?_
  unfold Oper.wp
  simp [execOp, hop, hm, hx, hrun, Result.andThen]
  exact hK' _ _ hK
end Go.Proofs.YtpcmflfinlkeiaaGreatDoor
