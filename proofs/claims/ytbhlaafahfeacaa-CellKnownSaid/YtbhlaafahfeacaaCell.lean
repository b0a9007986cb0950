/- Cells by value: a count, a sum, a check: build, fields, ==. -/
import Derived.Test.YtbhlaafahfeacaaTail
import Derived.Test.YtbhlaafahfeacaaSumF
import Derived.Deep.MidRow
namespace Go.Proofs.Ytbhlaafahfeacaa
open Go.RowKit

/-- A cell's 65 places. -/
def cellA (n : Int) (K C : Array Value) : Array Value := #[.int .i64 n] ++ K ++ C
theorem cellA_size {n : Int} {K C : Array Value} (hK : K.size = 32) (hC : C.size = 32) : (cellA n K C).size = 65 := by simp [cellA, hK, hC]

theorem fold_splice (off : Nat) : ∀ (l : List Value) (j : Nat) (cells : Array Value), (l.zipIdx j).foldl (fun cs (p : Value × Nat) => cs.setIfInBounds (off + p.2) p.1) cells = splice cells (off + j) l
  | [], _, _ => rfl
  | v :: l, j, cells => by
    rw [List.zipIdx_cons, List.foldl_cons, fold_splice off l (j + 1)]
    rfl
theorem fold_arr (off : Nat) (V cells : Array Value) : V.zipIdx.foldl (fun cs (p : Value × Nat) => cs.setIfInBounds (off + p.2) p.1) cells = splice cells off V.toList := by
  rw [← Array.foldl_toList, Array.toList_zipIdx]
  exact fold_splice off V.toList 0 cells
theorem cell_splice {n : Int} {K C Z : Array Value} (hZ : Z.size = 65) (hK : K.size = 32) (hC : C.size = 32) : splice (splice (splice Z 0 [.int .i64 n]) 1 K.toList) 33 C.toList = cellA n K C := by
  apply Array.ext_getElem?
  intro j
  rw [splice_get _ _ _ _ (by rw [splice_size, splice_size]; simp [hZ, hC]), splice_get _ _ _ _ (by rw [splice_size]; simp [hZ, hK]), splice_get _ _ _ _ (by simp [hZ])]
  simp only [Array.length_toList, hK, hC, List.length_singleton]
  unfold cellA
  by_cases h3 : 33 ≤ j
  · rw [Array.getElem?_append_right (by simp [hK]; omega)]
    have e : j - (#[Value.int .i64 n] ++ K).size = j - 33 := by simp [hK]
    rw [e]
    by_cases h4 : j < 65
    · rw [if_pos (by omega)]; simp
    · rw [if_neg (by omega), if_neg (by omega), if_neg (by omega), Array.getElem?_eq_none (by omega), Array.getElem?_eq_none (by omega)]
  · rw [if_neg (by omega), Array.getElem?_append_left (by simp [hK]; omega)]
    by_cases h2 : 1 ≤ j
    · rw [if_pos (by omega), Array.getElem?_append_right (by simp; omega)]; simp
    · obtain rfl : j = 0 := by omega
      rw [if_neg (by omega), if_pos (by omega)]
      rw [Array.getElem?_append_left (by simp)]
      simp
theorem fill_step {place : Nat → Option (Nat × Nat)} {cells : Array Value} {i off size : Nat} {v : Value} {rest : List (Nat × Value)} (hp : place i = some (off, size)) (hs : v.cells.size = size) (hb : off + size ≤ cells.size) :
    Instr.fill place cells ((i, v) :: rest) = Instr.fill place (splice cells off v.cells.toList) rest := by
  rw [Instr.fill]
  simp only [hp]
  rw [if_neg (by rw [hs]; simp; omega), fold_arr]
theorem fill_cell {Z K C : Array Value} {n : Int} (hZ : Z.size = 65) (hK : K.size = 32) (hC : C.size = 32) :
    Instr.fill (fun x => ([(0, 1), (1, 32), (33, 32)] : List (Nat × Nat))[x]?) Z [(0, .int .i64 n), (1, .agg K), (2, .agg C)] = some (cellA n K C) := by
  rw [fill_step (v := .int .i64 n) (off := 0) (size := 1) rfl rfl (by rw [hZ]; omega), fill_step (v := .agg K) (off := 1) (size := 32) rfl hK (by rw [splice_size, hZ]; omega), fill_step (v := .agg C) (off := 33) (size := 32) rfl hC (by rw [splice_size, splice_size, hZ]; omega)]
  rw [show (Value.int .i64 n).cells.toList = [.int .i64 n] from rfl, show (Value.agg K).cells = K from rfl, show (Value.agg C).cells = C from rfl, cell_splice hZ hK hC]
  rfl
def zero65 : Array Value := cellA 0 (u8s (List.replicate 32 0)) (u8s (List.replicate 32 0))
theorem zero65_size : zero65.size = 65 := rfl
theorem extract_key {n : Int} {K C : Array Value} (hK : K.size = 32) (hC : C.size = 32) : (cellA n K C).extract 1 (1 + 32) = K := by
  apply Array.ext_getElem?
  intro j
  unfold cellA
  by_cases h : j < 32
  · rw [Array.getElem?_extract, if_pos (by simp [hK, hC]; omega), Array.getElem?_append_left (by simp [hK]; omega), Array.getElem?_append_right (by simp)]
    simp
  · rw [Array.getElem?_eq_none (by simp [hK]; omega), Array.getElem?_eq_none (by omega)]
theorem extract_check {n : Int} {K C : Array Value} (hK : K.size = 32) (hC : C.size = 32) : (cellA n K C).extract 33 (33 + 32) = C := by
  apply Array.ext_getElem?
  intro j
  unfold cellA
  by_cases h : j < 32
  · rw [Array.getElem?_extract, if_pos (by simp [hK, hC]; try omega), Array.getElem?_append_right (by simp [hK]; try omega)]
    congr 1
    simp [hK]
    try omega
  · rw [Array.getElem?_eq_none (by simp [hK, hC]; try omega), Array.getElem?_eq_none (by omega)]
theorem cellA_get0 {n : Int} {K C : Array Value} : (cellA n K C)[0]? = some (.int .i64 n) := by
  unfold cellA; rw [Array.getElem?_append_left (by simp; omega), Array.getElem?_append_left (by simp)]; rfl
theorem cellA_one {n : Int} {K C : Array Value} (hK : K.all (·.oneCell') = true) (hC : C.all (·.oneCell') = true) : (cellA n K C).all (·.oneCell') = true := by
  unfold cellA; rw [Array.all_append, Array.all_append, hK, hC]; simp [Value.oneCell']

/-- A cell. -/
structure Cl where
  n : Int
  key : Sm
  check : Sm
  deriving DecidableEq
def Cl.a (c : Cl) : Array Value := cellA c.n (u8s c.key.l) (u8s c.check.l)
theorem Sm.size (s : Sm) : (u8s s.l).size = 32 := by rw [u8s_size, s.len]
theorem Cl.size (c : Cl) : c.a.size = 65 := cellA_size c.key.size c.check.size
theorem Cl.one (c : Cl) : c.a.all (·.oneCell') = true := cellA_one (u8s_one _) (u8s_one _)
def Cl.zero : Cl := ⟨0, Sm.zero, Sm.zero⟩
theorem Cl.eq_iff (c d : Cl) : (c.n = d.n ∧ c.key = d.key ∧ c.check = d.check) ↔ c = d := by
  constructor
  · cases c; cases d; rintro ⟨h1, h2, h3⟩; simp only at h1 h2 h3; subst h1 h2 h3; rfl
  · rintro rfl; exact ⟨rfl, rfl, rfl⟩
section
variable {w : World} {g : Nat} {t : TypeId} {n : Int} {K C : Array Value}
theorem range_key (hB : Blk w g t (cellA n K C)) (hK : K.size = 32) (hC : C.size = 32) : w.rangeAt g 1 K.toList := by
  have h := World.rangeAt_of_block hB 1 32
  rwa [extract_key hK hC] at h
theorem range_check (hB : Blk w g t (cellA n K C)) (hK : K.size = 32) (hC : C.size = 32) : w.rangeAt g 33 C.toList := by
  have h := World.rangeAt_of_block hB 33 32
  rwa [extract_check hK hC] at h
theorem cell_count (hB : Blk w g t (cellA n K C)) : w.cell? ⟨g, 0, none⟩ = some (.int .i64 n) := by rw [hB.cell, cellA_get0]
end
theorem load_int64 {w : World} {a : Addr} {n : Int} (h : w.cell? a = some (.int .i64 n)) : (Instr.loadAt 2 (.pointer (some a))).run Try.prog w = .ok (.int .i64 n) w := by
  simp [go_sem, Try.isAgg2, h]

theorem info34 : (Try.prog.info? 34).map (·.size) = some 65 := by kernel_rfl
theorem zero34 (w : World) : (zeroValue 34).run Try.prog w = .ok (.agg zero65) w := by kernel_rfl
theorem build_cell34 (n : Int) (K C : Array Value) (hK : K.size = 32) (hC : C.size = 32) (w : World) : (Instr.build 34 #[(0, .int .i64 n), (1, .agg K), (2, .agg C)]).run Try.prog w = .ok (.agg (cellA n K C)) w := by
  have hu := run_underlying Try.underlying34 w
  have h1 := Try.sizeOf2 w
  have hf : Instr.fill (fun x => ([(0, 1), (1, 32), (33, 32)] : List (Nat × Nat))[x]?) (Value.agg zero65).cells [(0, .int .i64 n), (1, .agg K), (2, .agg C)] = some (cellA n K C) := fill_cell zero65_size hK hC
  simp only [Instr.build, Sem.run_bind, zero34 w, Result.andThen_ok, hu]
  simp [h1, hf]
theorem build_zero34 (w : World) : (Instr.build 34 #[]).run Try.prog w = .ok (.agg zero65) w := by
  have hu := run_underlying Try.underlying34 w
  have h1 := Try.sizeOf2 w
  simp only [Instr.build, Sem.run_bind, zero34 w, Result.andThen_ok, hu]
  simp [h1, Instr.fill]
  rfl
theorem fields34 : ∃ f0 f1 f2 : Field, (Try.prog.fieldsOf 34).toList = [f0, f1, f2] ∧ f0.name ≠ "_" ∧ f1.name ≠ "_" ∧ f2.name ≠ "_" ∧ f0.type = 2 ∧ f0.offset = 0 ∧ f1.type = 27 ∧ f1.offset = 1 ∧ f2.type = 27 ∧ f2.offset = 33 := by
  have hu := Try.underlying34
  have h : ∀ fs, Try.prog.underlying 34 = some (.struct fs) → Try.prog.fieldsOf 34 = fs := fun fs h => by unfold Program.fieldsOf; rw [h]
  have h2 := h _ hu
  rw [h2]
  exact ⟨_, _, _, rfl, by decide, by decide, by decide, rfl, rfl, rfl, rfl, rfl, rfl⟩
theorem holds34 : Try.prog.underlying 34 = some (.struct (Try.prog.fieldsOf 34)) ∧ Try.prog.stoodInHeld 34 = false := ⟨by kernel_rfl, by kernel_rfl⟩
theorem part_key34 (c : Cl) (w : World) : (part 27 c.a 1).run Try.prog w = .ok (.agg (u8s c.key.l)) w := by
  have a1 : (isAgg 27).run Try.prog w = .ok true w := by kernel_rfl
  unfold part
  rw [Sem.run_bind, a1]
  simp only [Result.andThen_ok, if_true, Sem.run_bind, Try.sizeOf27 w, Sem.run_pure]
  rw [show c.a.extract 1 (1 + 32) = u8s c.key.l from extract_key c.key.size c.check.size]
theorem part_check34 (c : Cl) (w : World) : (part 27 c.a 33).run Try.prog w = .ok (.agg (u8s c.check.l)) w := by
  have a1 : (isAgg 27).run Try.prog w = .ok true w := by kernel_rfl
  unfold part
  rw [Sem.run_bind, a1]
  simp only [Result.andThen_ok, if_true, Sem.run_bind, Try.sizeOf27 w, Sem.run_pure]
  rw [show c.a.extract 33 (33 + 32) = u8s c.check.l from extract_check c.key.size c.check.size]
theorem part_n34 (c : Cl) (w : World) : (part 2 c.a 0).run Try.prog w = .ok (.int .i64 c.n) w := by
  unfold part
  rw [Sem.run_bind, Try.isAgg2 w]
  simp only [Result.andThen_ok]
  rw [show c.a[0]? = some (.int .i64 c.n) from cellA_get0]
  rfl
theorem sums34 (d : Nat) (x y : Sm) (w : World) : (Op.equalIn (d + 2) 27 (.agg (u8s x.l)) (.agg (u8s y.l))).run Try.prog w = .ok (decide (x.l = y.l)) w := by
  obtain ⟨i, hi⟩ := info_at
  exact run_equalIn_bytes (P := Try.prog) d 27 _ 32 i Try.underlying27 hi (by kernel_rfl) Try.underlying5 Try.isAgg5 x.l y.l x.len y.len w
theorem eql_cell34 (d : Nat) (b c : Cl) (w : World) : (Op.equalIn (d + 3) 34 (.agg b.a) (.agg c.a)).run Try.prog w = .ok (decide (b = c)) w := by
  obtain ⟨f0, f1, f2, hf, n0, n1, n2, t0, o0, t1, o1, t2, o2⟩ := fields34
  have pk := part_key34
  have pc := part_check34
  have pn := part_n34
  have hq := fun x y => sums34 d x y w
  have hi := run_equalIn_int w (d + 1) 2 .i64 .i64 b.n c.n Try.underlying2
  rw [run_equalIn_struct w (d + 2) _ _ _ holds34.1 holds34.2, hf]
  simp only [Op.eqFields, n0, n1, n2, ne_eq, not_false_eq_true, if_true, Sem.run_bind, t0, o0, t1, o1, t2, o2, pn, Result.andThen_ok, hi]
  by_cases e0 : b.n = c.n
  · by_cases e1 : b.key = c.key
    · by_cases e2 : b.check = c.check
      · have h := (Cl.eq_iff b c).1 ⟨e0, e1, e2⟩
        subst h
        simp [pk, pc, hq]
      · have hne : ¬ b = c := fun h => e2 (by rw [h])
        have e3 : ¬ b.check.l = c.check.l := fun h => e2 (Sm.ext_l h)
        simp [e0, e1, e3, hne, pk, pc, hq]
    · have hne : ¬ b = c := fun h => e1 (by rw [h])
      have e3 : ¬ b.key.l = c.key.l := fun h => e1 (Sm.ext_l h)
      simp [e0, e3, hne, pk, hq]
  · have hne : ¬ b = c := fun h => e0 (by rw [h])
    simp [e0, hne]
theorem eql_cl34 (c d : Cl) (w : World) : (binOp .eql 34 (.agg c.a) (.agg d.a)).run Try.prog w = .ok (.bool (decide (c = d))) w := by rw [run_eql_struct, eql_cell34 9997]; rfl
theorem neq_cl34 (c d : Cl) (w : World) : (binOp .neq 34 (.agg c.a) (.agg d.a)).run Try.prog w = .ok (.bool (!decide (c = d))) w := by rw [run_neq_struct, eql_cell34 9997]; rfl

theorem info49 : (Try.prog.info? 49).map (·.size) = some 65 := by kernel_rfl
theorem zero49 (w : World) : (zeroValue 49).run Try.prog w = .ok (.agg zero65) w := by kernel_rfl
theorem build_cell49 (n : Int) (K C : Array Value) (hK : K.size = 32) (hC : C.size = 32) (w : World) : (Instr.build 49 #[(0, .int .i64 n), (1, .agg K), (2, .agg C)]).run Try.prog w = .ok (.agg (cellA n K C)) w := by
  have hu := run_underlying Try.underlying49 w
  have h1 := Try.sizeOf2 w
  have hf : Instr.fill (fun x => ([(0, 1), (1, 32), (33, 32)] : List (Nat × Nat))[x]?) (Value.agg zero65).cells [(0, .int .i64 n), (1, .agg K), (2, .agg C)] = some (cellA n K C) := fill_cell zero65_size hK hC
  simp only [Instr.build, Sem.run_bind, zero49 w, Result.andThen_ok, hu]
  simp [h1, hf]
theorem build_zero49 (w : World) : (Instr.build 49 #[]).run Try.prog w = .ok (.agg zero65) w := by
  have hu := run_underlying Try.underlying49 w
  have h1 := Try.sizeOf2 w
  simp only [Instr.build, Sem.run_bind, zero49 w, Result.andThen_ok, hu]
  simp [h1, Instr.fill]
  rfl
theorem fields49 : ∃ f0 f1 f2 : Field, (Try.prog.fieldsOf 49).toList = [f0, f1, f2] ∧ f0.name ≠ "_" ∧ f1.name ≠ "_" ∧ f2.name ≠ "_" ∧ f0.type = 2 ∧ f0.offset = 0 ∧ f1.type = 47 ∧ f1.offset = 1 ∧ f2.type = 47 ∧ f2.offset = 33 := by
  have hu := Try.underlying49
  have h : ∀ fs, Try.prog.underlying 49 = some (.struct fs) → Try.prog.fieldsOf 49 = fs := fun fs h => by unfold Program.fieldsOf; rw [h]
  have h2 := h _ hu
  rw [h2]
  exact ⟨_, _, _, rfl, by decide, by decide, by decide, rfl, rfl, rfl, rfl, rfl, rfl⟩
theorem holds49 : Try.prog.underlying 49 = some (.struct (Try.prog.fieldsOf 49)) ∧ Try.prog.stoodInHeld 49 = false := ⟨by kernel_rfl, by kernel_rfl⟩
theorem part_key49 (c : Cl) (w : World) : (part 47 c.a 1).run Try.prog w = .ok (.agg (u8s c.key.l)) w := by
  have a1 : (isAgg 47).run Try.prog w = .ok true w := by kernel_rfl
  unfold part
  rw [Sem.run_bind, a1]
  simp only [Result.andThen_ok, if_true, Sem.run_bind, Try.sizeOf47 w, Sem.run_pure]
  rw [show c.a.extract 1 (1 + 32) = u8s c.key.l from extract_key c.key.size c.check.size]
theorem part_check49 (c : Cl) (w : World) : (part 47 c.a 33).run Try.prog w = .ok (.agg (u8s c.check.l)) w := by
  have a1 : (isAgg 47).run Try.prog w = .ok true w := by kernel_rfl
  unfold part
  rw [Sem.run_bind, a1]
  simp only [Result.andThen_ok, if_true, Sem.run_bind, Try.sizeOf47 w, Sem.run_pure]
  rw [show c.a.extract 33 (33 + 32) = u8s c.check.l from extract_check c.key.size c.check.size]
theorem part_n49 (c : Cl) (w : World) : (part 2 c.a 0).run Try.prog w = .ok (.int .i64 c.n) w := by
  unfold part
  rw [Sem.run_bind, Try.isAgg2 w]
  simp only [Result.andThen_ok]
  rw [show c.a[0]? = some (.int .i64 c.n) from cellA_get0]
  rfl
theorem sums49 (d : Nat) (x y : Sm) (w : World) : (Op.equalIn (d + 2) 47 (.agg (u8s x.l)) (.agg (u8s y.l))).run Try.prog w = .ok (decide (x.l = y.l)) w := by
  obtain ⟨i, hi⟩ := info_at
  exact run_equalIn_bytes (P := Try.prog) d 47 _ 32 i Try.underlying47 hi (by kernel_rfl) Try.underlying5 Try.isAgg5 x.l y.l x.len y.len w
theorem eql_cell49 (d : Nat) (b c : Cl) (w : World) : (Op.equalIn (d + 3) 49 (.agg b.a) (.agg c.a)).run Try.prog w = .ok (decide (b = c)) w := by
  obtain ⟨f0, f1, f2, hf, n0, n1, n2, t0, o0, t1, o1, t2, o2⟩ := fields49
  have pk := part_key49
  have pc := part_check49
  have pn := part_n49
  have hq := fun x y => sums49 d x y w
  have hi := run_equalIn_int w (d + 1) 2 .i64 .i64 b.n c.n Try.underlying2
  rw [run_equalIn_struct w (d + 2) _ _ _ holds49.1 holds49.2, hf]
  simp only [Op.eqFields, n0, n1, n2, ne_eq, not_false_eq_true, if_true, Sem.run_bind, t0, o0, t1, o1, t2, o2, pn, Result.andThen_ok, hi]
  by_cases e0 : b.n = c.n
  · by_cases e1 : b.key = c.key
    · by_cases e2 : b.check = c.check
      · have h := (Cl.eq_iff b c).1 ⟨e0, e1, e2⟩
        subst h
        simp [pk, pc, hq]
      · have hne : ¬ b = c := fun h => e2 (by rw [h])
        have e3 : ¬ b.check.l = c.check.l := fun h => e2 (Sm.ext_l h)
        simp [e0, e1, e3, hne, pk, pc, hq]
    · have hne : ¬ b = c := fun h => e1 (by rw [h])
      have e3 : ¬ b.key.l = c.key.l := fun h => e1 (Sm.ext_l h)
      simp [e0, e3, hne, pk, hq]
  · have hne : ¬ b = c := fun h => e0 (by rw [h])
    simp [e0, hne]
theorem eql_cl49 (c d : Cl) (w : World) : (binOp .eql 49 (.agg c.a) (.agg d.a)).run Try.prog w = .ok (.bool (decide (c = d))) w := by rw [run_eql_struct, eql_cell49 9997]; rfl
theorem neq_cl49 (c d : Cl) (w : World) : (binOp .neq 49 (.agg c.a) (.agg d.a)).run Try.prog w = .ok (.bool (!decide (c = d))) w := by rw [run_neq_struct, eql_cell49 9997]; rfl

end Go.Proofs.Ytbhlaafahfeacaa
