/- Walks of package cut: Ends. -/
import Derived.Test.YtibckdnfgopghaaCutA
import Derived.Lib.BufferMore
namespace Go.Proofs.Ytibckdnfgopghaa
open Go.RowKit

def iv (n : Nat) : Value := .int .i64 (n : Int)
theorem info_int : (Try.prog.info? 3).map (fun i => (i.zero, i.size, i.bytes)) = some (some (.int .i64 0), 1, 8) := by kernel_rfl

/-- Where all pieces end, of any rule. -/
def endsR (mn mx wd : Int) (mask want : Nat) (b : List Nat) : List Nat := if goodS mn mx wd = true then ends (nextR mn mx wd mask want) 0 b else []

theorem nextR_f {mn mx wd : Int} (mask want : Nat) (hg : goodS mn mx wd = true) : ∀ b : List Nat, b.length ≠ 0 → 1 ≤ nextR mn mx wd mask want b ∧ nextR mn mx wd mask want b ≤ b.length := by
  obtain ⟨mn, mx, wd, rfl, rfl, rfl⟩ := good_cast hg
  obtain ⟨g1, g2, g3, g4, g5⟩ := good_nat hg
  intro b hb
  unfold nextR
  rw [if_pos hg]
  exact nextS_f mn mx wd mask want (by omega) g4 b hb

theorem Ends_go (mn mx wd : Int) (mask want : Nat) (A : Option Addr) (n cap : Nat) (b : List Nat) (w : World) (hg : goodS mn mx wd = true) (hl : b.length = n) (hmc : n ≤ cap) (hr : Rd w A (b.map bv)) (hA : A = none → n = 0) (hx : ∀ x ∈ b, x < 256) (hn : n ≤ 4000)
    (hm : mask < 18446744073709551616) :
    Calls Try.prog 26 #[.agg #[.int .i64 mn, .int .i64 mx, .int .i64 wd, .int .u64 mask, .int .u64 want], .slice A n cap] w fun e w' => ∃ v S, e = .returned v ∧ Seg w' 3 1 v (endsR mn mx wd mask want b).length ((endsR mn mx wd mask want b).map iv) S ∧ (∀ x ∈ S, w.heap.size ≤ x) ∧ Below w.heap.size w w' := by
  have hE : endsR mn mx wd mask want b = ends (nextR mn mx wd mask want) 0 b := by unfold endsR; rw [if_pos hg]
  rw [hE]
  have hnx := nextR_f mask want hg
  go_enter Try.func26, Try.ntmps26
  go_wp2_with fail
  refine (Good_any _ _ _ _ _ _).mono ?_
  rintro e w1 ⟨rfl, hb⟩
  rw [hg]
  have hR := (Blk.new w 37 #[.int .i64 mn, .int .i64 mx, .int .i64 wd, .int .u64 mask, .int .u64 want]).below hb
  have hB := ((Below.refl w.heap.size w).alloc (Nat.le_refl _) (.cells #[.int .i64 mn, .int .i64 mx, .int .i64 wd, .int .u64 mask, .int .u64 want] 37)).trans (hb.mono (by simp))
  clear hb
  have hRlt := hR.lt
  go_wp2_with fail
  go_loopw [5, 6] (fun o i wr => ∃ (k : Nat) (l : List Nat) (S : List Nat), k ≤ n ∧ l.length ≤ k ∧ i = .int .i64 k ∧ Seg wr 3 1 o l.length (l.map iv) S ∧ (∀ x ∈ S, w1.heap.size ≤ x) ∧ Below w1.heap.size w1 wr ∧ ends (nextR mn mx wd mask want) 0 b = l ++ ends (nextR mn mx wd mask want) k (b.drop k)) (fun _ i _ => n - (intOf i).toNat)
  case atStart => exact ⟨0, [], [], Nat.zero_le _, Nat.le_refl _, rfl, Seg.nil _ _ _, by simp, Below.refl _ _, rfl⟩
  case round =>
    obtain ⟨k, l, S, hk, hlk, rfl, hO, hS, hB2, hEk⟩ := hrel
    obtain ⟨oA, oC, rfl, hOf⟩ := hO.form
    have HE := Lib.hid hEk
    clear hEk
    by_cases hlt : k < n
    · have hR2 := hR.keeps (Keeps.of_below (S := []) hB2) (by simp)
      have q0 : wr.cell? ⟨w.heap.size, 0, none⟩ = some (.int .i64 mn) := hR2.cell 0
      have q1 : wr.cell? ⟨w.heap.size, 1, none⟩ = some (.int .i64 mx) := hR2.cell 1
      have q2 : wr.cell? ⟨w.heap.size, 2, none⟩ = some (.int .i64 wd) := hR2.cell 2
      have q3 : wr.cell? ⟨w.heap.size, 3, none⟩ = some (.int .u64 mask) := hR2.cell 3
      have q4 : wr.cell? ⟨w.heap.size, 4, none⟩ = some (.int .u64 want) := hR2.cell 4
      have hdl : (b.drop k).length = n - k := by rw [List.length_drop]; omega
      have hf := hnx (b.drop k) (by omega)
      have hB3 := hB.trans (hB2.mono hB.size)
      have hr2 := (hr.below hB3).dropAt k
      rw [← List.map_drop] at hr2
      have hx2 : ∀ x ∈ b.drop k, x < 256 := fun x h => hx x (List.mem_of_mem_drop h)
      obtain ⟨ad, rfl⟩ : ∃ ad, A = some ad := by
        cases A with
        | none => exact absurd (hA rfl) (by omega)
        | some ad => exact ⟨ad, rfl⟩
      have hcl : cap ≠ k := by omega
      have hst := Lib.hid (ends_step (nextR mn mx wd mask want) hnx k (b.drop k) (by omega))
      have hdd : (b.drop k).drop (nextR mn mx wd mask want (b.drop k)) = b.drop (k + nextR mn mx wd mask want (b.drop k)) := by rw [List.drop_drop]
      have hNx := fun (w0 : World) (h0 : Rd w0 (some (ad.add k)) ((b.drop k).map bv)) => Next_any mn mx wd mask want (some (ad.add k)) (n - k) (cap - k) (b.drop k) w0 hdl h0 (by simp) hx2 (by simp only [maxLen]; omega) hm
      rw [hdd] at hst
      clear hdd
      generalize hfx : nextR mn mx wd mask want (b.drop k) = f at *
      have hwp : IntKind.i64.wrap ((k : Int) + (f : Int)) = ((k + f : Nat) : Int) := by simp [IntKind.wrap, IntKind.bits, IntKind.signed]; omega
      go_wp2_with fail
      go_region_held3 (fun w' => w'.cell? ⟨w.heap.size, 0, none⟩ = some (.int .i64 mn) ∧ w'.cell? ⟨w.heap.size, 1, none⟩ = some (.int .i64 mx) ∧ w'.cell? ⟨w.heap.size, 2, none⟩ = some (.int .i64 wd) ∧ w'.cell? ⟨w.heap.size, 3, none⟩ = some (.int .u64 mask) ∧ w'.cell? ⟨w.heap.size, 4, none⟩ = some (.int .u64 want)) (first | assumption | go_keep)
        (first
          | (go_at_call 28
             refine (hNx _ hr2.drew).mono ?_
             rintro e w2 ⟨rfl, hB4⟩
             have hB5 : Below w1.heap.size w1 w2 := hB2.drew.trans (hB4.mono hB2.size)
             have hR3 := hR.keeps (Keeps.of_below (S := []) hB5) (by simp)
             have p0 : w2.cell? ⟨w.heap.size, 0, none⟩ = some (.int .i64 mn) := hR3.cell 0
             have p1 : w2.cell? ⟨w.heap.size, 1, none⟩ = some (.int .i64 mx) := hR3.cell 1
             have p2 : w2.cell? ⟨w.heap.size, 2, none⟩ = some (.int .i64 wd) := hR3.cell 2
             have p3 : w2.cell? ⟨w.heap.size, 3, none⟩ = some (.int .u64 mask) := hR3.cell 3
             have p4 : w2.cell? ⟨w.heap.size, 4, none⟩ = some (.int .u64 want) := hR3.cell 4))
      have hO2 := (hO.drew).below hB4
      clear p0 p1 p2 p3 p4 q0 q1 q2 q3 q4
      go_wp2_with (at_builtin; refine wpList_append_seg _ rfl (.tmp 21) (.tmp 23) 40 rfl 3 (.int .i64 0) 1 8 Try.underlying40 info_int rfl (.slice oA l.length oC) l.length (l.map iv) S rfl (hO2.alloc _) (some ⟨w2.heap.size, 0, none⟩) 1 1 [iv (k + f)] rfl rfl (Rd.of_blk0 (Blk.new _ _ #[iv (k + f)])) (by simp) (by simp [iv, Value.oneCell']) (by simp only [maxLen]; omega) (by omega) ?_)
      intro v' w3 S' hseg hK hSS
      have hB6 : Below w1.heap.size w1 w3 := by
        have h1 : Keeps [] w1 w2 := Keeps.of_below hB5
        exact ((h1.alloc (.cells #[iv (k + f)] 3)).trans' hK (fun x hx => .inr (hS x hx))).below
      have hS' : ∀ x ∈ S', w1.heap.size ≤ x := by
        rcases hSS with rfl | rfl
        · exact hS
        · have := hB5.size; intro x hx; simp at hx; omega
      obtain ⟨A', C', rfl, _⟩ := hseg.form
      go_wp2_with fail
      go_roundw
      case rel =>
        refine ⟨k + f, l ++ [k + f], S', by omega, by simp; omega, by go_num, ?_, hS', hB6, ?_⟩
        · rw [List.length_append, List.map_append]; exact hseg
        · rw [HE.out, hst.out]; simp
      case measure => simp [intOf]; omega
    · obtain rfl : k = n := by omega
      rw [List.drop_of_length_le (by omega), ends_nil, List.append_nil] at HE
      go_wp2_with fail
      go_ret
      refine ⟨_, S, rfl, ?_, ?_, hB.trans (hB2.mono hB.size)⟩
      · rw [HE.out]; exact hO
      · intro x hx; have := hS x hx; omega

theorem Ends_any (mn mx wd : Int) (mask want : Nat) (A : Option Addr) (n cap : Nat) (b : List Nat) (w : World) (hl : b.length = n) (hmc : n ≤ cap) (hr : Rd w A (b.map bv)) (hA : A = none → n = 0) (hx : ∀ x ∈ b, x < 256) (hn : n ≤ 4000)
    (hm : mask < 18446744073709551616) :
    Calls Try.prog 26 #[.agg #[.int .i64 mn, .int .i64 mx, .int .i64 wd, .int .u64 mask, .int .u64 want], .slice A n cap] w fun e w' => ∃ v S, e = .returned v ∧ Seg w' 3 1 v (endsR mn mx wd mask want b).length ((endsR mn mx wd mask want b).map iv) S ∧ (∀ x ∈ S, w.heap.size ≤ x) ∧ Below w.heap.size w w' := by
  by_cases hg : goodS mn mx wd = true
  · exact Ends_go mn mx wd mask want A n cap b w hg hl hmc hr hA hx hn hm
  · have hE : endsR mn mx wd mask want b = [] := by unfold endsR; rw [if_neg hg]
    have hg' : goodS mn mx wd = false := by simpa using hg
    rw [hE]
    go_enter Try.func26, Try.ntmps26
    go_wp2_with (go_at_call 25; refine (Good_any _ _ _ _ _ _).mono ?_; rintro e w1 ⟨rfl, hb⟩; rw [hg'])
    go_ret
    exact ⟨_, [], rfl, Seg.nil _ _ _, by simp, ((Below.refl _ _).alloc (Nat.le_refl _) (.cells #[.int .i64 mn, .int .i64 mx, .int .i64 wd, .int .u64 mask, .int .u64 want] 37)).trans (hb.mono (by simp))⟩

theorem Clone_any (ad : Addr) (n cap : Nat) (l : List Nat) (w : World) (hl : l.length = n) (hr : Rd w (some ad) (l.map bv)) (hn : n ≤ 4000) :
    Calls Try.prog 41 #[.slice (some ad) n cap] w fun e w' => ∃ v S, e = .returned v ∧ Seg w' 5 1 v n (l.map bv) S ∧ (∀ x ∈ S, w.heap.size ≤ x) ∧ Below w.heap.size w w' := by
  have hnil : ∀ W, (binOp .eql 22 (.slice (some ad) n cap) (.slice none 0 0)).run Try.prog W = .ok (.bool false) W := fun W => Lib.run_eql_slice_some_nil W _ _ _ Try.underlying22
  go_enter Try.func41, Try.ntmps41
  go_wp2_with (at_builtin; refine wpList_append_seg _ rfl (.tmp 5) (.tmp 6) 22 rfl 5 (.int .u8 0) 1 1 Try.underlying22 info_u8 rfl (.slice (some ⟨w.heap.size, 0, none⟩) 0 0) 0 [] [w.heap.size] rfl (Seg.ofBlk (cap := 0) (Blk.new w _ #[]) rfl (by simp [maxLen])) (some ad) n cap (l.map bv) rfl (by simp [hl]) (hr.alloc _) (by simp) (by simp [bv, Value.oneCell']) (by simp only [maxLen]; omega) (by omega) ?_)
  intro v' w2 S' hseg hK hSS
  obtain ⟨A', C', rfl, _⟩ := hseg.form
  go_wp2_with fail
  go_ret
  refine ⟨_, S', rfl, hseg, ?_, ((((Keeps.refl [] w).alloc (.cells #[] 5)).trans' hK (fun x hx => .inr (by simp at hx; omega)))).below⟩
  rcases hSS with rfl | rfl
  · simp
  · intro x hx; simp at hx; omega
end Go.Proofs.Ytibckdnfgopghaa
