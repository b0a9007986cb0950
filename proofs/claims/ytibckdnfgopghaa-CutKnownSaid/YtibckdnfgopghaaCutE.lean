/- Walks of the reference's Next and Ends, of any rule. -/
import Derived.Test.YtibckdnfgopghaaCutD
namespace Go.Proofs.Ytibckdnfgopghaa
open Go.RowKit

theorem refNext_any (mn mx wd : Int) (mask want : Nat) (A : Option Addr) (n cap : Nat) (b : List Nat) (w : World) (hl : b.length = n) (hmc : n ≤ cap) (hr : Rd w A (b.map bv)) (hA : A = none → n = 0) (hx : ∀ x ∈ b, x < 256) (hn : n ≤ maxLen)
    (hm : mask < 18446744073709551616) :
    Calls Try.prog 33 #[.agg #[.int .i64 mn, .int .i64 mx, .int .i64 wd, .int .u64 mask, .int .u64 want], .slice A n cap] w fun e w' => e = .returned (.int .i64 (nextR mn mx wd mask want b : Nat)) ∧ Below w.heap.size w w' := by
  by_cases hg : goodS mn mx wd = true
  · obtain ⟨mn, mx, wd, rfl, rfl, rfl⟩ := good_cast hg
    unfold nextR
    rw [if_pos hg]
    exact refNext_go mn mx wd mask want A n cap b w hg hl hmc hr hA hx hn hm
  · unfold nextR
    rw [if_neg hg]
    have hg' : goodS mn mx wd = false := by simpa using hg
    unfold maxLen at hn
    go_enter Try.func33, Try.ntmps33
    go_wp2_with (go_at_call 32; refine (refGood_any _ _ _ _ _ _).mono ?_; rintro e w1 ⟨rfl, hb⟩; rw [hg'])
    go_ret
    exact ⟨rfl, ((Below.refl _ _).alloc (Nat.le_refl _) (.cells #[.int .i64 mn, .int .i64 mx, .int .i64 wd, .int .u64 mask, .int .u64 want] 46)).trans (hb.mono (by simp))⟩

theorem refEnds_go (mn mx wd : Int) (mask want : Nat) (A : Option Addr) (n cap : Nat) (b : List Nat) (w : World) (hg : goodS mn mx wd = true) (hl : b.length = n) (hmc : n ≤ cap) (hr : Rd w A (b.map bv)) (hA : A = none → n = 0) (hx : ∀ x ∈ b, x < 256) (hn : n ≤ 4000)
    (hm : mask < 18446744073709551616) :
    Calls Try.prog 31 #[.agg #[.int .i64 mn, .int .i64 mx, .int .i64 wd, .int .u64 mask, .int .u64 want], .slice A n cap] w fun e w' => ∃ v S, e = .returned v ∧ Seg w' 3 1 v (endsR mn mx wd mask want b).length ((endsR mn mx wd mask want b).map iv) S ∧ (∀ x ∈ S, w.heap.size ≤ x) ∧ Below w.heap.size w w' := by
  have hE : endsR mn mx wd mask want b = ends (nextR mn mx wd mask want) 0 b := by unfold endsR; rw [if_pos hg]
  rw [hE]
  have hnx := nextR_f mask want hg
  have hR0 : Blk (w.alloc (.cells #[.int .i64 mn, .int .i64 mx, .int .i64 wd, .int .u64 mask, .int .u64 want] 46)) w.heap.size 46 #[.int .i64 mn, .int .i64 mx, .int .i64 wd, .int .u64 mask, .int .u64 want] := Blk.new w _ _
  have hB0 : Below w.heap.size w (w.alloc (.cells #[.int .i64 mn, .int .i64 mx, .int .i64 wd, .int .u64 mask, .int .u64 want] 46)) := (Below.refl _ _).alloc (Nat.le_refl _) _
  go_enter Try.func31, Try.ntmps31
  go_wp2_with fail
  generalize w.alloc (.cells #[.int .i64 mn, .int .i64 mx, .int .i64 wd, .int .u64 mask, .int .u64 want] 46) = w1 at *
  have hRlt := hR0.lt
  go_loopw [5, 6] (fun o i wr => ∃ (k : Nat) (l : List Nat) (S : List Nat), k ≤ n ∧ l.length ≤ k ∧ i = .int .i64 k ∧ Seg wr 3 1 o l.length (l.map iv) S ∧ (∀ x ∈ S, w1.heap.size ≤ x) ∧ Below w1.heap.size w1 wr ∧ ends (nextR mn mx wd mask want) 0 b = l ++ ends (nextR mn mx wd mask want) k (b.drop k)) (fun _ i _ => n - (intOf i).toNat)
  case atStart => exact ⟨0, [], [], Nat.zero_le _, Nat.le_refl _, rfl, Seg.nil _ _ _, by simp, Below.refl _ _, rfl⟩
  case round =>
    obtain ⟨k, l, S, hk, hlk, rfl, hO, hS, hB2, hEk⟩ := hrel
    obtain ⟨oA, oC, rfl, hOf⟩ := hO.form
    have HE := Lib.hid hEk
    clear hEk
    by_cases hlt : k < n
    · have hR2 := hR0.keeps (Keeps.of_below (S := []) hB2) (by simp)
      have q0 : wr.cell? ⟨w.heap.size, 0, none⟩ = some (.int .i64 mn) := hR2.cell 0
      have q1 : wr.cell? ⟨w.heap.size, 1, none⟩ = some (.int .i64 mx) := hR2.cell 1
      have q2 : wr.cell? ⟨w.heap.size, 2, none⟩ = some (.int .i64 wd) := hR2.cell 2
      have q3 : wr.cell? ⟨w.heap.size, 3, none⟩ = some (.int .u64 mask) := hR2.cell 3
      have q4 : wr.cell? ⟨w.heap.size, 4, none⟩ = some (.int .u64 want) := hR2.cell 4
      have hdl : (b.drop k).length = n - k := by rw [List.length_drop]; omega
      have hf := hnx (b.drop k) (by omega)
      have hB3 := hB0.trans (hB2.mono hB0.size)
      have hr2 := (hr.below hB3).dropAt k
      rw [← List.map_drop] at hr2
      have hx2 : ∀ x ∈ b.drop k, x < 256 := fun x h => hx x (List.mem_of_mem_drop h)
      obtain ⟨ad, rfl⟩ : ∃ ad, A = some ad := by
        cases A with
        | none => exact absurd (hA rfl) (by omega)
        | some ad => exact ⟨ad, rfl⟩
      have hcl : cap ≠ k := by omega
      have hst := Lib.hid (ends_step (nextR mn mx wd mask want) hnx k (b.drop k) (by omega))
      have hdd : (b.drop k).drop (nextR mn mx wd mask want (b.drop k)) = b.drop (k + nextR mn mx wd mask want (b.drop k)) := by rw [List.drop_drop]
      have hNx := fun (w0 : World) (h0 : Rd w0 (some (ad.add k)) ((b.drop k).map bv)) => refNext_any mn mx wd mask want (some (ad.add k)) (n - k) (cap - k) (b.drop k) w0 hdl (by omega) h0 (by simp) hx2 (by simp only [maxLen]; omega) hm
      rw [hdd] at hst
      clear hdd
      generalize hfx : nextR mn mx wd mask want (b.drop k) = f at *
      have hwp : IntKind.i64.wrap ((k : Int) + (f : Int)) = ((k + f : Nat) : Int) := by simp [IntKind.wrap, IntKind.bits, IntKind.signed]; omega
      go_wp2_with fail
      refine (refGood_any mn mx wd mask want _).mono ?_
      rintro e w5 ⟨rfl, hBg⟩
      rw [hg]
      replace hr2 := hr2.below hBg
      replace hO := hO.below hBg
      replace hB2 := hB2.trans (hBg.mono hB2.size)
      replace hR2 := hR2.below hBg
      clear q0 q1 q2 q3 q4 hB3 hOf
      have q0 : w5.cell? ⟨w.heap.size, 0, none⟩ = some (.int .i64 mn) := hR2.cell 0
      have q1 : w5.cell? ⟨w.heap.size, 1, none⟩ = some (.int .i64 mx) := hR2.cell 1
      have q2 : w5.cell? ⟨w.heap.size, 2, none⟩ = some (.int .i64 wd) := hR2.cell 2
      have q3 : w5.cell? ⟨w.heap.size, 3, none⟩ = some (.int .u64 mask) := hR2.cell 3
      have q4 : w5.cell? ⟨w.heap.size, 4, none⟩ = some (.int .u64 want) := hR2.cell 4
      go_wp2_with fail
      go_region_held3 (fun w' => w'.cell? ⟨w.heap.size, 0, none⟩ = some (.int .i64 mn) ∧ w'.cell? ⟨w.heap.size, 1, none⟩ = some (.int .i64 mx) ∧ w'.cell? ⟨w.heap.size, 2, none⟩ = some (.int .i64 wd) ∧ w'.cell? ⟨w.heap.size, 3, none⟩ = some (.int .u64 mask) ∧ w'.cell? ⟨w.heap.size, 4, none⟩ = some (.int .u64 want)) (first | assumption | go_keep)
        (first
          | (go_at_call 33
             refine (hNx _ hr2.drew).mono ?_
             rintro e w2 ⟨rfl, hB4⟩
             have hB5 : Below w1.heap.size w1 w2 := hB2.drew.trans (hB4.mono hB2.size)
             have hR3 := hR0.keeps (Keeps.of_below (S := []) hB5) (by simp)
             have p0 : w2.cell? ⟨w.heap.size, 0, none⟩ = some (.int .i64 mn) := hR3.cell 0
             have p1 : w2.cell? ⟨w.heap.size, 1, none⟩ = some (.int .i64 mx) := hR3.cell 1
             have p2 : w2.cell? ⟨w.heap.size, 2, none⟩ = some (.int .i64 wd) := hR3.cell 2
             have p3 : w2.cell? ⟨w.heap.size, 3, none⟩ = some (.int .u64 mask) := hR3.cell 3
             have p4 : w2.cell? ⟨w.heap.size, 4, none⟩ = some (.int .u64 want) := hR3.cell 4))
      have hO2 := (hO.drew).below hB4
      clear p0 p1 p2 p3 p4 q0 q1 q2 q3 q4
      go_wp2_with (at_builtin; refine wpList_append_seg _ rfl (.tmp 22) (.tmp 24) 40 rfl 3 (.int .i64 0) 1 8 Try.underlying40 info_int rfl (.slice oA l.length oC) l.length (l.map iv) S rfl (hO2.alloc _) (some ⟨w2.heap.size, 0, none⟩) 1 1 [iv (k + f)] rfl rfl (Rd.of_blk0 (Blk.new _ _ #[iv (k + f)])) (by simp) (by simp [iv, Value.oneCell']) (by simp only [maxLen]; omega) (by omega) ?_)
      intro v' w3 S' hseg hK hSS
      have hB6 : Below w1.heap.size w1 w3 := by
        have h1 : Keeps [] w1 w2 := Keeps.of_below hB5
        exact ((h1.alloc (.cells #[iv (k + f)] 3)).trans' hK (fun x hx => .inr (hS x hx))).below
      have hS' : ∀ x ∈ S', w1.heap.size ≤ x := by
        rcases hSS with rfl | rfl
        · exact hS
        · have := hB5.size; intro x hx; simp at hx; omega
      obtain ⟨A', C', rfl, _⟩ := hseg.form
      go_wp2_with fail
      go_roundw
      case rel =>
        refine ⟨k + f, l ++ [k + f], S', by omega, by simp; omega, by go_num, ?_, hS', hB6, ?_⟩
        · rw [List.length_append, List.map_append]; exact hseg
        · rw [HE.out, hst.out]; simp
      case measure => simp [intOf]; omega
    · obtain rfl : k = n := by omega
      rw [List.drop_of_length_le (by omega), ends_nil, List.append_nil] at HE
      go_wp2_with fail
      go_ret
      refine ⟨_, S, rfl, ?_, ?_, hB0.trans (hB2.mono hB0.size)⟩
      · rw [HE.out]; exact hO
      · intro x hx; have := hS x hx; omega

theorem refEnds_any (mn mx wd : Int) (mask want : Nat) (A : Option Addr) (n cap : Nat) (b : List Nat) (w : World) (hl : b.length = n) (hmc : n ≤ cap) (hr : Rd w A (b.map bv)) (hA : A = none → n = 0) (hx : ∀ x ∈ b, x < 256) (hn : n ≤ 4000)
    (hm : mask < 18446744073709551616) :
    Calls Try.prog 31 #[.agg #[.int .i64 mn, .int .i64 mx, .int .i64 wd, .int .u64 mask, .int .u64 want], .slice A n cap] w fun e w' => ∃ v S, e = .returned v ∧ Seg w' 3 1 v (endsR mn mx wd mask want b).length ((endsR mn mx wd mask want b).map iv) S ∧ (∀ x ∈ S, w.heap.size ≤ x) ∧ Below w.heap.size w w' := by
  by_cases hg : goodS mn mx wd = true
  · exact refEnds_go mn mx wd mask want A n cap b w hg hl hmc hr hA hx hn hm
  · have hE : endsR mn mx wd mask want b = [] := by unfold endsR; rw [if_neg hg]
    have hg' : goodS mn mx wd = false := by simpa using hg
    rw [hE]
    have hR0 : Blk (w.alloc (.cells #[.int .i64 mn, .int .i64 mx, .int .i64 wd, .int .u64 mask, .int .u64 want] 46)) w.heap.size 46 #[.int .i64 mn, .int .i64 mx, .int .i64 wd, .int .u64 mask, .int .u64 want] := Blk.new w _ _
    have hB0 : Below w.heap.size w (w.alloc (.cells #[.int .i64 mn, .int .i64 mx, .int .i64 wd, .int .u64 mask, .int .u64 want] 46)) := (Below.refl _ _).alloc (Nat.le_refl _) _
    go_enter Try.func31, Try.ntmps31
    go_wp2_with fail
    generalize w.alloc (.cells #[.int .i64 mn, .int .i64 mx, .int .i64 wd, .int .u64 mask, .int .u64 want] 46) = w1 at *
    have hRlt := hR0.lt
    by_cases hn0 : 0 < n
    · have q0 : w1.cell? ⟨w.heap.size, 0, none⟩ = some (.int .i64 mn) := hR0.cell 0
      have q1 : w1.cell? ⟨w.heap.size, 1, none⟩ = some (.int .i64 mx) := hR0.cell 1
      have q2 : w1.cell? ⟨w.heap.size, 2, none⟩ = some (.int .i64 wd) := hR0.cell 2
      have q3 : w1.cell? ⟨w.heap.size, 3, none⟩ = some (.int .u64 mask) := hR0.cell 3
      have q4 : w1.cell? ⟨w.heap.size, 4, none⟩ = some (.int .u64 want) := hR0.cell 4
      go_loopw [5, 6] (fun o i wr => o = .slice none 0 0 ∧ i = .int .i64 0 ∧ wr = w1) (fun _ _ _ => 0)
      case atStart => exact ⟨rfl, rfl, rfl⟩
      case round =>
        obtain ⟨rfl, rfl, rfl⟩ := hrel
        go_wp2_with fail
        refine (refGood_any mn mx wd mask want _).mono ?_
        rintro e w5 ⟨rfl, hBg⟩
        rw [hg']
        go_wp2_with fail
        go_ret
        exact ⟨_, [], rfl, Seg.nil _ _ _, by simp, hB0.trans (hBg.mono hB0.size)⟩
    · go_loopw [5, 6] (fun o i wr => o = .slice none 0 0 ∧ i = .int .i64 0 ∧ wr = w1) (fun _ _ _ => 0)
      case atStart => exact ⟨rfl, rfl, rfl⟩
      case round =>
        obtain ⟨rfl, rfl, rfl⟩ := hrel
        go_wp2_with fail
        go_ret
        exact ⟨_, [], rfl, Seg.nil _ _ _, by simp, hB0⟩
end Go.Proofs.Ytibckdnfgopghaa
