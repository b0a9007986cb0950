/- Walks of package roll's functions over memory: New, Add, Sum, Len, Reset, Of. -/
import Derived.Test.YtibckdnfgopghaaRollA
import Derived.Test.YtibckdnfgopghaaMem
import Derived.StillTailTactics
import Derived.BigRegion
namespace Go.Proofs.Ytibckdnfgopghaa
open Go.RowKit

theorem info_u8 : (Try.prog.info? 5).map (fun i => (i.zero, i.size, i.bytes)) = some (some (.int .u8 0), 1, 1) := by kernel_rfl
def RollAt (w : World) (g : Nat) (S : List Nat) (W : Nat) (l : List Nat) (s : Nat) : Prop :=
  ∃ v, Blk w g 59 #[.int .i64 (W : Int), v, .int .u64 (s : Int)] ∧ Seg w 5 1 v l.length (l.map bv) S ∧ g ∉ S

theorem New_any (a : Int) (w : World) :
    Calls Try.prog 16 #[.int .i64 a] w fun e w' => ∃ g, e = .returned (.pointer (some ⟨g, 0, none⟩)) ∧ w.heap.size = g ∧ RollAt w' g [] (holdS a) [] 0 ∧ Below w.heap.size w w' := by
  go_enter Try.func16, Try.ntmps16
  go_wp2_with (first | (go_at_call 36; refine (hold_any _ _).mono ?_; rintro e w' ⟨rfl, rfl⟩))
  go_ret
  exact ⟨_, rfl, rfl, ⟨_, Blk.new _ _ _, Seg.nil _ _ _, by simp⟩, (Below.refl _ _).alloc (Nat.le_refl _) _⟩

theorem Sum_any (g W s : Nat) (v : Value) (w : World) (hb : Blk w g 59 #[.int .i64 (W : Int), v, .int .u64 (s : Int)]) :
    Calls Try.prog 19 #[.pointer (some ⟨g, 0, none⟩)] w fun e w' => e = .returned (.int .u64 s) ∧ w = w' := by
  have c2 : w.cell? ⟨g, 2, none⟩ = some (.int .u64 s) := hb.cell 2
  go_enter Try.func19, Try.ntmps19
  go_wp2
  go_ret
  exact ⟨rfl, rfl⟩

theorem Len_any (g W s n c : Nat) (A : Option Addr) (w : World) (hb : Blk w g 59 #[.int .i64 (W : Int), .slice A n c, .int .u64 (s : Int)]) :
    Calls Try.prog 20 #[.pointer (some ⟨g, 0, none⟩)] w fun e w' => e = .returned (.int .i64 n) ∧ w = w' := by
  have c1 : w.cell? ⟨g, 1, none⟩ = some (.slice A n c) := hb.cell 1
  go_enter Try.func20, Try.ntmps20
  go_wp2
  go_ret
  exact ⟨rfl, rfl⟩

theorem Add_room (g W s n cap c : Nat) (A : Option Addr) (l : List Nat) (S : List Nat) (w : World)
    (hb : Blk w g 59 #[.int .i64 (W : Int), .slice A n cap, .int .u64 (s : Int)]) (hl : Seg w 5 1 (.slice A n cap) n (l.map bv) S) (hg : g ∉ S)
    (hn : n < W) (hW : W ≤ 64) (hs : s < 2305843009213693951) (hc : c < 256) :
    Calls Try.prog 18 #[.pointer (some ⟨g, 0, none⟩), .int .u8 c] w fun e w' => e = .returned (.int .u64 (onS s c)) ∧
      ∃ S', RollAt w' g S' W (l ++ [c]) (onS s c) ∧ Keeps (g :: S) w w' ∧ ∀ x ∈ S', x ∈ S ∨ w.heap.size ≤ x := by
  have c0 : w.cell? ⟨g, 0, none⟩ = some (.int .i64 W) := hb.cell 0
  have c1 : w.cell? ⟨g, 1, none⟩ = some (.slice A n cap) := hb.cell 1
  have c2 : w.cell? ⟨g, 2, none⟩ = some (.int .u64 s) := hb.cell 2
  have f1 := hb.frozen 1
  have f2 := hb.frozen 2
  have hne : ((n : Int) == (W : Int)) = false := by simp; omega
  go_enter Try.func18, Try.ntmps18
  go_wp2_with fail
  go_quiet (fail)
  go_wp2_with (at_builtin; refine wpList_append_seg _ rfl (.tmp 45) (.tmp 47) 22 rfl 5 (.int .u8 0) 1 1 Try.underlying22 info_u8 rfl (.slice A n cap) n (l.map bv) S rfl ((hl.drewN _).alloc _) (some ⟨w.heap.size, 0, none⟩) 1 1 [bv c] rfl rfl (Rd.of_blk0 (Blk.new _ _ #[bv c])) (by simp) (by simp [bv, Value.oneCell']) (by simp only [maxLen]; omega) (by omega) ?_)
  intro v' w2 S' hseg hk hS
  obtain ⟨A', cap', rfl, _⟩ := hseg.form
  have hb1 : Blk w2 g 59 #[.int .i64 (W : Nat), .slice A n cap, .int .u64 (s : Nat)] := ((hb.drewN _).alloc _).keeps hk hg
  have hgS : g ∉ S' := by
    rcases hS with rfl | rfl
    · exact hg
    · have := hb.lt; simp at this ⊢; omega
  have hK : Keeps (g :: S) w w2 := (((Keeps.refl (g :: S) w).drewN _).alloc _).trans' hk (fun x hx => .inl (List.mem_cons_of_mem _ hx))
  have hS' : ∀ x ∈ S', x ∈ S ∨ w.heap.size ≤ x := by
    rcases hS with rfl | rfl
    · exact fun x hx => .inl hx
    · intro x hx; simp at hx; omega
  clear hS hk c0 c1 c2 f1 f2
  have f1 := hb1.frozen 1
  have f2 := hb1.frozen 2
  have c1 : w2.cell? ⟨g, 1, none⟩ = some (.slice A n cap) := hb1.cell 1
  have c2 : w2.cell? ⟨g, 2, none⟩ = some (.int .u64 (s : Nat)) := hb1.cell 2
  go_wp2_with fail
  refine (on_any (s) c hs hc _).mono ?_
  rintro e w' ⟨rfl, rfl⟩
  go_wp2_with fail
  go_ret
  have hlen : (l ++ [c]).length = n + 1 := by have := hseg.1; simp at this ⊢; omega
  refine ⟨rfl, S', ⟨.slice A' (n + 1) cap', (hb1.set 1 _).set 2 _, ?_, hgS⟩, (hK.setCell _ (by simp)).setCell _ (by simp), hS'⟩
  rw [hlen, List.map_append]
  exact (hseg.keeps (((Keeps.refl [g] w2).setCell _ (by simp)).setCell _ (by simp)) (by intro x hx e; simp at e; subst e; exact hgS hx))

theorem Seg.tail1 {w : World} {e : TypeId} {b off n cap : Nat} {x : Value} {xs : List Value} {S : List Nat} (h : Seg w e 1 (.slice (some ⟨b, off, none⟩) (n + 1) cap) (n + 1) (x :: xs) S) :
    Seg w e 1 (.slice (some (if cap = 1 then ⟨b, off, none⟩ else ⟨b, off + 1, none⟩)) n (cap - 1)) n xs S := by
  refine ⟨by have := h.1; simp at this ⊢; omega, .inr ?_⟩
  rcases h.2 with ⟨h2, _⟩ | ⟨g, o, c, cs, hv, hS, hb, hs, hn, hm, hx⟩
  · simp at h2
  · simp only [Value.slice.injEq, Option.some.injEq, Addr.mk.injEq, and_true, true_and] at hv
    obtain ⟨⟨rfl, rfl⟩, rfl⟩ := hv
    by_cases h1 : cap = 1
    · exact ⟨b, off, cap - 1, cs, by rw [if_pos h1], hS, hb, by omega, by omega, by omega, fun j hj => by omega⟩
    · refine ⟨b, off + 1, cap - 1, cs, by rw [if_neg h1], hS, hb, by omega, by omega, by omega, fun j hj => ?_⟩
      have := hx (j + 1) (by omega)
      rw [show off + 1 + j = off + (j + 1) by omega, this]
      simp
set_option maxHeartbeats 800000 in
theorem Add_full (g s n cap c o b off : Nat) (l : List Nat) (S : List Nat) (w : World)
    (hb : Blk w g 59 #[.int .i64 ((n + 1 : Nat) : Int), .slice (some ⟨b, off, none⟩) (n + 1) cap, .int .u64 (s : Int)]) (hl : Seg w 5 1 (.slice (some ⟨b, off, none⟩) (n + 1) cap) (n + 1) ((o :: l).map bv) S) (hg : g ∉ S)
    (hW : n + 1 ≤ 64) (hc1 : cap ≠ 1) (hs : s < 2305843009213693951) (hc : c < 256) (ho : o < 256) :
    Calls Try.prog 18 #[.pointer (some ⟨g, 0, none⟩), .int .u8 c] w fun e w' => e = .returned (.int .u64 (onS (withoutS s o (n + 1)) c)) ∧
      ∃ S', RollAt w' g S' (n + 1) (l ++ [c]) (onS (withoutS s o (n + 1)) c) ∧ Keeps (g :: S) w w' ∧ ∀ x ∈ S', x ∈ S ∨ w.heap.size ≤ x := by
  have hcap : n + 1 ≤ cap := by
    obtain ⟨A', c', hv, h, _⟩ := hl.form
    simp only [Value.slice.injEq, true_and] at hv
    omega
  have cb : w.cell? ⟨b, off, none⟩ = some (.int .u8 o) := by
    obtain ⟨A', c', hv, _, _, h, _⟩ := hl.form
    simp only [Value.slice.injEq, true_and] at hv
    obtain ⟨ad, e, hc⟩ := h 0 (bv o) (by simp)
    rw [← hv.1] at e
    injection e with e
    subst e
    simpa [bv, Addr.add_zero'] using hc
  have cb' : ∀ k, (w.drewN k).cell? ⟨b, off, none⟩ = some (.int .u8 o) := fun _ => cb
  have hbS : b ∈ S := by
    obtain ⟨A', c', hv, _, _, _, h, _⟩ := hl.form
    simp only [Value.slice.injEq, true_and] at hv
    exact h _ hv.1.symm
  have hgb : g ≠ b := fun e => hg (e ▸ hbS)
  have hs2 := withoutS_lt s o (n + 1)
  have hW0 : 0 < n + 1 := by omega
  have hl2 := hl.tail1
  rw [if_neg hc1] at hl2
  have c0 : w.cell? ⟨g, 0, none⟩ = some (.int .i64 (n + 1 : Nat)) := hb.cell 0
  have c1 : w.cell? ⟨g, 1, none⟩ = some (.slice (some ⟨b, off, none⟩) (n + 1) cap) := hb.cell 1
  have c2 : w.cell? ⟨g, 2, none⟩ = some (.int .u64 s) := hb.cell 2
  have f1 := hb.frozen 1
  have f2 := hb.frozen 2
  go_enter Try.func18, Try.ntmps18
  go_wp2_with fail
  go_quiet (fail)
  go_wp2_with fail
  have hKq : Keeps (g :: S) w (w.drewN nq) := (Keeps.refl _ _).drewN nq
  replace hb := hb.drewN nq
  replace hl2 := hl2.drewN nq
  have hsz : w.heap.size = (w.drewN nq).heap.size := rfl
  have cbq := cb' nq
  clear cb'
  generalize w.drewN nq = w1 at *
  clear c0 c1 c2 cb f1 f2
  have c0 : w1.cell? ⟨g, 0, none⟩ = some (.int .i64 (n + 1 : Nat)) := hb.cell 0
  have c1 : w1.cell? ⟨g, 1, none⟩ = some (.slice (some ⟨b, off, none⟩) (n + 1) cap) := hb.cell 1
  have c2 : w1.cell? ⟨g, 2, none⟩ = some (.int .u64 s) := hb.cell 2
  have f1 := hb.frozen 1
  have f2 := hb.frozen 2
  have hb3 := (hb.set 2 (.int .u64 (withoutS s o (n + 1) : Nat))).set 1 (.slice (some ⟨b, off + 1, none⟩) n (cap - 1))
  have hl3 := hl2.keeps (((Keeps.refl [g] w1).setCell (p := ⟨g, 2, none⟩) (.int .u64 (withoutS s o (n + 1) : Nat)) (by simp)).setCell (p := ⟨g, 1, none⟩) (.slice (some ⟨b, off + 1, none⟩) n (cap - 1)) (by simp)) (by intro x hx e; simp at e; subst e; exact hg hx)
  have hk3 := (hKq.setCell (p := ⟨g, 2, none⟩) (.int .u64 (withoutS s o (n + 1) : Nat)) (by simp)).setCell (p := ⟨g, 1, none⟩) (.slice (some ⟨b, off + 1, none⟩) n (cap - 1)) (by simp)
  go_still_tail 16, (by kernel_rfl)
  still_call ((without_any s o (n + 1) hs ho (by omega) (by omega) _).mono fun e w' h => ⟨h.1, h.2.symm⟩)
  refine wpStill_nil ?_
  go_wp2_with (at_builtin; refine wpList_append_seg _ rfl (.tmp 45) (.tmp 47) 22 rfl 5 (.int .u8 0) 1 1 Try.underlying22 info_u8 rfl (.slice (some ⟨b, off + 1, none⟩) n (cap - 1)) n (l.map bv) S rfl ((hl3.alloc _).drew) (some ⟨w1.heap.size, 0, none⟩) 1 1 [bv c] rfl rfl (Rd.drew (Rd.of_blk0 (Blk.newAt _ _ #[bv c] _ (by simp)))) (by simp) (by simp [bv, Value.oneCell']) (by simp only [maxLen]; omega) (by omega) ?_)
  intro v' w2 S' hseg hk hS
  obtain ⟨A', cap', rfl, _⟩ := hseg.form
  have hb1 : Blk w2 g 59 #[.int .i64 (n + 1 : Nat), .slice (some ⟨b, off + 1, none⟩) n (cap - 1), .int .u64 (withoutS s o (n + 1) : Nat)] := ((hb3.alloc _).drew).keeps hk hg
  have hgS : g ∉ S' := by
    rcases hS with rfl | rfl
    · exact hg
    · have := hb.lt; simp at this ⊢; omega
  have hK : Keeps (g :: S) w w2 := ((hk3.alloc _).drew).trans' hk (fun x hx => .inl (List.mem_cons_of_mem _ hx))
  have hS' : ∀ x ∈ S', x ∈ S ∨ w.heap.size ≤ x := by
    rcases hS with rfl | rfl
    · exact fun x hx => .inl hx
    · intro x hx; simp at hx; omega
  clear hS hk c0 c1 c2 f1 f2
  have f1 := hb1.frozen 1
  have f2 := hb1.frozen 2
  have c1 : w2.cell? ⟨g, 1, none⟩ = some (.slice (some ⟨b, off + 1, none⟩) n (cap - 1)) := hb1.cell 1
  have c2 : w2.cell? ⟨g, 2, none⟩ = some (.int .u64 (withoutS s o (n + 1) : Nat)) := hb1.cell 2
  go_wp2_with fail
  refine (on_any (withoutS s o (n + 1)) c hs2 hc _).mono ?_
  rintro e w' ⟨rfl, rfl⟩
  go_wp2_with fail
  go_ret
  have hlen : (l ++ [c]).length = n + 1 := by have := hseg.1; simp at this ⊢; omega
  refine ⟨rfl, S', ⟨.slice A' (n + 1) cap', (hb1.set 1 _).set 2 _, ?_, hgS⟩, (hK.setCell _ (by simp)).setCell _ (by simp), hS'⟩
  rw [hlen, List.map_append]
  exact (hseg.keeps (((Keeps.refl [g] w2).setCell _ (by simp)).setCell _ (by simp)) (by intro x hx e; simp at e; subst e; exact hgS hx))

set_option maxHeartbeats 800000 in
theorem Add_full1 (g s c o b off : Nat) (l : List Nat) (S : List Nat) (w : World)
    (hb : Blk w g 59 #[.int .i64 ((1 : Nat) : Int), .slice (some ⟨b, off, none⟩) 1 1, .int .u64 (s : Int)]) (hl : Seg w 5 1 (.slice (some ⟨b, off, none⟩) 1 1) 1 ((o :: l).map bv) S) (hg : g ∉ S)
    (hs : s < 2305843009213693951) (hc : c < 256) (ho : o < 256) :
    Calls Try.prog 18 #[.pointer (some ⟨g, 0, none⟩), .int .u8 c] w fun e w' => e = .returned (.int .u64 (onS (withoutS s o 1) c)) ∧
      ∃ S', RollAt w' g S' 1 (l ++ [c]) (onS (withoutS s o 1) c) ∧ Keeps (g :: S) w w' ∧ ∀ x ∈ S', x ∈ S ∨ w.heap.size ≤ x := by
  have cb : w.cell? ⟨b, off, none⟩ = some (.int .u8 o) := by
    obtain ⟨A', c', hv, _, _, h, _⟩ := hl.form
    simp only [Value.slice.injEq, true_and] at hv
    obtain ⟨ad, e, hc⟩ := h 0 (bv o) (by simp)
    rw [← hv.1] at e
    injection e with e
    subst e
    simpa [bv, Addr.add_zero'] using hc
  have cb' : ∀ k, (w.drewN k).cell? ⟨b, off, none⟩ = some (.int .u8 o) := fun _ => cb
  have hbS : b ∈ S := by
    obtain ⟨A', c', hv, _, _, _, h, _⟩ := hl.form
    simp only [Value.slice.injEq, true_and] at hv
    exact h _ hv.1.symm
  have hgb : g ≠ b := fun e => hg (e ▸ hbS)
  have hs2 := withoutS_lt s o 1
  have hW0 : 0 < 1 := by omega
  have hl2 := hl.tail1
  rw [if_pos rfl] at hl2
  have c0 : w.cell? ⟨g, 0, none⟩ = some (.int .i64 (1 : Nat)) := hb.cell 0
  have c1 : w.cell? ⟨g, 1, none⟩ = some (.slice (some ⟨b, off, none⟩) 1 1) := hb.cell 1
  have c2 : w.cell? ⟨g, 2, none⟩ = some (.int .u64 s) := hb.cell 2
  have f1 := hb.frozen 1
  have f2 := hb.frozen 2
  go_enter Try.func18, Try.ntmps18
  go_wp2_with fail
  go_quiet (fail)
  go_wp2_with fail
  have hKq : Keeps (g :: S) w (w.drewN nq) := (Keeps.refl _ _).drewN nq
  replace hb := hb.drewN nq
  replace hl2 := hl2.drewN nq
  have hsz : w.heap.size = (w.drewN nq).heap.size := rfl
  have cbq := cb' nq
  clear cb'
  generalize w.drewN nq = w1 at *
  clear c0 c1 c2 cb f1 f2
  have c0 : w1.cell? ⟨g, 0, none⟩ = some (.int .i64 (1 : Nat)) := hb.cell 0
  have c1 : w1.cell? ⟨g, 1, none⟩ = some (.slice (some ⟨b, off, none⟩) 1 1) := hb.cell 1
  have c2 : w1.cell? ⟨g, 2, none⟩ = some (.int .u64 s) := hb.cell 2
  have f1 := hb.frozen 1
  have f2 := hb.frozen 2
  have hb3 := (hb.set 2 (.int .u64 (withoutS s o 1 : Nat))).set 1 (.slice (some ⟨b, off, none⟩) 0 0)
  have hl3 := hl2.keeps (((Keeps.refl [g] w1).setCell (p := ⟨g, 2, none⟩) (.int .u64 (withoutS s o 1 : Nat)) (by simp)).setCell (p := ⟨g, 1, none⟩) (.slice (some ⟨b, off, none⟩) 0 0) (by simp)) (by intro x hx e; simp at e; subst e; exact hg hx)
  have hk3 := (hKq.setCell (p := ⟨g, 2, none⟩) (.int .u64 (withoutS s o 1 : Nat)) (by simp)).setCell (p := ⟨g, 1, none⟩) (.slice (some ⟨b, off, none⟩) 0 0) (by simp)
  go_still_tail 16, (by kernel_rfl)
  still_call ((without_any s o 1 hs ho (by omega) (by omega) _).mono fun e w' h => ⟨h.1, h.2.symm⟩)
  refine wpStill_nil ?_
  go_wp2_with (at_builtin; refine wpList_append_seg _ rfl (.tmp 45) (.tmp 47) 22 rfl 5 (.int .u8 0) 1 1 Try.underlying22 info_u8 rfl (.slice (some ⟨b, off, none⟩) 0 0) 0 (l.map bv) S rfl ((hl3.alloc _).drew) (some ⟨w1.heap.size, 0, none⟩) 1 1 [bv c] rfl rfl (Rd.drew (Rd.of_blk0 (Blk.newAt _ _ #[bv c] _ (by simp)))) (by simp) (by simp [bv, Value.oneCell']) (by simp only [maxLen]; omega) (by omega) ?_)
  intro v' w2 S' hseg hk hS
  obtain ⟨A', cap', rfl, _⟩ := hseg.form
  have hb1 : Blk w2 g 59 #[.int .i64 (1 : Nat), .slice (some ⟨b, off, none⟩) 0 0, .int .u64 (withoutS s o 1 : Nat)] := ((hb3.alloc _).drew).keeps hk hg
  have hgS : g ∉ S' := by
    rcases hS with rfl | rfl
    · exact hg
    · have := hb.lt; simp at this ⊢; omega
  have hK : Keeps (g :: S) w w2 := ((hk3.alloc _).drew).trans' hk (fun x hx => .inl (List.mem_cons_of_mem _ hx))
  have hS' : ∀ x ∈ S', x ∈ S ∨ w.heap.size ≤ x := by
    rcases hS with rfl | rfl
    · exact fun x hx => .inl hx
    · intro x hx; simp at hx; omega
  clear hS hk c0 c1 c2 f1 f2
  have f1 := hb1.frozen 1
  have f2 := hb1.frozen 2
  have c1 : w2.cell? ⟨g, 1, none⟩ = some (.slice (some ⟨b, off, none⟩) 0 0) := hb1.cell 1
  have c2 : w2.cell? ⟨g, 2, none⟩ = some (.int .u64 (withoutS s o 1 : Nat)) := hb1.cell 2
  go_wp2_with fail
  refine (on_any (withoutS s o 1) c hs2 hc _).mono ?_
  rintro e w' ⟨rfl, rfl⟩
  go_wp2_with fail
  go_ret
  have hlen : (l ++ [c]).length = 1 := by have := hseg.1; simp at this ⊢; omega
  refine ⟨rfl, S', ⟨.slice A' 1 cap', (hb1.set 1 _).set 2 _, ?_, hgS⟩, (hK.setCell _ (by simp)).setCell _ (by simp), hS'⟩
  rw [hlen, List.map_append]
  exact (hseg.keeps (((Keeps.refl [g] w2).setCell _ (by simp)).setCell _ (by simp)) (by intro x hx e; simp at e; subst e; exact hgS hx))
end Go.Proofs.Ytibckdnfgopghaa
