/- Walks of package roll, the rest: Add in one word, Reset, Of; awake of layer 5. -/
import Derived.Test.YtibckdnfgopghaaRollB
import Derived.Lib.SlBytesConst
import Derived.WalkSpells
namespace Go.Proofs.Ytibckdnfgopghaa
open Go.RowKit

/-- A window's list and sum behind one more byte. -/
def stepL (W : Nat) (l : List Nat) (c : Nat) : List Nat := if l.length = W then l.tail ++ [c] else l ++ [c]
def stepS (W : Nat) (l : List Nat) (s c : Nat) : Nat := if l.length = W then onS (withoutS s (l.headD 0) W) c else onS s c
theorem stepS_lt (W : Nat) (l : List Nat) (s c : Nat) : stepS W l s c < 2305843009213693951 := by unfold stepS; split <;> exact onS_lt _ _

theorem RollAt.blk {w : World} {g W s : Nat} {S l : List Nat} (h : RollAt w g S W l s) : ∃ A cap, Blk w g 59 #[.int .i64 (W : Int), .slice A l.length cap, .int .u64 (s : Int)] ∧ Seg w 5 1 (.slice A l.length cap) l.length (l.map bv) S ∧ g ∉ S := by
  obtain ⟨v, hb, hl, hg⟩ := h
  obtain ⟨A, cap, rfl, _⟩ := hl.form
  exact ⟨A, cap, hb, hl, hg⟩
theorem RollAt.lt {w : World} {g W s : Nat} {S l : List Nat} (h : RollAt w g S W l s) : ∀ x ∈ g :: S, x < w.heap.size := by
  obtain ⟨v, hb, hl, hg⟩ := h
  intro x hx
  rcases List.mem_cons.1 hx with rfl | hx
  · exact hb.lt
  · exact hl.lt x hx
theorem RollAt.keeps {w w' : World} {g W s : Nat} {S S' l : List Nat} (h : RollAt w g S W l s) (k : Keeps S' w w') (hd : ∀ x ∈ g :: S, x ∉ S') : RollAt w' g S W l s := by
  obtain ⟨v, hb, hl, hg⟩ := h
  exact ⟨v, hb.keeps k (hd g (by simp)), hl.keeps k (fun x hx => hd x (List.mem_cons_of_mem _ hx)), hg⟩

theorem Add_any (g W s c : Nat) (l S : List Nat) (w : World) (h : RollAt w g S W l s) (hl : l.length ≤ W) (h1 : 1 ≤ W) (hW : W ≤ 64) (hs : s < 2305843009213693951) (hc : c < 256) (hx : ∀ x ∈ l, x < 256) :
    Calls Try.prog 18 #[.pointer (some ⟨g, 0, none⟩), .int .u8 c] w fun e w' => e = .returned (.int .u64 (stepS W l s c : Nat)) ∧
      ∃ S', RollAt w' g S' W (stepL W l c) (stepS W l s c) ∧ Keeps (g :: S) w w' ∧ ∀ x ∈ S', x ∈ S ∨ w.heap.size ≤ x := by
  obtain ⟨A, cap, hb, hseg, hg⟩ := h.blk
  by_cases he : l.length = W
  · unfold stepS stepL
    rw [if_pos he, if_pos he]
    cases l with
    | nil => simp at he; omega
    | cons o t =>
      simp only [List.headD_cons, List.tail_cons]
      have ho : o < 256 := hx o (by simp)
      rcases hseg.2 with ⟨_, h0, _⟩ | ⟨b, off, cap', cs, hv, hS, hbb, hfit, hn, hm, hcs⟩
      · simp at h0
      · simp only [Value.slice.injEq, true_and] at hv
        obtain ⟨rfl, rfl⟩ := hv
        obtain rfl : t.length + 1 = W := by simpa using he
        by_cases h1c : cap = 1
        · obtain rfl := h1c
          have ht : t = [] := by cases t with
            | nil => rfl
            | cons => simp at hn
          subst ht
          exact Add_full1 g s c o b off [] S w hb hseg hg hs hc ho
        · exact Add_full g s t.length cap c o b off t S w hb hseg hg hW h1c hs hc ho
  · unfold stepS stepL
    rw [if_neg he, if_neg he]
    exact Add_room g W s l.length cap c A l S w hb hseg hg (by omega) hW hs hc

theorem Reset_any (g W s : Nat) (l S : List Nat) (w : World) (h : RollAt w g S W l s) :
    Calls Try.prog 23 #[.pointer (some ⟨g, 0, none⟩)] w fun e w' => e = .returned (.tuple #[]) ∧ RollAt w' g [] W [] 0 ∧ Keeps (g :: S) w w' := by
  obtain ⟨A, cap, hb, hseg, hg⟩ := h.blk
  have c1 : w.cell? ⟨g, 1, none⟩ = some (.slice A l.length cap) := hb.cell 1
  have c2 : w.cell? ⟨g, 2, none⟩ = some (.int .u64 s) := hb.cell 2
  have f1 := hb.frozen 1
  have f2 := hb.frozen 2
  go_enter Try.func23, Try.ntmps23
  go_wp2
  go_end0
  exact ⟨rfl, ⟨.slice none 0 0, (hb.set 1 _).set 2 _, Seg.nil _ _ _, by simp⟩, ((Keeps.refl _ _).setCell _ (by simp)).setCell _ (by simp)⟩

def ofS (l : List Nat) : Nat := l.foldl onS 0
theorem ofS_lt (l : List Nat) : ofS l < 2305843009213693951 := by
  unfold ofS
  have : ∀ (l : List Nat) (s : Nat), s < 2305843009213693951 → l.foldl onS s < 2305843009213693951 := by
    intro l
    induction l with
    | nil => exact fun s h => h
    | cons a t ih => exact fun s _ => ih _ (onS_lt _ _)
  exact this l 0 (by omega)
theorem foldl_take_succ {α β : Type} (f : β → α → β) (b : β) (l : List α) (k : Nat) (h : k < l.length) : (l.take (k + 1)).foldl f b = f ((l.take k).foldl f b) l[k] := by
  rw [List.take_succ_eq_append_getElem h, List.foldl_append]; rfl

theorem Of_any (A : Option Addr) (n cap : Nat) (l : List Nat) (w : World) (hl : l.length = n) (hr : Rd w A (l.map bv)) (hx : ∀ x ∈ l, x < 256) (hn : n ≤ maxLen) :
    Calls Try.prog 15 #[.slice A n cap] w fun e w' => e = .returned (.int .u64 (ofS l)) ∧ w = w' := by
  unfold maxLen at hn
  go_enter Try.func15, Try.ntmps15
  go_wp2_with fail
  go_loop [3, 8] (fun s i => ∃ k : Nat, k ≤ n ∧ i = .int .i64 k ∧ s = .int .u64 (ofS (l.take k))) (fun _ i => n - (intOf i).toNat)
  case atStart => exact ⟨0, Nat.zero_le _, rfl, rfl⟩
  case round =>
    obtain ⟨k, hk, rfl, rfl⟩ := hrel
    by_cases hlt : k < n
    · have hkl : k < l.length := by omega
      obtain ⟨ad, rfl, hc⟩ := hr.at_ (j := k) (by simpa using hkl)
      have hcell : w.cell? (ad.add k) = some (.int .u8 (l[k] : Nat)) := by rw [hc]; simp [bv]
      have hb : l[k] < 256 := hx _ (List.getElem_mem _)
      have ho := ofS_lt (l.take k)
      have HS : Hid (ofS (l.take (k + 1)) = onS (ofS (l.take k)) l[k]) := foldl_take_succ onS 0 l k hkl
      clear hc hr
      generalize hz : l[k] = z at *
      clear hz
      go_wp2_with (first | (go_at_call 35; refine (on_any _ _ ho hb _).mono ?_; rintro e w' ⟨rfl, rfl⟩))
      go_round
      case rel => exact ⟨k + 1, by omega, by go_num, by rw [HS.out]⟩
      case measure => simp [intOf]; omega
    · obtain rfl : k = n := by omega
      go_wp2
      go_ret
      exact ⟨by rw [List.take_of_length_le (by omega)]; rfl, rfl⟩

theorem awake5_any (w : World) :
    Calls Try.prog 14 #[] w fun e w' => e = .returned (.bool true) ∧ Below w.heap.size w w' := by
  have kc := fun (w : World) (C : Array Value) (n c : Nat) => Lib.run_convert_bytes_const (P := Try.prog) w 22 5 C n c Try.underlying22 Try.underlying5
  go_enter Try.func14, Try.ntmps14
  go_wp2_with fail
  refine (New_any 3 _).mono ?_
  rintro e w1 ⟨g, rfl, rfl, hR, hb⟩
  go_wp2_with fail
  refine (Of_any _ 1 1 [97] _ rfl (Rd.newF _ _ #[.int .u8 97] _ _ rfl) (by simp) (by simp [maxLen])).mono ?_
  rintro e w' ⟨rfl, rfl⟩
  have hO : ofS [97] = 98 := rfl
  rw [hO]
  have hR2 := hR.keeps ((Keeps.refl [] w1).alloc (.cells #[.int .u8 97] 5 (1, 2))) (by simp)
  have hb2 := hb.alloc hb.size (.cells #[.int .u8 97] 5 (1, 2))
  generalize w1.alloc (.cells #[.int .u8 97] 5 (1, 2)) = w2 at *
  go_wp2_with fail
  refine (Add_any w.heap.size (holdS 3) 0 97 [] [] _ hR2 (by simp) (by decide) (by decide) (by omega) (by omega) (by simp)).mono ?_
  rintro e w3 ⟨rfl, S', hR3, hk3, hS3⟩
  have hs : stepS (holdS 3) [] 0 97 = 98 := rfl
  rw [hs] at hR3 ⊢
  obtain ⟨A, cap, hbk, _, _⟩ := hR3.blk
  go_wp2_with fail
  refine (Len_any _ _ _ _ _ _ _ hbk).mono ?_
  rintro e w' ⟨rfl, rfl⟩
  go_wp2_with fail
  go_ret
  have hb3 : Below w.heap.size w w3 := hb2.trans ⟨hk3.os, hk3.tape, hk3.output, hk3.size, fun k hk => hk3.block k (by have := hb2.size; omega) (by simp; omega)⟩
  exact ⟨rfl, hb3⟩
end Go.Proofs.Ytibckdnfgopghaa
