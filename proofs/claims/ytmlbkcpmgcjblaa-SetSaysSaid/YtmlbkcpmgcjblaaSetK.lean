/- Layer 10: the example that all statements tell; the walks of SetParts, SetLaws. -/
import Derived.Test.YtmlbkcpmgcjblaaSetJ
import Derived.Test.YtmlbkcpmgcjblaaSetA
import Derived.Test.YtmlbkcpmgcjblaaTyP
namespace Go.Proofs.Ytmlbkcpmgcjblaa
open Go.RowKit

theorem minusL_mem {A B : List Sm} {x : Sm} : x ∈ minusL A B ↔ x ∈ A ∧ x ∉ B := by
  unfold minusL pM
  rw [List.mem_filter, setL_mem]
  simp [setL_mem]
theorem bothL_mem {A B : List Sm} {x : Sm} : x ∈ bothL A B ↔ x ∈ A ∧ x ∈ B := by
  unfold bothL pB
  rw [List.mem_filter, setL_mem]
  simp [setL_mem]
theorem minusL_srt (A B : List Sm) : srt (minusL A B) := srt_filter (setL_srt A) _
theorem bothL_srt (A B : List Sm) : srt (bothL A B) := srt_filter (setL_srt A) _
theorem minusL_len (A B : List Sm) : (minusL A B).length ≤ A.length := Nat.le_trans (List.length_filter_le _ _) (setL_len A)
theorem bothL_len (A B : List Sm) : (bothL A B).length ≤ A.length := Nat.le_trans (List.length_filter_le _ _) (setL_len A)
theorem sameL_true {L M : List Sm} (hs : srt L) (hl : L.length ≤ 512) (h : L = M) : sameL L M = true := by
  subst h
  unfold sameL
  rw [goodL_srt hs, decide_eq_true hl]
  simp

abbrev s1 : Sm := sm1 1 (by decide)
abbrev s2 : Sm := sm1 2 (by decide)
theorem build_s1 (w : World) : (Instr.build 34 #[(0, .int .u8 1)]).run Try.prog w = .ok (.agg (u8s s1.l)) w := by kernel_rfl
theorem build_s2 (w : World) : (Instr.build 34 #[(0, .int .u8 2)]).run Try.prog w = .ok (.agg (u8s s2.l)) w := by kernel_rfl
theorem s12 : srt [s1, s2] := List.pairwise_cons.2 ⟨fun y hy => by simp only [List.mem_singleton] at hy; subst hy; decide, List.pairwise_singleton _ _⟩
theorem s_one (x : Sm) : srt [x] := List.pairwise_singleton _ _
theorem s1_ne : ¬ s1 = s2 := fun h => by have := congrArg Sm.l h; revert this; decide
set_option maxRecDepth 100000 in
set_option maxHeartbeats 1000000 in
theorem awake10_ty : Fn0 Try.prog 18 (Ty.ex (.bool true)) := by
  refine ⟨fun args w => by kernel_rfl, fun w => ?_⟩
  have e1 : setL [s2, s1, s2] = [s1, s2] := srt_ext (setL_srt _) s12 fun x => by rw [setL_mem]; simp only [List.mem_cons, List.not_mem_nil, or_false]; constructor; (rintro (h | h | h) <;> simp [h]); (rintro (h | h) <;> simp [h])
  have e2 : ∀ x, setL [x] = [x] := fun x => setL_self (s_one x)
  have e3 : minusL [s1, s2] [s2] = [s1] := srt_ext (minusL_srt _ _) (s_one _) fun x => by
    rw [minusL_mem]; simp; constructor
    · rintro ⟨h | h, h2⟩
      · exact h
      · exact absurd h h2
    · intro h; subst h; exact ⟨.inl rfl, s1_ne⟩
  have o1 := of_ty [s2, s1, s2] (by simp)
  have o2 := of_ty [s2] (by simp)
  have o3 := of_ty [s1] (by simp)
  have m1 := minus_ty [s1, s2] [s2] (by simp) (by simp)
  have g1 := good_ty [s1, s2] (by simp)
  have t1 := same_ty [s1] [s1] (by simp) (by simp)
  rw [e1] at o1
  rw [e2] at o2 o3
  rw [e3] at m1
  rw [(goodL_iff _).2 ⟨s12, by simp⟩] at g1
  rw [sameL_true (s_one _) (by simp) rfl] at t1
  refine enter_ty 32 [] Try.func18 rfl (by kernel_rfl) trivial fun a hF => ?_
  have hB := Below.refl w.heap.size w
  repeat (first | with_reducible refine wp_seq ?_ | with_reducible refine nThen ?_ | with_reducible refine nBlk ?_ | with_reducible refine wp_skip ?_ | with_reducible refine wp_block ?_ | with_reducible refine wp_exit ?_ | with_reducible refine xThen ?_ | with_reducible refine xHere ?_ | with_reducible refine xFar (by decide) ?_ | with_reducible refine wp_ret ?_ | with_reducible refine rThen ?_ | with_reducible refine rBlk ?_)
  refine' reg_all hF ?_ mixed (by kernel_rfl) ?_
  rotate_left
  · repeat (first
        | exact Line.nil
        | (refine' Line.cons rfl (.no rfl rfl rfl rfl rfl rfl) ?_; rotate_left)
        | ((first | refine' Line.cons rfl (.run rfl rfl ?_) ?_ | refine' Line.cons rfl (.yes rfl rfl rfl rfl ?_) ?_)
           any_goals (first | exact cMove rfl rfl | exact cAssign rfl rfl | exact cNot rfl rfl | exact cPickT rfl rfl rfl | exact cPickF rfl rfl rfl | exact cLss rfl rfl rfl | exact cLeq rfl rfl rfl | exact cGtr rfl rfl rfl | exact cGeq rfl rfl rfl | exact cEql rfl rfl rfl | exact cNeq rfl rfl rfl | exact cExtract rfl rfl rfl)
           rotate_left))
  intro a w1 hF hb hN
  have hBs := hB.size
  replace hB := hB.trans (hb.mono hB.size)
  dsimp only [ext, Option.getD] at hF
  repeat (first | with_reducible refine wp_seq ?_ | with_reducible refine nThen ?_ | with_reducible refine nBlk ?_ | with_reducible refine wp_skip ?_ | with_reducible refine wp_block ?_ | with_reducible refine wp_exit ?_ | with_reducible refine xThen ?_ | with_reducible refine xHere ?_ | with_reducible refine xFar (by decide) ?_ | with_reducible refine wp_ret ?_ | with_reducible refine rThen ?_ | with_reducible refine rBlk ?_)
  refine' reg_all hF ?_ mixed (by kernel_rfl) ?_
  rotate_left
  · repeat (first
        | exact Line.nil
        | (refine' Line.cons rfl (.no rfl rfl rfl rfl rfl rfl) ?_; rotate_left)
        | ((first | refine' Line.cons rfl (.run rfl rfl ?_) ?_ | refine' Line.cons rfl (.yes rfl rfl rfl rfl ?_) ?_)
           any_goals (first | exact cMove rfl rfl | exact cAssign rfl rfl | exact cNot rfl rfl | exact cBuildC rfl build_s1 | exact cBuildC rfl build_s2 | exact cBuildSums [s2, s1, s2] rfl (parts3v rfl rfl rfl rfl) Try.underlying24 infoS rfl | exact cCallS1 rfl (.t rfl) o1 | exact cPickT rfl rfl rfl | exact cPickF rfl rfl rfl | exact cLss rfl rfl rfl | exact cLeq rfl rfl rfl | exact cGtr rfl rfl rfl | exact cGeq rfl rfl rfl | exact cEql rfl rfl rfl | exact cNeq rfl rfl rfl | exact cExtract rfl rfl rfl)
           rotate_left))
  intro a w2 hF hb hN
  have hBs := hB.size
  replace hB := hB.trans (hb.mono hB.size)
  dsimp only [ext, Option.getD] at hF
  repeat (first | with_reducible refine wp_seq ?_ | with_reducible refine nThen ?_ | with_reducible refine nBlk ?_ | with_reducible refine wp_skip ?_ | with_reducible refine wp_block ?_ | with_reducible refine wp_exit ?_ | with_reducible refine xThen ?_ | with_reducible refine xHere ?_ | with_reducible refine xFar (by decide) ?_ | with_reducible refine wp_ret ?_ | with_reducible refine rThen ?_ | with_reducible refine rBlk ?_)
  refine' reg_all hF ?_ mixed (by kernel_rfl) ?_
  rotate_left
  · repeat (first
        | exact Line.nil
        | (refine' Line.cons rfl (.no rfl rfl rfl rfl rfl rfl) ?_; rotate_left)
        | ((first | refine' Line.cons rfl (.run rfl rfl ?_) ?_ | refine' Line.cons rfl (.yes rfl rfl rfl rfl ?_) ?_)
           any_goals (first | exact cMove rfl rfl | exact cAssign rfl rfl | exact cNot rfl rfl | exact cBuildC rfl build_s1 | exact cBuildC rfl build_s2 | exact cBuildSums [s2] rfl (parts1v rfl rfl) Try.underlying24 infoS rfl | exact cBuildSums [s1] rfl (parts1v rfl rfl) Try.underlying24 infoS rfl | exact OpOk.b (c := true) (cEql rfl rfl rfl) rfl | exact OpOk.b (c := true) (cEqlAgg rfl rfl rfl guardS (eqlS _ _)) (decide_eq_true rfl) | exact cIndexSum (L := [s1, s2]) (k := 0) rfl (Has.c (.t rfl) seg_sl) rfl Try.underlying25 sizeS (by simp) | exact cLoadSum rfl (.t rfl) Try.underlying34 sizeS | exact cLenH rfl (.t rfl) (Ty.seg_isSl _ _ _ _ _) Try.underlying25 | exact cCallH1 rfl (Has.c (.t rfl) seg_sl) g1 | exact cCallS1 rfl (.t rfl) o2 | exact cCallS1 rfl (.t rfl) o3 | exact cCallS2 rfl (Has.c (.t rfl) seg_sl) (Has.c (.t rfl) seg_sl) m1 | exact cCallH2 rfl (Has.c (.t rfl) seg_sl) (Has.c (.t rfl) seg_sl) t1 | exact cPickT rfl rfl rfl | exact cPickF rfl rfl rfl | exact cLss rfl rfl rfl | exact cLeq rfl rfl rfl | exact cGtr rfl rfl rfl | exact cGeq rfl rfl rfl | exact cEql rfl rfl rfl | exact cNeq rfl rfl rfl | exact cExtract rfl rfl rfl)
           rotate_left))
  intro a w3 hF hb hN
  have hBs := hB.size
  replace hB := hB.trans (hb.mono hB.size)
  dsimp only [ext, Option.getD] at hF
  repeat (first | with_reducible refine wp_seq ?_ | with_reducible refine nThen ?_ | with_reducible refine nBlk ?_ | with_reducible refine wp_skip ?_ | with_reducible refine wp_block ?_ | with_reducible refine wp_exit ?_ | with_reducible refine xThen ?_ | with_reducible refine xHere ?_ | with_reducible refine xFar (by decide) ?_ | with_reducible refine wp_ret ?_ | with_reducible refine rThen ?_ | with_reducible refine rBlk ?_)
  refine ret1 hF rfl rfl fun z hz => ?_
  exact ⟨z, rfl, hz, hB⟩
end Go.Proofs.Ytmlbkcpmgcjblaa
