/- A record that was cut, joined with what is left of it, is the record again: for every record and every slot, at most 150 attempts and 100 deliveries. -/
import Derived.Test.YtcohdlochpjnjaaLRecordHalvesa
import Derived.Test.YtcohdlochpjnjaaRows
import Derived.ShutString
set_option linter.all false
section
open Go Go.Vm
namespace Go.Proofs.Ytcohdlochpjnjaa
set_option maxRecDepth 100000
set_option maxHeartbeats 4000000
set_option linter.unusedSimpArgs false
attribute [-simp] isObj C.isO
attribute [local irreducible] Tri Does DoesB Rounds idxI
theorem cloneA_new (l : List Att) (hl : l.length ≤ 1073741824) : DoesR Try.prog 41 [.c (.sl false 8 none (l.map attC))] (fun β => (.c (.ms 8 0 (β 0) 0 l.length), [flA l])) := by
  have hs : (l.map attC).map (fun x => x.map C.strip) = l.map attC := by simp
  have hb : l.length * 64 ≤ 140737488355328 := by omega
  have hf : (l.map attC).flatten.all C.flat = true := by
    simp only [List.all_eq_true, List.mem_flatten, List.mem_map]
    rintro x ⟨_, ⟨a, _, rfl⟩, hx⟩
    simp [attC] at hx
    repeat (first | (rcases hx with rfl | hx; rfl) | (subst hx; rfl))
  have key : DoesR Try.prog 41 [.c (.sl false 8 none (l.map attC))] fun β => (.c (.ms 8 0 (β 0) 0 (l.map attC).length), [(l.map attC).flatten]) := by
    refine DoesR.of_thaw Try.func41 rfl (by kernel_rfl) rfl rfl (by simp) hf (fun e he => by obtain ⟨x, _, rfl⟩ := List.mem_map.1 he; rfl) fun E => ?_
    repeat (first
      | (refine Tri.seq fun K hK => ?_)
      | (refine Tri.region ?_; simp [upd, hs, hb])
      | (refine Tri.draw (by kernel_rfl) (by decide +kernel) ?_; simp [upd, hs, hb])
      | (refine Tri.cond_true ?_ ?_; (focus simp [upd, hs, hb]; done))
      | (refine Tri.cond_false ?_ ?_; (focus simp [upd, hs, hb]; done))
      | (refine Tri.skip ?_; simp only [thenS, blockS])
      | (refine Tri.block_seq ?_)
      | (refine Tri.block_region ?_)
      | (refine Tri.block_cond ?_)
      | (refine Tri.exit ?_; simp [upd, hs, hb]; first | (rename ∀ st, Tri _ _ _ st _ → _ => hK; first | (apply hK; clear hK) | (clear hK; rename ∀ st, Tri _ _ _ st _ → _ => hK; first | (apply hK; clear hK) | (clear hK; rename ∀ st, Tri _ _ _ st _ → _ => hK; first | (apply hK; clear hK) | (clear hK; rename ∀ st, Tri _ _ _ st _ → _ => hK; first | (apply hK; clear hK) | (clear hK; rename ∀ st, Tri _ _ _ st _ → _ => hK; first | (apply hK; clear hK) | (clear hK; rename ∀ st, Tri _ _ _ st _ → _ => hK; apply hK; clear hK)))))) | skip)
      | (intro β)
      | (rename ∀ st, Tri _ _ _ st _ → _ => hK; apply hK; clear hK))
    refine Tri.ret ⟨.inr rfl, _, rfl, ?_⟩
    simp [upd]
    exact ⟨5, β, ⟨rfl, rfl⟩, _, if_pos rfl⟩
  rw [List.length_map] at key
  have e : (l.map attC).flatten = flA l := by unfold flA; rfl
  rw [e] at key
  exact key
theorem cloneD_new (l : List Del) (hl : l.length ≤ 1073741824) : DoesR Try.prog 42 [.c (.sl false 3 none (l.map delC))] (fun β => (.c (.ms 3 0 (β 0) 0 l.length), [flD l])) := by
  have hs : (l.map delC).map (fun x => x.map C.strip) = l.map delC := by simp
  have hb : l.length * 24 ≤ 140737488355328 := by omega
  have hf : (l.map delC).flatten.all C.flat = true := by
    simp only [List.all_eq_true, List.mem_flatten, List.mem_map]
    rintro x ⟨_, ⟨a, _, rfl⟩, hx⟩
    simp [delC] at hx
    repeat (first | (rcases hx with rfl | hx; rfl) | (subst hx; rfl))
  have key : DoesR Try.prog 42 [.c (.sl false 3 none (l.map delC))] fun β => (.c (.ms 3 0 (β 0) 0 (l.map delC).length), [(l.map delC).flatten]) := by
    refine DoesR.of_thaw Try.func42 rfl (by kernel_rfl) rfl rfl (by simp) hf (fun e he => by obtain ⟨x, _, rfl⟩ := List.mem_map.1 he; rfl) fun E => ?_
    repeat (first
      | (refine Tri.seq fun K hK => ?_)
      | (refine Tri.region ?_; simp [upd, hs, hb])
      | (refine Tri.draw (by kernel_rfl) (by decide +kernel) ?_; simp [upd, hs, hb])
      | (refine Tri.cond_true ?_ ?_; (focus simp [upd, hs, hb]; done))
      | (refine Tri.cond_false ?_ ?_; (focus simp [upd, hs, hb]; done))
      | (refine Tri.skip ?_; simp only [thenS, blockS])
      | (refine Tri.block_seq ?_)
      | (refine Tri.block_region ?_)
      | (refine Tri.block_cond ?_)
      | (refine Tri.exit ?_; simp [upd, hs, hb]; first | (rename ∀ st, Tri _ _ _ st _ → _ => hK; first | (apply hK; clear hK) | (clear hK; rename ∀ st, Tri _ _ _ st _ → _ => hK; first | (apply hK; clear hK) | (clear hK; rename ∀ st, Tri _ _ _ st _ → _ => hK; first | (apply hK; clear hK) | (clear hK; rename ∀ st, Tri _ _ _ st _ → _ => hK; first | (apply hK; clear hK) | (clear hK; rename ∀ st, Tri _ _ _ st _ → _ => hK; first | (apply hK; clear hK) | (clear hK; rename ∀ st, Tri _ _ _ st _ → _ => hK; apply hK; clear hK)))))) | skip)
      | (intro β)
      | (rename ∀ st, Tri _ _ _ st _ → _ => hK; apply hK; clear hK))
    refine Tri.ret ⟨.inr rfl, _, rfl, ?_⟩
    simp [upd]
    exact ⟨5, β, ⟨rfl, rfl⟩, _, if_pos rfl⟩
  rw [List.length_map] at key
  have e : (l.map delC).flatten = flD l := by unfold flD; rfl
  rw [e] at key
  exact key
theorem Wk.ms (n k k' b i l : Nat) : Wk (.c (.ms n k b i l)) (.c (.ms n k' b i l)) := by
  rintro F w v ⟨h⟩
  cases h with
  | ms b o cap _ _ _ _ hle ho => exact .c (.ms b o cap n k' i l hle ho)
def CJ (r : Rec) (an dn : Bool) (vA vD : Nat → C) (L : Nat → Bool) (st : St) : Prop := ∃ (b1 b2 bA bD : Nat), st.n = 16 ∧ st.sl 1 = .c (.box 1 b1 0) ∧ st.sl 2 = .c (.box 2 b2 0) ∧ (∃ z, st.bx 2 = some (b2, z) ∧ z.length = 3 ∧ isObj z = false) ∧
  st.bx 1 = some (b1, [.int .i64 r.slots, if L 10 = true then vA bA else .sl an 8 none (r.atts.map attC), if L 13 = true then vD bD else .sl dn 3 none (r.dels.map delC)]) ∧
  (L 0 = true → st.sl 3 = .c (.box 1 b1 1)) ∧ (L 1 = true → st.sl 4 = .c (.box 1 b1 1)) ∧ (L 2 = true → st.sl 5 = .c (.sl an 8 none (r.atts.map attC))) ∧
  (L 3 = true → st.sl 6 = .c (vA bA) ∧ (an = false → st.bx 101 = some (bA, flA r.atts))) ∧
  (L 4 = true → st.sl 7 = .c (.box 1 b1 1)) ∧ (L 5 = true → st.sl 8 = .c (.box 1 b1 2)) ∧ (L 6 = true → st.sl 9 = .c (.sl dn 3 none (r.dels.map delC))) ∧
  (L 7 = true → st.sl 10 = .c (vD bD) ∧ (dn = false → st.bx 102 = some (bD, flD r.dels))) ∧
  (L 8 = true → st.sl 11 = .c (.box 1 b1 1)) ∧ (L 9 = true → st.sl 12 = .c (.box 1 b1 1)) ∧ (L 11 = true → st.sl 13 = .c (.box 1 b1 1)) ∧ (L 12 = true → st.sl 14 = .c (.box 1 b1 2)) ∧
  (L 10 = true → L 2 = true ∧ L 3 = true) ∧ (L 13 = true → L 6 = true ∧ L 7 = true)
theorem cp_nn (r : Rec) (h1 : r.an = false) (h2 : r.dn = false) (ha : r.an = true → r.atts = []) (hd : r.dn = true → r.dels = []) (hl1 : r.atts.length ≤ 1073741824) (hl2 : r.dels.length ≤ 1073741824) :
    DoesR Try.prog 16 [.agg (recC r)] (fun β => (.agg [.int .i64 r.slots, .ms 8 0 (β 0) 0 r.atts.length, .ms 3 0 (β 1) 0 r.dels.length], [flA r.atts, flD r.dels])) := by
  refine DoesR.of_body Try.func16 rfl (by kernel_rfl) rfl rfl (by simp) fun E => ?_
  simp only [recC, h1, h2]
  refine Tri.seq fun K hK => ?_
  refine Tri.region ?_
  simp [upd]
  intro β1 β2
  apply hK
  clear hK K
  refine Tri.seq fun K hK => ?_
  refine Tri.drawAll (by kernel_rfl) (CJ r false false (fun bA => C.ms 8 101 bA 0 r.atts.length) (fun bD => C.ms 3 102 bD 0 r.dels.length)) (by decide +kernel) ?_ ?_ ?_
  · refine ⟨β1, β2, 0, 0, rfl, by simp [upd], by simp [upd], ⟨_, by simp [upd] <;> exact rfl, by simp, by simp⟩, by simp [upd], ?_, ?_, ?_, ?_, ?_, ?_, ?_, ?_, ?_, ?_, ?_, ?_, ?_, ?_⟩ <;> simp
  · rintro L st ⟨b1, b2, bA, bD, hn, s1, s2, ⟨z, xz, zl, zo⟩, x1, g0, g1, g2, g3, g4, g5, g6, g7, g8, g9, g11, g12, g10, g13⟩
    generalize List.map _ _ = ds
    simp only [DrawAll, StepF_eq]
    refine ⟨?_, ?_, ?_, ?_, ?_, ?_, ?_, ?_, ?_, ?_, ?_, ?_, ?_, ?_, trivial⟩
    all_goals (intro hL hA; simp [afterOk, Region.binds] at hA)
    · simp [upd, hn, s1, x1, hL]
      refine ⟨b1, b2, bA, bD, (by first | rfl | simp [hn]), by simpa [upd] using s1, by simpa [upd] using s2, ⟨z, by simpa [upd] using xz, zl, zo⟩, by simp [upd, x1, hL], ?_, ?_, ?_, ?_, ?_, ?_, ?_, ?_, ?_, ?_, ?_, ?_, ?_, ?_⟩
      · exact fun h => by first | (simpa [upd] using g0 (by simpa using h)) | (simp [upd]; done) | (simp_all [upd]; done)
      · exact fun h => by first | (simpa [upd] using g1 (by simpa using h)) | (simp [upd]; done) | (simp_all [upd]; done)
      · exact fun h => by first | (simpa [upd] using g2 (by simpa using h)) | (simp [upd]; done) | (simp_all [upd]; done)
      · exact fun h => by first | (simpa [upd] using g3 (by simpa using h)) | (simp [upd]; done) | (simp_all [upd]; done)
      · exact fun h => by first | (simpa [upd] using g4 (by simpa using h)) | (simp [upd]; done) | (simp_all [upd]; done)
      · exact fun h => by first | (simpa [upd] using g5 (by simpa using h)) | (simp [upd]; done) | (simp_all [upd]; done)
      · exact fun h => by first | (simpa [upd] using g6 (by simpa using h)) | (simp [upd]; done) | (simp_all [upd]; done)
      · exact fun h => by first | (simpa [upd] using g7 (by simpa using h)) | (simp [upd]; done) | (simp_all [upd]; done)
      · exact fun h => by first | (simpa [upd] using g8 (by simpa using h)) | (simp [upd]; done) | (simp_all [upd]; done)
      · exact fun h => by first | (simpa [upd] using g9 (by simpa using h)) | (simp [upd]; done) | (simp_all [upd]; done)
      · exact fun h => by first | (simpa [upd] using g11 (by simpa using h)) | (simp [upd]; done) | (simp_all [upd]; done)
      · exact fun h => by first | (simpa [upd] using g12 (by simpa using h)) | (simp [upd]; done) | (simp_all [upd]; done)
      · exact fun h => by first | (simpa [upd] using g10 (by simpa using h)) | (simp [upd]; done) | (simp_all [upd]; done)
      · exact fun h => by first | (simpa [upd] using g13 (by simpa using h)) | (simp [upd]; done) | (simp_all [upd]; done)
    · simp [upd, hn, s1, x1, g0 hA]
      refine ⟨b1, b2, bA, bD, (by first | rfl | simp [hn]), by simpa [upd] using s1, by simpa [upd] using s2, ⟨z, by simpa [upd] using xz, zl, zo⟩, by simp [upd, x1, g0 hA], ?_, ?_, ?_, ?_, ?_, ?_, ?_, ?_, ?_, ?_, ?_, ?_, ?_, ?_⟩
      · exact fun h => by first | (simpa [upd] using g0 (by simpa using h)) | (simp [upd]; done) | (simp_all [upd]; done)
      · exact fun h => by first | (simpa [upd] using g1 (by simpa using h)) | (simp [upd]; done) | (simp_all [upd]; done)
      · exact fun h => by first | (simpa [upd] using g2 (by simpa using h)) | (simp [upd]; done) | (simp_all [upd]; done)
      · exact fun h => by first | (simpa [upd] using g3 (by simpa using h)) | (simp [upd]; done) | (simp_all [upd]; done)
      · exact fun h => by first | (simpa [upd] using g4 (by simpa using h)) | (simp [upd]; done) | (simp_all [upd]; done)
      · exact fun h => by first | (simpa [upd] using g5 (by simpa using h)) | (simp [upd]; done) | (simp_all [upd]; done)
      · exact fun h => by first | (simpa [upd] using g6 (by simpa using h)) | (simp [upd]; done) | (simp_all [upd]; done)
      · exact fun h => by first | (simpa [upd] using g7 (by simpa using h)) | (simp [upd]; done) | (simp_all [upd]; done)
      · exact fun h => by first | (simpa [upd] using g8 (by simpa using h)) | (simp [upd]; done) | (simp_all [upd]; done)
      · exact fun h => by first | (simpa [upd] using g9 (by simpa using h)) | (simp [upd]; done) | (simp_all [upd]; done)
      · exact fun h => by first | (simpa [upd] using g11 (by simpa using h)) | (simp [upd]; done) | (simp_all [upd]; done)
      · exact fun h => by first | (simpa [upd] using g12 (by simpa using h)) | (simp [upd]; done) | (simp_all [upd]; done)
      · exact fun h => by first | (simpa [upd] using g10 (by simpa using h)) | (simp [upd]; done) | (simp_all [upd]; done)
      · exact fun h => by first | (simpa [upd] using g13 (by simpa using h)) | (simp [upd]; done) | (simp_all [upd]; done)
    · have n10 : L 10 = false := by
        cases h : L 10 with
        | false => rfl
        | true => exact absurd (g10 h).1 (by simp [hL])
      simp [upd, hn, s1, x1, g1 hA, n10]
      refine ⟨b1, b2, bA, bD, (by first | rfl | simp [hn]), by simpa [upd] using s1, by simpa [upd] using s2, ⟨z, by simpa [upd] using xz, zl, zo⟩, by simp [upd, x1, g1 hA, n10], ?_, ?_, ?_, ?_, ?_, ?_, ?_, ?_, ?_, ?_, ?_, ?_, ?_, ?_⟩
      · exact fun h => by first | (simpa [upd] using g0 (by simpa using h)) | (simp [upd]; done) | (simp_all [upd]; done)
      · exact fun h => by first | (simpa [upd] using g1 (by simpa using h)) | (simp [upd]; done) | (simp_all [upd]; done)
      · exact fun h => by first | (simpa [upd] using g2 (by simpa using h)) | (simp [upd]; done) | (simp_all [upd]; done)
      · exact fun h => by first | (simpa [upd] using g3 (by simpa using h)) | (simp [upd]; done) | (simp_all [upd]; done)
      · exact fun h => by first | (simpa [upd] using g4 (by simpa using h)) | (simp [upd]; done) | (simp_all [upd]; done)
      · exact fun h => by first | (simpa [upd] using g5 (by simpa using h)) | (simp [upd]; done) | (simp_all [upd]; done)
      · exact fun h => by first | (simpa [upd] using g6 (by simpa using h)) | (simp [upd]; done) | (simp_all [upd]; done)
      · exact fun h => by first | (simpa [upd] using g7 (by simpa using h)) | (simp [upd]; done) | (simp_all [upd]; done)
      · exact fun h => by first | (simpa [upd] using g8 (by simpa using h)) | (simp [upd]; done) | (simp_all [upd]; done)
      · exact fun h => by first | (simpa [upd] using g9 (by simpa using h)) | (simp [upd]; done) | (simp_all [upd]; done)
      · exact fun h => by first | (simpa [upd] using g11 (by simpa using h)) | (simp [upd]; done) | (simp_all [upd]; done)
      · exact fun h => by first | (simpa [upd] using g12 (by simpa using h)) | (simp [upd]; done) | (simp_all [upd]; done)
      · exact fun h => by first | (simpa [upd] using g10 (by simpa using h)) | (simp [upd]; done) | (simp_all [upd]; done)
      · exact fun h => by first | (simpa [upd] using g13 (by simpa using h)) | (simp [upd]; done) | (simp_all [upd]; done)
    · have n10 : L 10 = false := by
        cases h : L 10 with
        | false => rfl
        | true => exact absurd (g10 h).2 (by simp [hL])
      simp [upd, hn, s1, x1, g2 hA]
      refine CallK.fresh (cloneA_new r.atts hl1) [101] (fun β => .c (.ms 8 101 (β 0) 0 r.atts.length)) (Wks.refl _) (fun β => Wk.ms _ _ _ _ _ _) (fun _ => rfl) ?_
      intro β
      simp [upd]
      refine ⟨b1, b2, β 0, bD, (by first | rfl | simp [hn]), by simpa [upd] using s1, by simpa [upd] using s2, ⟨z, by simpa [upd] using xz, zl, zo⟩, by simp [upd, x1, n10], ?_, ?_, ?_, ?_, ?_, ?_, ?_, ?_, ?_, ?_, ?_, ?_, ?_, ?_⟩
      · exact fun h => by first | (simpa [upd] using g0 (by simpa using h)) | (simp [upd]; done) | (simp_all [upd]; done)
      · exact fun h => by first | (simpa [upd] using g1 (by simpa using h)) | (simp [upd]; done) | (simp_all [upd]; done)
      · exact fun h => by first | (simpa [upd] using g2 (by simpa using h)) | (simp [upd]; done) | (simp_all [upd]; done)
      · exact fun h => by first | (simpa [upd] using g3 (by simpa using h)) | (simp [upd]; done) | (simp_all [upd]; done)
      · exact fun h => by first | (simpa [upd] using g4 (by simpa using h)) | (simp [upd]; done) | (simp_all [upd]; done)
      · exact fun h => by first | (simpa [upd] using g5 (by simpa using h)) | (simp [upd]; done) | (simp_all [upd]; done)
      · exact fun h => by first | (simpa [upd] using g6 (by simpa using h)) | (simp [upd]; done) | (simp_all [upd]; done)
      · exact fun h => by first | (simpa [upd] using g7 (by simpa using h)) | (simp [upd]; done) | (simp_all [upd]; done)
      · exact fun h => by first | (simpa [upd] using g8 (by simpa using h)) | (simp [upd]; done) | (simp_all [upd]; done)
      · exact fun h => by first | (simpa [upd] using g9 (by simpa using h)) | (simp [upd]; done) | (simp_all [upd]; done)
      · exact fun h => by first | (simpa [upd] using g11 (by simpa using h)) | (simp [upd]; done) | (simp_all [upd]; done)
      · exact fun h => by first | (simpa [upd] using g12 (by simpa using h)) | (simp [upd]; done) | (simp_all [upd]; done)
      · exact fun h => by first | (simpa [upd] using g10 (by simpa using h)) | (simp [upd]; done) | (simp_all [upd]; done)
      · exact fun h => by first | (simpa [upd] using g13 (by simpa using h)) | (simp [upd]; done) | (simp_all [upd]; done)
    · simp [upd, hn, s1, x1, hL]
      refine ⟨b1, b2, bA, bD, (by first | rfl | simp [hn]), by simpa [upd] using s1, by simpa [upd] using s2, ⟨z, by simpa [upd] using xz, zl, zo⟩, by simp [upd, x1, hL], ?_, ?_, ?_, ?_, ?_, ?_, ?_, ?_, ?_, ?_, ?_, ?_, ?_, ?_⟩
      · exact fun h => by first | (simpa [upd] using g0 (by simpa using h)) | (simp [upd]; done) | (simp_all [upd]; done)
      · exact fun h => by first | (simpa [upd] using g1 (by simpa using h)) | (simp [upd]; done) | (simp_all [upd]; done)
      · exact fun h => by first | (simpa [upd] using g2 (by simpa using h)) | (simp [upd]; done) | (simp_all [upd]; done)
      · exact fun h => by first | (simpa [upd] using g3 (by simpa using h)) | (simp [upd]; done) | (simp_all [upd]; done)
      · exact fun h => by first | (simpa [upd] using g4 (by simpa using h)) | (simp [upd]; done) | (simp_all [upd]; done)
      · exact fun h => by first | (simpa [upd] using g5 (by simpa using h)) | (simp [upd]; done) | (simp_all [upd]; done)
      · exact fun h => by first | (simpa [upd] using g6 (by simpa using h)) | (simp [upd]; done) | (simp_all [upd]; done)
      · exact fun h => by first | (simpa [upd] using g7 (by simpa using h)) | (simp [upd]; done) | (simp_all [upd]; done)
      · exact fun h => by first | (simpa [upd] using g8 (by simpa using h)) | (simp [upd]; done) | (simp_all [upd]; done)
      · exact fun h => by first | (simpa [upd] using g9 (by simpa using h)) | (simp [upd]; done) | (simp_all [upd]; done)
      · exact fun h => by first | (simpa [upd] using g11 (by simpa using h)) | (simp [upd]; done) | (simp_all [upd]; done)
      · exact fun h => by first | (simpa [upd] using g12 (by simpa using h)) | (simp [upd]; done) | (simp_all [upd]; done)
      · exact fun h => by first | (simpa [upd] using g10 (by simpa using h)) | (simp [upd]; done) | (simp_all [upd]; done)
      · exact fun h => by first | (simpa [upd] using g13 (by simpa using h)) | (simp [upd]; done) | (simp_all [upd]; done)
    · simp [upd, hn, s1, x1, g4 hA]
      refine ⟨b1, b2, bA, bD, (by first | rfl | simp [hn]), by simpa [upd] using s1, by simpa [upd] using s2, ⟨z, by simpa [upd] using xz, zl, zo⟩, by simp [upd, x1, g4 hA], ?_, ?_, ?_, ?_, ?_, ?_, ?_, ?_, ?_, ?_, ?_, ?_, ?_, ?_⟩
      · exact fun h => by first | (simpa [upd] using g0 (by simpa using h)) | (simp [upd]; done) | (simp_all [upd]; done)
      · exact fun h => by first | (simpa [upd] using g1 (by simpa using h)) | (simp [upd]; done) | (simp_all [upd]; done)
      · exact fun h => by first | (simpa [upd] using g2 (by simpa using h)) | (simp [upd]; done) | (simp_all [upd]; done)
      · exact fun h => by first | (simpa [upd] using g3 (by simpa using h)) | (simp [upd]; done) | (simp_all [upd]; done)
      · exact fun h => by first | (simpa [upd] using g4 (by simpa using h)) | (simp [upd]; done) | (simp_all [upd]; done)
      · exact fun h => by first | (simpa [upd] using g5 (by simpa using h)) | (simp [upd]; done) | (simp_all [upd]; done)
      · exact fun h => by first | (simpa [upd] using g6 (by simpa using h)) | (simp [upd]; done) | (simp_all [upd]; done)
      · exact fun h => by first | (simpa [upd] using g7 (by simpa using h)) | (simp [upd]; done) | (simp_all [upd]; done)
      · exact fun h => by first | (simpa [upd] using g8 (by simpa using h)) | (simp [upd]; done) | (simp_all [upd]; done)
      · exact fun h => by first | (simpa [upd] using g9 (by simpa using h)) | (simp [upd]; done) | (simp_all [upd]; done)
      · exact fun h => by first | (simpa [upd] using g11 (by simpa using h)) | (simp [upd]; done) | (simp_all [upd]; done)
      · exact fun h => by first | (simpa [upd] using g12 (by simpa using h)) | (simp [upd]; done) | (simp_all [upd]; done)
      · exact fun h => by first | (simpa [upd] using g10 (by simpa using h)) | (simp [upd]; done) | (simp_all [upd]; done)
      · exact fun h => by first | (simpa [upd] using g13 (by simpa using h)) | (simp [upd]; done) | (simp_all [upd]; done)
    · have n13 : L 13 = false := by
        cases h : L 13 with
        | false => rfl
        | true => exact absurd (g13 h).1 (by simp [hL])
      simp [upd, hn, s1, x1, g5 hA, n13]
      refine ⟨b1, b2, bA, bD, (by first | rfl | simp [hn]), by simpa [upd] using s1, by simpa [upd] using s2, ⟨z, by simpa [upd] using xz, zl, zo⟩, by simp [upd, x1, g5 hA, n13], ?_, ?_, ?_, ?_, ?_, ?_, ?_, ?_, ?_, ?_, ?_, ?_, ?_, ?_⟩
      · exact fun h => by first | (simpa [upd] using g0 (by simpa using h)) | (simp [upd]; done) | (simp_all [upd]; done)
      · exact fun h => by first | (simpa [upd] using g1 (by simpa using h)) | (simp [upd]; done) | (simp_all [upd]; done)
      · exact fun h => by first | (simpa [upd] using g2 (by simpa using h)) | (simp [upd]; done) | (simp_all [upd]; done)
      · exact fun h => by first | (simpa [upd] using g3 (by simpa using h)) | (simp [upd]; done) | (simp_all [upd]; done)
      · exact fun h => by first | (simpa [upd] using g4 (by simpa using h)) | (simp [upd]; done) | (simp_all [upd]; done)
      · exact fun h => by first | (simpa [upd] using g5 (by simpa using h)) | (simp [upd]; done) | (simp_all [upd]; done)
      · exact fun h => by first | (simpa [upd] using g6 (by simpa using h)) | (simp [upd]; done) | (simp_all [upd]; done)
      · exact fun h => by first | (simpa [upd] using g7 (by simpa using h)) | (simp [upd]; done) | (simp_all [upd]; done)
      · exact fun h => by first | (simpa [upd] using g8 (by simpa using h)) | (simp [upd]; done) | (simp_all [upd]; done)
      · exact fun h => by first | (simpa [upd] using g9 (by simpa using h)) | (simp [upd]; done) | (simp_all [upd]; done)
      · exact fun h => by first | (simpa [upd] using g11 (by simpa using h)) | (simp [upd]; done) | (simp_all [upd]; done)
      · exact fun h => by first | (simpa [upd] using g12 (by simpa using h)) | (simp [upd]; done) | (simp_all [upd]; done)
      · exact fun h => by first | (simpa [upd] using g10 (by simpa using h)) | (simp [upd]; done) | (simp_all [upd]; done)
      · exact fun h => by first | (simpa [upd] using g13 (by simpa using h)) | (simp [upd]; done) | (simp_all [upd]; done)
    · have n13 : L 13 = false := by
        cases h : L 13 with
        | false => rfl
        | true => exact absurd (g13 h).2 (by simp [hL])
      simp [upd, hn, s1, x1, g6 hA.1]
      refine CallK.fresh (cloneD_new r.dels hl2) [102] (fun β => .c (.ms 3 102 (β 0) 0 r.dels.length)) (Wks.refl _) (fun β => Wk.ms _ _ _ _ _ _) (fun _ => rfl) ?_
      intro β
      simp [upd]
      refine ⟨b1, b2, bA, β 0, (by first | rfl | simp [hn]), by simpa [upd] using s1, by simpa [upd] using s2, ⟨z, by simpa [upd] using xz, zl, zo⟩, by simp [upd, x1, n13], ?_, ?_, ?_, ?_, ?_, ?_, ?_, ?_, ?_, ?_, ?_, ?_, ?_, ?_⟩
      · exact fun h => by first | (simpa [upd] using g0 (by simpa using h)) | (simp [upd]; done) | (simp_all [upd]; done)
      · exact fun h => by first | (simpa [upd] using g1 (by simpa using h)) | (simp [upd]; done) | (simp_all [upd]; done)
      · exact fun h => by first | (simpa [upd] using g2 (by simpa using h)) | (simp [upd]; done) | (simp_all [upd]; done)
      · exact fun h => by first | (simpa [upd] using g3 (by simpa using h)) | (simp [upd]; done) | (simp_all [upd]; done)
      · exact fun h => by first | (simpa [upd] using g4 (by simpa using h)) | (simp [upd]; done) | (simp_all [upd]; done)
      · exact fun h => by first | (simpa [upd] using g5 (by simpa using h)) | (simp [upd]; done) | (simp_all [upd]; done)
      · exact fun h => by first | (simpa [upd] using g6 (by simpa using h)) | (simp [upd]; done) | (simp_all [upd]; done)
      · exact fun h => by first | (simpa [upd] using g7 (by simpa using h)) | (simp [upd]; done) | (simp_all [upd]; done)
      · exact fun h => by first | (simpa [upd] using g8 (by simpa using h)) | (simp [upd]; done) | (simp_all [upd]; done)
      · exact fun h => by first | (simpa [upd] using g9 (by simpa using h)) | (simp [upd]; done) | (simp_all [upd]; done)
      · exact fun h => by first | (simpa [upd] using g11 (by simpa using h)) | (simp [upd]; done) | (simp_all [upd]; done)
      · exact fun h => by first | (simpa [upd] using g12 (by simpa using h)) | (simp [upd]; done) | (simp_all [upd]; done)
      · exact fun h => by first | (simpa [upd] using g10 (by simpa using h)) | (simp [upd]; done) | (simp_all [upd]; done)
      · exact fun h => by first | (simpa [upd] using g13 (by simpa using h)) | (simp [upd]; done) | (simp_all [upd]; done)
    · simp [upd, hn, s1, x1, hL]
      refine ⟨b1, b2, bA, bD, (by first | rfl | simp [hn]), by simpa [upd] using s1, by simpa [upd] using s2, ⟨z, by simpa [upd] using xz, zl, zo⟩, by simp [upd, x1, hL], ?_, ?_, ?_, ?_, ?_, ?_, ?_, ?_, ?_, ?_, ?_, ?_, ?_, ?_⟩
      · exact fun h => by first | (simpa [upd] using g0 (by simpa using h)) | (simp [upd]; done) | (simp_all [upd]; done)
      · exact fun h => by first | (simpa [upd] using g1 (by simpa using h)) | (simp [upd]; done) | (simp_all [upd]; done)
      · exact fun h => by first | (simpa [upd] using g2 (by simpa using h)) | (simp [upd]; done) | (simp_all [upd]; done)
      · exact fun h => by first | (simpa [upd] using g3 (by simpa using h)) | (simp [upd]; done) | (simp_all [upd]; done)
      · exact fun h => by first | (simpa [upd] using g4 (by simpa using h)) | (simp [upd]; done) | (simp_all [upd]; done)
      · exact fun h => by first | (simpa [upd] using g5 (by simpa using h)) | (simp [upd]; done) | (simp_all [upd]; done)
      · exact fun h => by first | (simpa [upd] using g6 (by simpa using h)) | (simp [upd]; done) | (simp_all [upd]; done)
      · exact fun h => by first | (simpa [upd] using g7 (by simpa using h)) | (simp [upd]; done) | (simp_all [upd]; done)
      · exact fun h => by first | (simpa [upd] using g8 (by simpa using h)) | (simp [upd]; done) | (simp_all [upd]; done)
      · exact fun h => by first | (simpa [upd] using g9 (by simpa using h)) | (simp [upd]; done) | (simp_all [upd]; done)
      · exact fun h => by first | (simpa [upd] using g11 (by simpa using h)) | (simp [upd]; done) | (simp_all [upd]; done)
      · exact fun h => by first | (simpa [upd] using g12 (by simpa using h)) | (simp [upd]; done) | (simp_all [upd]; done)
      · exact fun h => by first | (simpa [upd] using g10 (by simpa using h)) | (simp [upd]; done) | (simp_all [upd]; done)
      · exact fun h => by first | (simpa [upd] using g13 (by simpa using h)) | (simp [upd]; done) | (simp_all [upd]; done)
    · simp [upd, hn, s1, x1, g8 hA.1]
      refine ⟨b1, b2, bA, bD, (by first | rfl | simp [hn]), by simpa [upd] using s1, by simpa [upd] using s2, ⟨z, by simpa [upd] using xz, zl, zo⟩, by simp [upd, x1, g8 hA.1], ?_, ?_, ?_, ?_, ?_, ?_, ?_, ?_, ?_, ?_, ?_, ?_, ?_, ?_⟩
      · exact fun h => by first | (simpa [upd] using g0 (by simpa using h)) | (simp [upd]; done) | (simp_all [upd]; done)
      · exact fun h => by first | (simpa [upd] using g1 (by simpa using h)) | (simp [upd]; done) | (simp_all [upd]; done)
      · exact fun h => by first | (simpa [upd] using g2 (by simpa using h)) | (simp [upd]; done) | (simp_all [upd]; done)
      · exact fun h => by first | (simpa [upd] using g3 (by simpa using h)) | (simp [upd]; done) | (simp_all [upd]; done)
      · exact fun h => by first | (simpa [upd] using g4 (by simpa using h)) | (simp [upd]; done) | (simp_all [upd]; done)
      · exact fun h => by first | (simpa [upd] using g5 (by simpa using h)) | (simp [upd]; done) | (simp_all [upd]; done)
      · exact fun h => by first | (simpa [upd] using g6 (by simpa using h)) | (simp [upd]; done) | (simp_all [upd]; done)
      · exact fun h => by first | (simpa [upd] using g7 (by simpa using h)) | (simp [upd]; done) | (simp_all [upd]; done)
      · exact fun h => by first | (simpa [upd] using g8 (by simpa using h)) | (simp [upd]; done) | (simp_all [upd]; done)
      · exact fun h => by first | (simpa [upd] using g9 (by simpa using h)) | (simp [upd]; done) | (simp_all [upd]; done)
      · exact fun h => by first | (simpa [upd] using g11 (by simpa using h)) | (simp [upd]; done) | (simp_all [upd]; done)
      · exact fun h => by first | (simpa [upd] using g12 (by simpa using h)) | (simp [upd]; done) | (simp_all [upd]; done)
      · exact fun h => by first | (simpa [upd] using g10 (by simpa using h)) | (simp [upd]; done) | (simp_all [upd]; done)
      · exact fun h => by first | (simpa [upd] using g13 (by simpa using h)) | (simp [upd]; done) | (simp_all [upd]; done)
    · have q := g3 hA.2.1
      simp [upd, hn, s1, x1, g9 hA.1, q.1, hA]
      refine ⟨b1, b2, bA, bD, (by first | rfl | simp [hn]), by simpa [upd] using s1, by simpa [upd] using s2, ⟨z, by simpa [upd] using xz, zl, zo⟩, by simp [upd, x1, g9 hA.1, q.1, hA], ?_, ?_, ?_, ?_, ?_, ?_, ?_, ?_, ?_, ?_, ?_, ?_, ?_, ?_⟩
      · exact fun h => by first | (simpa [upd] using g0 (by simpa using h)) | (simp [upd]; done) | (simp_all [upd]; done)
      · exact fun h => by first | (simpa [upd] using g1 (by simpa using h)) | (simp [upd]; done) | (simp_all [upd]; done)
      · exact fun h => by first | (simpa [upd] using g2 (by simpa using h)) | (simp [upd]; done) | (simp_all [upd]; done)
      · exact fun h => by first | (simpa [upd] using g3 (by simpa using h)) | (simp [upd]; done) | (simp_all [upd]; done)
      · exact fun h => by first | (simpa [upd] using g4 (by simpa using h)) | (simp [upd]; done) | (simp_all [upd]; done)
      · exact fun h => by first | (simpa [upd] using g5 (by simpa using h)) | (simp [upd]; done) | (simp_all [upd]; done)
      · exact fun h => by first | (simpa [upd] using g6 (by simpa using h)) | (simp [upd]; done) | (simp_all [upd]; done)
      · exact fun h => by first | (simpa [upd] using g7 (by simpa using h)) | (simp [upd]; done) | (simp_all [upd]; done)
      · exact fun h => by first | (simpa [upd] using g8 (by simpa using h)) | (simp [upd]; done) | (simp_all [upd]; done)
      · exact fun h => by first | (simpa [upd] using g9 (by simpa using h)) | (simp [upd]; done) | (simp_all [upd]; done)
      · exact fun h => by first | (simpa [upd] using g11 (by simpa using h)) | (simp [upd]; done) | (simp_all [upd]; done)
      · exact fun h => by first | (simpa [upd] using g12 (by simpa using h)) | (simp [upd]; done) | (simp_all [upd]; done)
      · exact fun h => by first | (simpa [upd] using g10 (by simpa using h)) | (simp [upd]; done) | (simp_all [upd]; done)
      · exact fun h => by first | (simpa [upd] using g13 (by simpa using h)) | (simp [upd]; done) | (simp_all [upd]; done)
    · simp [upd, hn, s1, x1, hL]
      refine ⟨b1, b2, bA, bD, (by first | rfl | simp [hn]), by simpa [upd] using s1, by simpa [upd] using s2, ⟨z, by simpa [upd] using xz, zl, zo⟩, by simp [upd, x1, hL], ?_, ?_, ?_, ?_, ?_, ?_, ?_, ?_, ?_, ?_, ?_, ?_, ?_, ?_⟩
      · exact fun h => by first | (simpa [upd] using g0 (by simpa using h)) | (simp [upd]; done) | (simp_all [upd]; done)
      · exact fun h => by first | (simpa [upd] using g1 (by simpa using h)) | (simp [upd]; done) | (simp_all [upd]; done)
      · exact fun h => by first | (simpa [upd] using g2 (by simpa using h)) | (simp [upd]; done) | (simp_all [upd]; done)
      · exact fun h => by first | (simpa [upd] using g3 (by simpa using h)) | (simp [upd]; done) | (simp_all [upd]; done)
      · exact fun h => by first | (simpa [upd] using g4 (by simpa using h)) | (simp [upd]; done) | (simp_all [upd]; done)
      · exact fun h => by first | (simpa [upd] using g5 (by simpa using h)) | (simp [upd]; done) | (simp_all [upd]; done)
      · exact fun h => by first | (simpa [upd] using g6 (by simpa using h)) | (simp [upd]; done) | (simp_all [upd]; done)
      · exact fun h => by first | (simpa [upd] using g7 (by simpa using h)) | (simp [upd]; done) | (simp_all [upd]; done)
      · exact fun h => by first | (simpa [upd] using g8 (by simpa using h)) | (simp [upd]; done) | (simp_all [upd]; done)
      · exact fun h => by first | (simpa [upd] using g9 (by simpa using h)) | (simp [upd]; done) | (simp_all [upd]; done)
      · exact fun h => by first | (simpa [upd] using g11 (by simpa using h)) | (simp [upd]; done) | (simp_all [upd]; done)
      · exact fun h => by first | (simpa [upd] using g12 (by simpa using h)) | (simp [upd]; done) | (simp_all [upd]; done)
      · exact fun h => by first | (simpa [upd] using g10 (by simpa using h)) | (simp [upd]; done) | (simp_all [upd]; done)
      · exact fun h => by first | (simpa [upd] using g13 (by simpa using h)) | (simp [upd]; done) | (simp_all [upd]; done)
    · simp [upd, hn, s1, x1, g11 hA.1]
      refine ⟨b1, b2, bA, bD, (by first | rfl | simp [hn]), by simpa [upd] using s1, by simpa [upd] using s2, ⟨z, by simpa [upd] using xz, zl, zo⟩, by simp [upd, x1, g11 hA.1], ?_, ?_, ?_, ?_, ?_, ?_, ?_, ?_, ?_, ?_, ?_, ?_, ?_, ?_⟩
      · exact fun h => by first | (simpa [upd] using g0 (by simpa using h)) | (simp [upd]; done) | (simp_all [upd]; done)
      · exact fun h => by first | (simpa [upd] using g1 (by simpa using h)) | (simp [upd]; done) | (simp_all [upd]; done)
      · exact fun h => by first | (simpa [upd] using g2 (by simpa using h)) | (simp [upd]; done) | (simp_all [upd]; done)
      · exact fun h => by first | (simpa [upd] using g3 (by simpa using h)) | (simp [upd]; done) | (simp_all [upd]; done)
      · exact fun h => by first | (simpa [upd] using g4 (by simpa using h)) | (simp [upd]; done) | (simp_all [upd]; done)
      · exact fun h => by first | (simpa [upd] using g5 (by simpa using h)) | (simp [upd]; done) | (simp_all [upd]; done)
      · exact fun h => by first | (simpa [upd] using g6 (by simpa using h)) | (simp [upd]; done) | (simp_all [upd]; done)
      · exact fun h => by first | (simpa [upd] using g7 (by simpa using h)) | (simp [upd]; done) | (simp_all [upd]; done)
      · exact fun h => by first | (simpa [upd] using g8 (by simpa using h)) | (simp [upd]; done) | (simp_all [upd]; done)
      · exact fun h => by first | (simpa [upd] using g9 (by simpa using h)) | (simp [upd]; done) | (simp_all [upd]; done)
      · exact fun h => by first | (simpa [upd] using g11 (by simpa using h)) | (simp [upd]; done) | (simp_all [upd]; done)
      · exact fun h => by first | (simpa [upd] using g12 (by simpa using h)) | (simp [upd]; done) | (simp_all [upd]; done)
      · exact fun h => by first | (simpa [upd] using g10 (by simpa using h)) | (simp [upd]; done) | (simp_all [upd]; done)
      · exact fun h => by first | (simpa [upd] using g13 (by simpa using h)) | (simp [upd]; done) | (simp_all [upd]; done)
    · have q := g7 hA.2.1
      simp [upd, hn, s1, x1, g12 hA.1, q.1, hA]
      refine ⟨b1, b2, bA, bD, (by first | rfl | simp [hn]), by simpa [upd] using s1, by simpa [upd] using s2, ⟨z, by simpa [upd] using xz, zl, zo⟩, by simp [upd, x1, g12 hA.1, q.1, hA], ?_, ?_, ?_, ?_, ?_, ?_, ?_, ?_, ?_, ?_, ?_, ?_, ?_, ?_⟩
      · exact fun h => by first | (simpa [upd] using g0 (by simpa using h)) | (simp [upd]; done) | (simp_all [upd]; done)
      · exact fun h => by first | (simpa [upd] using g1 (by simpa using h)) | (simp [upd]; done) | (simp_all [upd]; done)
      · exact fun h => by first | (simpa [upd] using g2 (by simpa using h)) | (simp [upd]; done) | (simp_all [upd]; done)
      · exact fun h => by first | (simpa [upd] using g3 (by simpa using h)) | (simp [upd]; done) | (simp_all [upd]; done)
      · exact fun h => by first | (simpa [upd] using g4 (by simpa using h)) | (simp [upd]; done) | (simp_all [upd]; done)
      · exact fun h => by first | (simpa [upd] using g5 (by simpa using h)) | (simp [upd]; done) | (simp_all [upd]; done)
      · exact fun h => by first | (simpa [upd] using g6 (by simpa using h)) | (simp [upd]; done) | (simp_all [upd]; done)
      · exact fun h => by first | (simpa [upd] using g7 (by simpa using h)) | (simp [upd]; done) | (simp_all [upd]; done)
      · exact fun h => by first | (simpa [upd] using g8 (by simpa using h)) | (simp [upd]; done) | (simp_all [upd]; done)
      · exact fun h => by first | (simpa [upd] using g9 (by simpa using h)) | (simp [upd]; done) | (simp_all [upd]; done)
      · exact fun h => by first | (simpa [upd] using g11 (by simpa using h)) | (simp [upd]; done) | (simp_all [upd]; done)
      · exact fun h => by first | (simpa [upd] using g12 (by simpa using h)) | (simp [upd]; done) | (simp_all [upd]; done)
      · exact fun h => by first | (simpa [upd] using g10 (by simpa using h)) | (simp [upd]; done) | (simp_all [upd]; done)
      · exact fun h => by first | (simpa [upd] using g13 (by simpa using h)) | (simp [upd]; done) | (simp_all [upd]; done)
  · rintro L st hL ⟨b1, b2, bA, bD, hn, s1, s2, ⟨z, xz, zl, zo⟩, x1, -, -, -, g3, -, -, -, g7, -⟩
    simp only [hL 10 (by decide), hL 13 (by decide), if_true] at x1
    have x101 := (g3 (hL 3 (by decide))).2
    have x102 := (g7 (hL 7 (by decide))).2
    simp only [forall_const, reduceCtorEq, false_implies] at x101 x102
    have zd : z.drop 3 = [] := List.drop_eq_nil_of_le (by omega)
    show K st
    apply hK
    clear hK
    repeat (first
      | (refine Tri.seq fun K hK => ?_)
      | (refine Tri.region ?_; simp [upd, hn, s1, s2, x1, xz, zl, zo, zd])
      | (refine Tri.draw (by kernel_rfl) (by decide +kernel) ?_; simp [upd, hn, s1, s2, x1, xz, zl, zo, zd])
      | (refine Tri.cond_true ?_ ?_; (focus simp [upd, hn, s1, s2, x1, xz, zl, zo, zd]; done))
      | (refine Tri.cond_false ?_ ?_; (focus simp [upd, hn, s1, s2, x1, xz, zl, zo, zd]; done))
      | (refine Tri.skip ?_; simp only [thenS, blockS])
      | (refine Tri.block_seq ?_)
      | (refine Tri.block_region ?_)
      | (refine Tri.block_cond ?_)
      | (refine Tri.exit ?_; simp [upd, hn, s1, s2, x1, xz, zl, zo, zd]; first | (rename ∀ st, Tri _ _ _ st _ → _ => hK; first | (apply hK; clear hK) | (clear hK; rename ∀ st, Tri _ _ _ st _ → _ => hK; first | (apply hK; clear hK) | (clear hK; rename ∀ st, Tri _ _ _ st _ → _ => hK; first | (apply hK; clear hK) | (clear hK; rename ∀ st, Tri _ _ _ st _ → _ => hK; first | (apply hK; clear hK) | (clear hK; rename ∀ st, Tri _ _ _ st _ → _ => hK; first | (apply hK; clear hK) | (clear hK; rename ∀ st, Tri _ _ _ st _ → _ => hK; apply hK; clear hK)))))) | skip)
      | (intro β)
      | (rename ∀ st, Tri _ _ _ st _ → _ => hK; apply hK; clear hK))
    refine Tri.ret ⟨.inr rfl, .agg [.int .i64 r.slots, .ms 8 101 bA 0 r.atts.length, .ms 3 102 bD 0 r.dels.length], ?_, fun i => if i = 0 then bA else bD, [101, 102], ?_, ?_, by decide⟩
    · show resV Try.prog _ [.cell 2 28] = _
      simp [upd, s2]
    · simp
      exact .agg3 (.refl _) (Wk.ms _ _ _ _ _ _) (Wk.ms _ _ _ _ _ _)
    · intro i cs hi
      match i, hi with
      | 0, hi => cases hi; exact ⟨101, rfl, by simp [x101]⟩
      | 1, hi => cases hi; exact ⟨102, rfl, by simp [x102]⟩
      | i + 2, hi => simp at hi
theorem cp_zn (r : Rec) (h1 : r.an = true) (h2 : r.dn = false) (ha : r.an = true → r.atts = []) (hd : r.dn = true → r.dels = []) (hl1 : r.atts.length ≤ 1073741824) (hl2 : r.dels.length ≤ 1073741824) :
    DoesR Try.prog 16 [.agg (recC r)] (fun β => (.agg [.int .i64 r.slots, .sl true 8 none (r.atts.map attC), .ms 3 0 (β 0) 0 r.dels.length], [flD r.dels])) := by
  refine DoesR.of_body Try.func16 rfl (by kernel_rfl) rfl rfl (by simp) fun E => ?_
  simp only [recC, h1, h2]
  refine Tri.seq fun K hK => ?_
  refine Tri.region ?_
  simp [upd]
  intro β1 β2
  apply hK
  clear hK K
  refine Tri.seq fun K hK => ?_
  refine Tri.drawAll (by kernel_rfl) (CJ r true false (fun bA => C.sl true 8 none (r.atts.map attC)) (fun bD => C.ms 3 102 bD 0 r.dels.length)) (by decide +kernel) ?_ ?_ ?_
  · refine ⟨β1, β2, 0, 0, rfl, by simp [upd], by simp [upd], ⟨_, by simp [upd] <;> exact rfl, by simp, by simp⟩, by simp [upd], ?_, ?_, ?_, ?_, ?_, ?_, ?_, ?_, ?_, ?_, ?_, ?_, ?_, ?_⟩ <;> simp
  · rintro L st ⟨b1, b2, bA, bD, hn, s1, s2, ⟨z, xz, zl, zo⟩, x1, g0, g1, g2, g3, g4, g5, g6, g7, g8, g9, g11, g12, g10, g13⟩
    generalize List.map _ _ = ds
    simp only [DrawAll, StepF_eq]
    refine ⟨?_, ?_, ?_, ?_, ?_, ?_, ?_, ?_, ?_, ?_, ?_, ?_, ?_, ?_, trivial⟩
    all_goals (intro hL hA; simp [afterOk, Region.binds] at hA)
    · simp [upd, hn, s1, x1, hL]
      refine ⟨b1, b2, bA, bD, (by first | rfl | simp [hn]), by simpa [upd] using s1, by simpa [upd] using s2, ⟨z, by simpa [upd] using xz, zl, zo⟩, by simp [upd, x1, hL], ?_, ?_, ?_, ?_, ?_, ?_, ?_, ?_, ?_, ?_, ?_, ?_, ?_, ?_⟩
      · exact fun h => by first | (simpa [upd] using g0 (by simpa using h)) | (simp [upd]; done) | (simp_all [upd]; done)
      · exact fun h => by first | (simpa [upd] using g1 (by simpa using h)) | (simp [upd]; done) | (simp_all [upd]; done)
      · exact fun h => by first | (simpa [upd] using g2 (by simpa using h)) | (simp [upd]; done) | (simp_all [upd]; done)
      · exact fun h => by first | (simpa [upd] using g3 (by simpa using h)) | (simp [upd]; done) | (simp_all [upd]; done)
      · exact fun h => by first | (simpa [upd] using g4 (by simpa using h)) | (simp [upd]; done) | (simp_all [upd]; done)
      · exact fun h => by first | (simpa [upd] using g5 (by simpa using h)) | (simp [upd]; done) | (simp_all [upd]; done)
      · exact fun h => by first | (simpa [upd] using g6 (by simpa using h)) | (simp [upd]; done) | (simp_all [upd]; done)
      · exact fun h => by first | (simpa [upd] using g7 (by simpa using h)) | (simp [upd]; done) | (simp_all [upd]; done)
      · exact fun h => by first | (simpa [upd] using g8 (by simpa using h)) | (simp [upd]; done) | (simp_all [upd]; done)
      · exact fun h => by first | (simpa [upd] using g9 (by simpa using h)) | (simp [upd]; done) | (simp_all [upd]; done)
      · exact fun h => by first | (simpa [upd] using g11 (by simpa using h)) | (simp [upd]; done) | (simp_all [upd]; done)
      · exact fun h => by first | (simpa [upd] using g12 (by simpa using h)) | (simp [upd]; done) | (simp_all [upd]; done)
      · exact fun h => by first | (simpa [upd] using g10 (by simpa using h)) | (simp [upd]; done) | (simp_all [upd]; done)
      · exact fun h => by first | (simpa [upd] using g13 (by simpa using h)) | (simp [upd]; done) | (simp_all [upd]; done)
    · simp [upd, hn, s1, x1, g0 hA]
      refine ⟨b1, b2, bA, bD, (by first | rfl | simp [hn]), by simpa [upd] using s1, by simpa [upd] using s2, ⟨z, by simpa [upd] using xz, zl, zo⟩, by simp [upd, x1, g0 hA], ?_, ?_, ?_, ?_, ?_, ?_, ?_, ?_, ?_, ?_, ?_, ?_, ?_, ?_⟩
      · exact fun h => by first | (simpa [upd] using g0 (by simpa using h)) | (simp [upd]; done) | (simp_all [upd]; done)
      · exact fun h => by first | (simpa [upd] using g1 (by simpa using h)) | (simp [upd]; done) | (simp_all [upd]; done)
      · exact fun h => by first | (simpa [upd] using g2 (by simpa using h)) | (simp [upd]; done) | (simp_all [upd]; done)
      · exact fun h => by first | (simpa [upd] using g3 (by simpa using h)) | (simp [upd]; done) | (simp_all [upd]; done)
      · exact fun h => by first | (simpa [upd] using g4 (by simpa using h)) | (simp [upd]; done) | (simp_all [upd]; done)
      · exact fun h => by first | (simpa [upd] using g5 (by simpa using h)) | (simp [upd]; done) | (simp_all [upd]; done)
      · exact fun h => by first | (simpa [upd] using g6 (by simpa using h)) | (simp [upd]; done) | (simp_all [upd]; done)
      · exact fun h => by first | (simpa [upd] using g7 (by simpa using h)) | (simp [upd]; done) | (simp_all [upd]; done)
      · exact fun h => by first | (simpa [upd] using g8 (by simpa using h)) | (simp [upd]; done) | (simp_all [upd]; done)
      · exact fun h => by first | (simpa [upd] using g9 (by simpa using h)) | (simp [upd]; done) | (simp_all [upd]; done)
      · exact fun h => by first | (simpa [upd] using g11 (by simpa using h)) | (simp [upd]; done) | (simp_all [upd]; done)
      · exact fun h => by first | (simpa [upd] using g12 (by simpa using h)) | (simp [upd]; done) | (simp_all [upd]; done)
      · exact fun h => by first | (simpa [upd] using g10 (by simpa using h)) | (simp [upd]; done) | (simp_all [upd]; done)
      · exact fun h => by first | (simpa [upd] using g13 (by simpa using h)) | (simp [upd]; done) | (simp_all [upd]; done)
    · have n10 : L 10 = false := by
        cases h : L 10 with
        | false => rfl
        | true => exact absurd (g10 h).1 (by simp [hL])
      simp [upd, hn, s1, x1, g1 hA, n10]
      refine ⟨b1, b2, bA, bD, (by first | rfl | simp [hn]), by simpa [upd] using s1, by simpa [upd] using s2, ⟨z, by simpa [upd] using xz, zl, zo⟩, by simp [upd, x1, g1 hA, n10], ?_, ?_, ?_, ?_, ?_, ?_, ?_, ?_, ?_, ?_, ?_, ?_, ?_, ?_⟩
      · exact fun h => by first | (simpa [upd] using g0 (by simpa using h)) | (simp [upd]; done) | (simp_all [upd]; done)
      · exact fun h => by first | (simpa [upd] using g1 (by simpa using h)) | (simp [upd]; done) | (simp_all [upd]; done)
      · exact fun h => by first | (simpa [upd] using g2 (by simpa using h)) | (simp [upd]; done) | (simp_all [upd]; done)
      · exact fun h => by first | (simpa [upd] using g3 (by simpa using h)) | (simp [upd]; done) | (simp_all [upd]; done)
      · exact fun h => by first | (simpa [upd] using g4 (by simpa using h)) | (simp [upd]; done) | (simp_all [upd]; done)
      · exact fun h => by first | (simpa [upd] using g5 (by simpa using h)) | (simp [upd]; done) | (simp_all [upd]; done)
      · exact fun h => by first | (simpa [upd] using g6 (by simpa using h)) | (simp [upd]; done) | (simp_all [upd]; done)
      · exact fun h => by first | (simpa [upd] using g7 (by simpa using h)) | (simp [upd]; done) | (simp_all [upd]; done)
      · exact fun h => by first | (simpa [upd] using g8 (by simpa using h)) | (simp [upd]; done) | (simp_all [upd]; done)
      · exact fun h => by first | (simpa [upd] using g9 (by simpa using h)) | (simp [upd]; done) | (simp_all [upd]; done)
      · exact fun h => by first | (simpa [upd] using g11 (by simpa using h)) | (simp [upd]; done) | (simp_all [upd]; done)
      · exact fun h => by first | (simpa [upd] using g12 (by simpa using h)) | (simp [upd]; done) | (simp_all [upd]; done)
      · exact fun h => by first | (simpa [upd] using g10 (by simpa using h)) | (simp [upd]; done) | (simp_all [upd]; done)
      · exact fun h => by first | (simpa [upd] using g13 (by simpa using h)) | (simp [upd]; done) | (simp_all [upd]; done)
    · have n10 : L 10 = false := by
        cases h : L 10 with
        | false => rfl
        | true => exact absurd (g10 h).2 (by simp [hL])
      simp [upd, hn, s1, x1, g2 hA]
      refine CallK.pure (cloneA_does r.atts true (fun _ => ha h1) hl1) (Wks.refl _) ?_
      simp [upd]
      refine ⟨b1, b2, bA, bD, (by first | rfl | simp [hn]), by simpa [upd] using s1, by simpa [upd] using s2, ⟨z, by simpa [upd] using xz, zl, zo⟩, by simp [upd, x1, n10], ?_, ?_, ?_, ?_, ?_, ?_, ?_, ?_, ?_, ?_, ?_, ?_, ?_, ?_⟩
      · exact fun h => by first | (simpa [upd] using g0 (by simpa using h)) | (simp [upd]; done) | (simp_all [upd]; done)
      · exact fun h => by first | (simpa [upd] using g1 (by simpa using h)) | (simp [upd]; done) | (simp_all [upd]; done)
      · exact fun h => by first | (simpa [upd] using g2 (by simpa using h)) | (simp [upd]; done) | (simp_all [upd]; done)
      · exact fun h => by first | (simpa [upd] using g3 (by simpa using h)) | (simp [upd]; done) | (simp_all [upd]; done)
      · exact fun h => by first | (simpa [upd] using g4 (by simpa using h)) | (simp [upd]; done) | (simp_all [upd]; done)
      · exact fun h => by first | (simpa [upd] using g5 (by simpa using h)) | (simp [upd]; done) | (simp_all [upd]; done)
      · exact fun h => by first | (simpa [upd] using g6 (by simpa using h)) | (simp [upd]; done) | (simp_all [upd]; done)
      · exact fun h => by first | (simpa [upd] using g7 (by simpa using h)) | (simp [upd]; done) | (simp_all [upd]; done)
      · exact fun h => by first | (simpa [upd] using g8 (by simpa using h)) | (simp [upd]; done) | (simp_all [upd]; done)
      · exact fun h => by first | (simpa [upd] using g9 (by simpa using h)) | (simp [upd]; done) | (simp_all [upd]; done)
      · exact fun h => by first | (simpa [upd] using g11 (by simpa using h)) | (simp [upd]; done) | (simp_all [upd]; done)
      · exact fun h => by first | (simpa [upd] using g12 (by simpa using h)) | (simp [upd]; done) | (simp_all [upd]; done)
      · exact fun h => by first | (simpa [upd] using g10 (by simpa using h)) | (simp [upd]; done) | (simp_all [upd]; done)
      · exact fun h => by first | (simpa [upd] using g13 (by simpa using h)) | (simp [upd]; done) | (simp_all [upd]; done)
    · simp [upd, hn, s1, x1, hL]
      refine ⟨b1, b2, bA, bD, (by first | rfl | simp [hn]), by simpa [upd] using s1, by simpa [upd] using s2, ⟨z, by simpa [upd] using xz, zl, zo⟩, by simp [upd, x1, hL], ?_, ?_, ?_, ?_, ?_, ?_, ?_, ?_, ?_, ?_, ?_, ?_, ?_, ?_⟩
      · exact fun h => by first | (simpa [upd] using g0 (by simpa using h)) | (simp [upd]; done) | (simp_all [upd]; done)
      · exact fun h => by first | (simpa [upd] using g1 (by simpa using h)) | (simp [upd]; done) | (simp_all [upd]; done)
      · exact fun h => by first | (simpa [upd] using g2 (by simpa using h)) | (simp [upd]; done) | (simp_all [upd]; done)
      · exact fun h => by first | (simpa [upd] using g3 (by simpa using h)) | (simp [upd]; done) | (simp_all [upd]; done)
      · exact fun h => by first | (simpa [upd] using g4 (by simpa using h)) | (simp [upd]; done) | (simp_all [upd]; done)
      · exact fun h => by first | (simpa [upd] using g5 (by simpa using h)) | (simp [upd]; done) | (simp_all [upd]; done)
      · exact fun h => by first | (simpa [upd] using g6 (by simpa using h)) | (simp [upd]; done) | (simp_all [upd]; done)
      · exact fun h => by first | (simpa [upd] using g7 (by simpa using h)) | (simp [upd]; done) | (simp_all [upd]; done)
      · exact fun h => by first | (simpa [upd] using g8 (by simpa using h)) | (simp [upd]; done) | (simp_all [upd]; done)
      · exact fun h => by first | (simpa [upd] using g9 (by simpa using h)) | (simp [upd]; done) | (simp_all [upd]; done)
      · exact fun h => by first | (simpa [upd] using g11 (by simpa using h)) | (simp [upd]; done) | (simp_all [upd]; done)
      · exact fun h => by first | (simpa [upd] using g12 (by simpa using h)) | (simp [upd]; done) | (simp_all [upd]; done)
      · exact fun h => by first | (simpa [upd] using g10 (by simpa using h)) | (simp [upd]; done) | (simp_all [upd]; done)
      · exact fun h => by first | (simpa [upd] using g13 (by simpa using h)) | (simp [upd]; done) | (simp_all [upd]; done)
    · simp [upd, hn, s1, x1, g4 hA]
      refine ⟨b1, b2, bA, bD, (by first | rfl | simp [hn]), by simpa [upd] using s1, by simpa [upd] using s2, ⟨z, by simpa [upd] using xz, zl, zo⟩, by simp [upd, x1, g4 hA], ?_, ?_, ?_, ?_, ?_, ?_, ?_, ?_, ?_, ?_, ?_, ?_, ?_, ?_⟩
      · exact fun h => by first | (simpa [upd] using g0 (by simpa using h)) | (simp [upd]; done) | (simp_all [upd]; done)
      · exact fun h => by first | (simpa [upd] using g1 (by simpa using h)) | (simp [upd]; done) | (simp_all [upd]; done)
      · exact fun h => by first | (simpa [upd] using g2 (by simpa using h)) | (simp [upd]; done) | (simp_all [upd]; done)
      · exact fun h => by first | (simpa [upd] using g3 (by simpa using h)) | (simp [upd]; done) | (simp_all [upd]; done)
      · exact fun h => by first | (simpa [upd] using g4 (by simpa using h)) | (simp [upd]; done) | (simp_all [upd]; done)
      · exact fun h => by first | (simpa [upd] using g5 (by simpa using h)) | (simp [upd]; done) | (simp_all [upd]; done)
      · exact fun h => by first | (simpa [upd] using g6 (by simpa using h)) | (simp [upd]; done) | (simp_all [upd]; done)
      · exact fun h => by first | (simpa [upd] using g7 (by simpa using h)) | (simp [upd]; done) | (simp_all [upd]; done)
      · exact fun h => by first | (simpa [upd] using g8 (by simpa using h)) | (simp [upd]; done) | (simp_all [upd]; done)
      · exact fun h => by first | (simpa [upd] using g9 (by simpa using h)) | (simp [upd]; done) | (simp_all [upd]; done)
      · exact fun h => by first | (simpa [upd] using g11 (by simpa using h)) | (simp [upd]; done) | (simp_all [upd]; done)
      · exact fun h => by first | (simpa [upd] using g12 (by simpa using h)) | (simp [upd]; done) | (simp_all [upd]; done)
      · exact fun h => by first | (simpa [upd] using g10 (by simpa using h)) | (simp [upd]; done) | (simp_all [upd]; done)
      · exact fun h => by first | (simpa [upd] using g13 (by simpa using h)) | (simp [upd]; done) | (simp_all [upd]; done)
    · have n13 : L 13 = false := by
        cases h : L 13 with
        | false => rfl
        | true => exact absurd (g13 h).1 (by simp [hL])
      simp [upd, hn, s1, x1, g5 hA, n13]
      refine ⟨b1, b2, bA, bD, (by first | rfl | simp [hn]), by simpa [upd] using s1, by simpa [upd] using s2, ⟨z, by simpa [upd] using xz, zl, zo⟩, by simp [upd, x1, g5 hA, n13], ?_, ?_, ?_, ?_, ?_, ?_, ?_, ?_, ?_, ?_, ?_, ?_, ?_, ?_⟩
      · exact fun h => by first | (simpa [upd] using g0 (by simpa using h)) | (simp [upd]; done) | (simp_all [upd]; done)
      · exact fun h => by first | (simpa [upd] using g1 (by simpa using h)) | (simp [upd]; done) | (simp_all [upd]; done)
      · exact fun h => by first | (simpa [upd] using g2 (by simpa using h)) | (simp [upd]; done) | (simp_all [upd]; done)
      · exact fun h => by first | (simpa [upd] using g3 (by simpa using h)) | (simp [upd]; done) | (simp_all [upd]; done)
      · exact fun h => by first | (simpa [upd] using g4 (by simpa using h)) | (simp [upd]; done) | (simp_all [upd]; done)
      · exact fun h => by first | (simpa [upd] using g5 (by simpa using h)) | (simp [upd]; done) | (simp_all [upd]; done)
      · exact fun h => by first | (simpa [upd] using g6 (by simpa using h)) | (simp [upd]; done) | (simp_all [upd]; done)
      · exact fun h => by first | (simpa [upd] using g7 (by simpa using h)) | (simp [upd]; done) | (simp_all [upd]; done)
      · exact fun h => by first | (simpa [upd] using g8 (by simpa using h)) | (simp [upd]; done) | (simp_all [upd]; done)
      · exact fun h => by first | (simpa [upd] using g9 (by simpa using h)) | (simp [upd]; done) | (simp_all [upd]; done)
      · exact fun h => by first | (simpa [upd] using g11 (by simpa using h)) | (simp [upd]; done) | (simp_all [upd]; done)
      · exact fun h => by first | (simpa [upd] using g12 (by simpa using h)) | (simp [upd]; done) | (simp_all [upd]; done)
      · exact fun h => by first | (simpa [upd] using g10 (by simpa using h)) | (simp [upd]; done) | (simp_all [upd]; done)
      · exact fun h => by first | (simpa [upd] using g13 (by simpa using h)) | (simp [upd]; done) | (simp_all [upd]; done)
    · have n13 : L 13 = false := by
        cases h : L 13 with
        | false => rfl
        | true => exact absurd (g13 h).2 (by simp [hL])
      simp [upd, hn, s1, x1, g6 hA.1]
      refine CallK.fresh (cloneD_new r.dels hl2) [102] (fun β => .c (.ms 3 102 (β 0) 0 r.dels.length)) (Wks.refl _) (fun β => Wk.ms _ _ _ _ _ _) (fun _ => rfl) ?_
      intro β
      simp [upd]
      refine ⟨b1, b2, bA, β 0, (by first | rfl | simp [hn]), by simpa [upd] using s1, by simpa [upd] using s2, ⟨z, by simpa [upd] using xz, zl, zo⟩, by simp [upd, x1, n13], ?_, ?_, ?_, ?_, ?_, ?_, ?_, ?_, ?_, ?_, ?_, ?_, ?_, ?_⟩
      · exact fun h => by first | (simpa [upd] using g0 (by simpa using h)) | (simp [upd]; done) | (simp_all [upd]; done)
      · exact fun h => by first | (simpa [upd] using g1 (by simpa using h)) | (simp [upd]; done) | (simp_all [upd]; done)
      · exact fun h => by first | (simpa [upd] using g2 (by simpa using h)) | (simp [upd]; done) | (simp_all [upd]; done)
      · exact fun h => by first | (simpa [upd] using g3 (by simpa using h)) | (simp [upd]; done) | (simp_all [upd]; done)
      · exact fun h => by first | (simpa [upd] using g4 (by simpa using h)) | (simp [upd]; done) | (simp_all [upd]; done)
      · exact fun h => by first | (simpa [upd] using g5 (by simpa using h)) | (simp [upd]; done) | (simp_all [upd]; done)
      · exact fun h => by first | (simpa [upd] using g6 (by simpa using h)) | (simp [upd]; done) | (simp_all [upd]; done)
      · exact fun h => by first | (simpa [upd] using g7 (by simpa using h)) | (simp [upd]; done) | (simp_all [upd]; done)
      · exact fun h => by first | (simpa [upd] using g8 (by simpa using h)) | (simp [upd]; done) | (simp_all [upd]; done)
      · exact fun h => by first | (simpa [upd] using g9 (by simpa using h)) | (simp [upd]; done) | (simp_all [upd]; done)
      · exact fun h => by first | (simpa [upd] using g11 (by simpa using h)) | (simp [upd]; done) | (simp_all [upd]; done)
      · exact fun h => by first | (simpa [upd] using g12 (by simpa using h)) | (simp [upd]; done) | (simp_all [upd]; done)
      · exact fun h => by first | (simpa [upd] using g10 (by simpa using h)) | (simp [upd]; done) | (simp_all [upd]; done)
      · exact fun h => by first | (simpa [upd] using g13 (by simpa using h)) | (simp [upd]; done) | (simp_all [upd]; done)
    · simp [upd, hn, s1, x1, hL]
      refine ⟨b1, b2, bA, bD, (by first | rfl | simp [hn]), by simpa [upd] using s1, by simpa [upd] using s2, ⟨z, by simpa [upd] using xz, zl, zo⟩, by simp [upd, x1, hL], ?_, ?_, ?_, ?_, ?_, ?_, ?_, ?_, ?_, ?_, ?_, ?_, ?_, ?_⟩
      · exact fun h => by first | (simpa [upd] using g0 (by simpa using h)) | (simp [upd]; done) | (simp_all [upd]; done)
      · exact fun h => by first | (simpa [upd] using g1 (by simpa using h)) | (simp [upd]; done) | (simp_all [upd]; done)
      · exact fun h => by first | (simpa [upd] using g2 (by simpa using h)) | (simp [upd]; done) | (simp_all [upd]; done)
      · exact fun h => by first | (simpa [upd] using g3 (by simpa using h)) | (simp [upd]; done) | (simp_all [upd]; done)
      · exact fun h => by first | (simpa [upd] using g4 (by simpa using h)) | (simp [upd]; done) | (simp_all [upd]; done)
      · exact fun h => by first | (simpa [upd] using g5 (by simpa using h)) | (simp [upd]; done) | (simp_all [upd]; done)
      · exact fun h => by first | (simpa [upd] using g6 (by simpa using h)) | (simp [upd]; done) | (simp_all [upd]; done)
      · exact fun h => by first | (simpa [upd] using g7 (by simpa using h)) | (simp [upd]; done) | (simp_all [upd]; done)
      · exact fun h => by first | (simpa [upd] using g8 (by simpa using h)) | (simp [upd]; done) | (simp_all [upd]; done)
      · exact fun h => by first | (simpa [upd] using g9 (by simpa using h)) | (simp [upd]; done) | (simp_all [upd]; done)
      · exact fun h => by first | (simpa [upd] using g11 (by simpa using h)) | (simp [upd]; done) | (simp_all [upd]; done)
      · exact fun h => by first | (simpa [upd] using g12 (by simpa using h)) | (simp [upd]; done) | (simp_all [upd]; done)
      · exact fun h => by first | (simpa [upd] using g10 (by simpa using h)) | (simp [upd]; done) | (simp_all [upd]; done)
      · exact fun h => by first | (simpa [upd] using g13 (by simpa using h)) | (simp [upd]; done) | (simp_all [upd]; done)
    · simp [upd, hn, s1, x1, g8 hA.1]
      refine ⟨b1, b2, bA, bD, (by first | rfl | simp [hn]), by simpa [upd] using s1, by simpa [upd] using s2, ⟨z, by simpa [upd] using xz, zl, zo⟩, by simp [upd, x1, g8 hA.1], ?_, ?_, ?_, ?_, ?_, ?_, ?_, ?_, ?_, ?_, ?_, ?_, ?_, ?_⟩
      · exact fun h => by first | (simpa [upd] using g0 (by simpa using h)) | (simp [upd]; done) | (simp_all [upd]; done)
      · exact fun h => by first | (simpa [upd] using g1 (by simpa using h)) | (simp [upd]; done) | (simp_all [upd]; done)
      · exact fun h => by first | (simpa [upd] using g2 (by simpa using h)) | (simp [upd]; done) | (simp_all [upd]; done)
      · exact fun h => by first | (simpa [upd] using g3 (by simpa using h)) | (simp [upd]; done) | (simp_all [upd]; done)
      · exact fun h => by first | (simpa [upd] using g4 (by simpa using h)) | (simp [upd]; done) | (simp_all [upd]; done)
      · exact fun h => by first | (simpa [upd] using g5 (by simpa using h)) | (simp [upd]; done) | (simp_all [upd]; done)
      · exact fun h => by first | (simpa [upd] using g6 (by simpa using h)) | (simp [upd]; done) | (simp_all [upd]; done)
      · exact fun h => by first | (simpa [upd] using g7 (by simpa using h)) | (simp [upd]; done) | (simp_all [upd]; done)
      · exact fun h => by first | (simpa [upd] using g8 (by simpa using h)) | (simp [upd]; done) | (simp_all [upd]; done)
      · exact fun h => by first | (simpa [upd] using g9 (by simpa using h)) | (simp [upd]; done) | (simp_all [upd]; done)
      · exact fun h => by first | (simpa [upd] using g11 (by simpa using h)) | (simp [upd]; done) | (simp_all [upd]; done)
      · exact fun h => by first | (simpa [upd] using g12 (by simpa using h)) | (simp [upd]; done) | (simp_all [upd]; done)
      · exact fun h => by first | (simpa [upd] using g10 (by simpa using h)) | (simp [upd]; done) | (simp_all [upd]; done)
      · exact fun h => by first | (simpa [upd] using g13 (by simpa using h)) | (simp [upd]; done) | (simp_all [upd]; done)
    · have q := g3 hA.2.1
      simp [upd, hn, s1, x1, g9 hA.1, q.1, hA]
      refine ⟨b1, b2, bA, bD, (by first | rfl | simp [hn]), by simpa [upd] using s1, by simpa [upd] using s2, ⟨z, by simpa [upd] using xz, zl, zo⟩, by simp [upd, x1, g9 hA.1, q.1, hA], ?_, ?_, ?_, ?_, ?_, ?_, ?_, ?_, ?_, ?_, ?_, ?_, ?_, ?_⟩
      · exact fun h => by first | (simpa [upd] using g0 (by simpa using h)) | (simp [upd]; done) | (simp_all [upd]; done)
      · exact fun h => by first | (simpa [upd] using g1 (by simpa using h)) | (simp [upd]; done) | (simp_all [upd]; done)
      · exact fun h => by first | (simpa [upd] using g2 (by simpa using h)) | (simp [upd]; done) | (simp_all [upd]; done)
      · exact fun h => by first | (simpa [upd] using g3 (by simpa using h)) | (simp [upd]; done) | (simp_all [upd]; done)
      · exact fun h => by first | (simpa [upd] using g4 (by simpa using h)) | (simp [upd]; done) | (simp_all [upd]; done)
      · exact fun h => by first | (simpa [upd] using g5 (by simpa using h)) | (simp [upd]; done) | (simp_all [upd]; done)
      · exact fun h => by first | (simpa [upd] using g6 (by simpa using h)) | (simp [upd]; done) | (simp_all [upd]; done)
      · exact fun h => by first | (simpa [upd] using g7 (by simpa using h)) | (simp [upd]; done) | (simp_all [upd]; done)
      · exact fun h => by first | (simpa [upd] using g8 (by simpa using h)) | (simp [upd]; done) | (simp_all [upd]; done)
      · exact fun h => by first | (simpa [upd] using g9 (by simpa using h)) | (simp [upd]; done) | (simp_all [upd]; done)
      · exact fun h => by first | (simpa [upd] using g11 (by simpa using h)) | (simp [upd]; done) | (simp_all [upd]; done)
      · exact fun h => by first | (simpa [upd] using g12 (by simpa using h)) | (simp [upd]; done) | (simp_all [upd]; done)
      · exact fun h => by first | (simpa [upd] using g10 (by simpa using h)) | (simp [upd]; done) | (simp_all [upd]; done)
      · exact fun h => by first | (simpa [upd] using g13 (by simpa using h)) | (simp [upd]; done) | (simp_all [upd]; done)
    · simp [upd, hn, s1, x1, hL]
      refine ⟨b1, b2, bA, bD, (by first | rfl | simp [hn]), by simpa [upd] using s1, by simpa [upd] using s2, ⟨z, by simpa [upd] using xz, zl, zo⟩, by simp [upd, x1, hL], ?_, ?_, ?_, ?_, ?_, ?_, ?_, ?_, ?_, ?_, ?_, ?_, ?_, ?_⟩
      · exact fun h => by first | (simpa [upd] using g0 (by simpa using h)) | (simp [upd]; done) | (simp_all [upd]; done)
      · exact fun h => by first | (simpa [upd] using g1 (by simpa using h)) | (simp [upd]; done) | (simp_all [upd]; done)
      · exact fun h => by first | (simpa [upd] using g2 (by simpa using h)) | (simp [upd]; done) | (simp_all [upd]; done)
      · exact fun h => by first | (simpa [upd] using g3 (by simpa using h)) | (simp [upd]; done) | (simp_all [upd]; done)
      · exact fun h => by first | (simpa [upd] using g4 (by simpa using h)) | (simp [upd]; done) | (simp_all [upd]; done)
      · exact fun h => by first | (simpa [upd] using g5 (by simpa using h)) | (simp [upd]; done) | (simp_all [upd]; done)
      · exact fun h => by first | (simpa [upd] using g6 (by simpa using h)) | (simp [upd]; done) | (simp_all [upd]; done)
      · exact fun h => by first | (simpa [upd] using g7 (by simpa using h)) | (simp [upd]; done) | (simp_all [upd]; done)
      · exact fun h => by first | (simpa [upd] using g8 (by simpa using h)) | (simp [upd]; done) | (simp_all [upd]; done)
      · exact fun h => by first | (simpa [upd] using g9 (by simpa using h)) | (simp [upd]; done) | (simp_all [upd]; done)
      · exact fun h => by first | (simpa [upd] using g11 (by simpa using h)) | (simp [upd]; done) | (simp_all [upd]; done)
      · exact fun h => by first | (simpa [upd] using g12 (by simpa using h)) | (simp [upd]; done) | (simp_all [upd]; done)
      · exact fun h => by first | (simpa [upd] using g10 (by simpa using h)) | (simp [upd]; done) | (simp_all [upd]; done)
      · exact fun h => by first | (simpa [upd] using g13 (by simpa using h)) | (simp [upd]; done) | (simp_all [upd]; done)
    · simp [upd, hn, s1, x1, g11 hA.1]
      refine ⟨b1, b2, bA, bD, (by first | rfl | simp [hn]), by simpa [upd] using s1, by simpa [upd] using s2, ⟨z, by simpa [upd] using xz, zl, zo⟩, by simp [upd, x1, g11 hA.1], ?_, ?_, ?_, ?_, ?_, ?_, ?_, ?_, ?_, ?_, ?_, ?_, ?_, ?_⟩
      · exact fun h => by first | (simpa [upd] using g0 (by simpa using h)) | (simp [upd]; done) | (simp_all [upd]; done)
      · exact fun h => by first | (simpa [upd] using g1 (by simpa using h)) | (simp [upd]; done) | (simp_all [upd]; done)
      · exact fun h => by first | (simpa [upd] using g2 (by simpa using h)) | (simp [upd]; done) | (simp_all [upd]; done)
      · exact fun h => by first | (simpa [upd] using g3 (by simpa using h)) | (simp [upd]; done) | (simp_all [upd]; done)
      · exact fun h => by first | (simpa [upd] using g4 (by simpa using h)) | (simp [upd]; done) | (simp_all [upd]; done)
      · exact fun h => by first | (simpa [upd] using g5 (by simpa using h)) | (simp [upd]; done) | (simp_all [upd]; done)
      · exact fun h => by first | (simpa [upd] using g6 (by simpa using h)) | (simp [upd]; done) | (simp_all [upd]; done)
      · exact fun h => by first | (simpa [upd] using g7 (by simpa using h)) | (simp [upd]; done) | (simp_all [upd]; done)
      · exact fun h => by first | (simpa [upd] using g8 (by simpa using h)) | (simp [upd]; done) | (simp_all [upd]; done)
      · exact fun h => by first | (simpa [upd] using g9 (by simpa using h)) | (simp [upd]; done) | (simp_all [upd]; done)
      · exact fun h => by first | (simpa [upd] using g11 (by simpa using h)) | (simp [upd]; done) | (simp_all [upd]; done)
      · exact fun h => by first | (simpa [upd] using g12 (by simpa using h)) | (simp [upd]; done) | (simp_all [upd]; done)
      · exact fun h => by first | (simpa [upd] using g10 (by simpa using h)) | (simp [upd]; done) | (simp_all [upd]; done)
      · exact fun h => by first | (simpa [upd] using g13 (by simpa using h)) | (simp [upd]; done) | (simp_all [upd]; done)
    · have q := g7 hA.2.1
      simp [upd, hn, s1, x1, g12 hA.1, q.1, hA]
      refine ⟨b1, b2, bA, bD, (by first | rfl | simp [hn]), by simpa [upd] using s1, by simpa [upd] using s2, ⟨z, by simpa [upd] using xz, zl, zo⟩, by simp [upd, x1, g12 hA.1, q.1, hA], ?_, ?_, ?_, ?_, ?_, ?_, ?_, ?_, ?_, ?_, ?_, ?_, ?_, ?_⟩
      · exact fun h => by first | (simpa [upd] using g0 (by simpa using h)) | (simp [upd]; done) | (simp_all [upd]; done)
      · exact fun h => by first | (simpa [upd] using g1 (by simpa using h)) | (simp [upd]; done) | (simp_all [upd]; done)
      · exact fun h => by first | (simpa [upd] using g2 (by simpa using h)) | (simp [upd]; done) | (simp_all [upd]; done)
      · exact fun h => by first | (simpa [upd] using g3 (by simpa using h)) | (simp [upd]; done) | (simp_all [upd]; done)
      · exact fun h => by first | (simpa [upd] using g4 (by simpa using h)) | (simp [upd]; done) | (simp_all [upd]; done)
      · exact fun h => by first | (simpa [upd] using g5 (by simpa using h)) | (simp [upd]; done) | (simp_all [upd]; done)
      · exact fun h => by first | (simpa [upd] using g6 (by simpa using h)) | (simp [upd]; done) | (simp_all [upd]; done)
      · exact fun h => by first | (simpa [upd] using g7 (by simpa using h)) | (simp [upd]; done) | (simp_all [upd]; done)
      · exact fun h => by first | (simpa [upd] using g8 (by simpa using h)) | (simp [upd]; done) | (simp_all [upd]; done)
      · exact fun h => by first | (simpa [upd] using g9 (by simpa using h)) | (simp [upd]; done) | (simp_all [upd]; done)
      · exact fun h => by first | (simpa [upd] using g11 (by simpa using h)) | (simp [upd]; done) | (simp_all [upd]; done)
      · exact fun h => by first | (simpa [upd] using g12 (by simpa using h)) | (simp [upd]; done) | (simp_all [upd]; done)
      · exact fun h => by first | (simpa [upd] using g10 (by simpa using h)) | (simp [upd]; done) | (simp_all [upd]; done)
      · exact fun h => by first | (simpa [upd] using g13 (by simpa using h)) | (simp [upd]; done) | (simp_all [upd]; done)
  · rintro L st hL ⟨b1, b2, bA, bD, hn, s1, s2, ⟨z, xz, zl, zo⟩, x1, -, -, -, g3, -, -, -, g7, -⟩
    simp only [hL 10 (by decide), hL 13 (by decide), if_true] at x1
    have x101 := (g3 (hL 3 (by decide))).2
    have x102 := (g7 (hL 7 (by decide))).2
    simp only [forall_const, reduceCtorEq, false_implies] at x101 x102
    have zd : z.drop 3 = [] := List.drop_eq_nil_of_le (by omega)
    show K st
    apply hK
    clear hK
    repeat (first
      | (refine Tri.seq fun K hK => ?_)
      | (refine Tri.region ?_; simp [upd, hn, s1, s2, x1, xz, zl, zo, zd])
      | (refine Tri.draw (by kernel_rfl) (by decide +kernel) ?_; simp [upd, hn, s1, s2, x1, xz, zl, zo, zd])
      | (refine Tri.cond_true ?_ ?_; (focus simp [upd, hn, s1, s2, x1, xz, zl, zo, zd]; done))
      | (refine Tri.cond_false ?_ ?_; (focus simp [upd, hn, s1, s2, x1, xz, zl, zo, zd]; done))
      | (refine Tri.skip ?_; simp only [thenS, blockS])
      | (refine Tri.block_seq ?_)
      | (refine Tri.block_region ?_)
      | (refine Tri.block_cond ?_)
      | (refine Tri.exit ?_; simp [upd, hn, s1, s2, x1, xz, zl, zo, zd]; first | (rename ∀ st, Tri _ _ _ st _ → _ => hK; first | (apply hK; clear hK) | (clear hK; rename ∀ st, Tri _ _ _ st _ → _ => hK; first | (apply hK; clear hK) | (clear hK; rename ∀ st, Tri _ _ _ st _ → _ => hK; first | (apply hK; clear hK) | (clear hK; rename ∀ st, Tri _ _ _ st _ → _ => hK; first | (apply hK; clear hK) | (clear hK; rename ∀ st, Tri _ _ _ st _ → _ => hK; first | (apply hK; clear hK) | (clear hK; rename ∀ st, Tri _ _ _ st _ → _ => hK; apply hK; clear hK)))))) | skip)
      | (intro β)
      | (rename ∀ st, Tri _ _ _ st _ → _ => hK; apply hK; clear hK))
    refine Tri.ret ⟨.inr rfl, .agg [.int .i64 r.slots, .sl true 8 none (r.atts.map attC), .ms 3 102 bD 0 r.dels.length], ?_, fun i => bD, [102], ?_, ?_, by decide⟩
    · show resV Try.prog _ [.cell 2 28] = _
      simp [upd, s2]
    · simp
      exact .agg3 (.refl _) (.refl _) (Wk.ms _ _ _ _ _ _)
    · intro i cs hi
      match i, hi with
      | 0, hi => cases hi; exact ⟨102, rfl, by simp [x102]⟩
      | i + 1, hi => simp at hi
theorem cp_nz (r : Rec) (h1 : r.an = false) (h2 : r.dn = true) (ha : r.an = true → r.atts = []) (hd : r.dn = true → r.dels = []) (hl1 : r.atts.length ≤ 1073741824) (hl2 : r.dels.length ≤ 1073741824) :
    DoesR Try.prog 16 [.agg (recC r)] (fun β => (.agg [.int .i64 r.slots, .ms 8 0 (β 0) 0 r.atts.length, .sl true 3 none (r.dels.map delC)], [flA r.atts])) := by
  refine DoesR.of_body Try.func16 rfl (by kernel_rfl) rfl rfl (by simp) fun E => ?_
  simp only [recC, h1, h2]
  refine Tri.seq fun K hK => ?_
  refine Tri.region ?_
  simp [upd]
  intro β1 β2
  apply hK
  clear hK K
  refine Tri.seq fun K hK => ?_
  refine Tri.drawAll (by kernel_rfl) (CJ r false true (fun bA => C.ms 8 101 bA 0 r.atts.length) (fun bD => C.sl true 3 none (r.dels.map delC))) (by decide +kernel) ?_ ?_ ?_
  · refine ⟨β1, β2, 0, 0, rfl, by simp [upd], by simp [upd], ⟨_, by simp [upd] <;> exact rfl, by simp, by simp⟩, by simp [upd], ?_, ?_, ?_, ?_, ?_, ?_, ?_, ?_, ?_, ?_, ?_, ?_, ?_, ?_⟩ <;> simp
  · rintro L st ⟨b1, b2, bA, bD, hn, s1, s2, ⟨z, xz, zl, zo⟩, x1, g0, g1, g2, g3, g4, g5, g6, g7, g8, g9, g11, g12, g10, g13⟩
    generalize List.map _ _ = ds
    simp only [DrawAll, StepF_eq]
    refine ⟨?_, ?_, ?_, ?_, ?_, ?_, ?_, ?_, ?_, ?_, ?_, ?_, ?_, ?_, trivial⟩
    all_goals (intro hL hA; simp [afterOk, Region.binds] at hA)
    · simp [upd, hn, s1, x1, hL]
      refine ⟨b1, b2, bA, bD, (by first | rfl | simp [hn]), by simpa [upd] using s1, by simpa [upd] using s2, ⟨z, by simpa [upd] using xz, zl, zo⟩, by simp [upd, x1, hL], ?_, ?_, ?_, ?_, ?_, ?_, ?_, ?_, ?_, ?_, ?_, ?_, ?_, ?_⟩
      · exact fun h => by first | (simpa [upd] using g0 (by simpa using h)) | (simp [upd]; done) | (simp_all [upd]; done)
      · exact fun h => by first | (simpa [upd] using g1 (by simpa using h)) | (simp [upd]; done) | (simp_all [upd]; done)
      · exact fun h => by first | (simpa [upd] using g2 (by simpa using h)) | (simp [upd]; done) | (simp_all [upd]; done)
      · exact fun h => by first | (simpa [upd] using g3 (by simpa using h)) | (simp [upd]; done) | (simp_all [upd]; done)
      · exact fun h => by first | (simpa [upd] using g4 (by simpa using h)) | (simp [upd]; done) | (simp_all [upd]; done)
      · exact fun h => by first | (simpa [upd] using g5 (by simpa using h)) | (simp [upd]; done) | (simp_all [upd]; done)
      · exact fun h => by first | (simpa [upd] using g6 (by simpa using h)) | (simp [upd]; done) | (simp_all [upd]; done)
      · exact fun h => by first | (simpa [upd] using g7 (by simpa using h)) | (simp [upd]; done) | (simp_all [upd]; done)
      · exact fun h => by first | (simpa [upd] using g8 (by simpa using h)) | (simp [upd]; done) | (simp_all [upd]; done)
      · exact fun h => by first | (simpa [upd] using g9 (by simpa using h)) | (simp [upd]; done) | (simp_all [upd]; done)
      · exact fun h => by first | (simpa [upd] using g11 (by simpa using h)) | (simp [upd]; done) | (simp_all [upd]; done)
      · exact fun h => by first | (simpa [upd] using g12 (by simpa using h)) | (simp [upd]; done) | (simp_all [upd]; done)
      · exact fun h => by first | (simpa [upd] using g10 (by simpa using h)) | (simp [upd]; done) | (simp_all [upd]; done)
      · exact fun h => by first | (simpa [upd] using g13 (by simpa using h)) | (simp [upd]; done) | (simp_all [upd]; done)
    · simp [upd, hn, s1, x1, g0 hA]
      refine ⟨b1, b2, bA, bD, (by first | rfl | simp [hn]), by simpa [upd] using s1, by simpa [upd] using s2, ⟨z, by simpa [upd] using xz, zl, zo⟩, by simp [upd, x1, g0 hA], ?_, ?_, ?_, ?_, ?_, ?_, ?_, ?_, ?_, ?_, ?_, ?_, ?_, ?_⟩
      · exact fun h => by first | (simpa [upd] using g0 (by simpa using h)) | (simp [upd]; done) | (simp_all [upd]; done)
      · exact fun h => by first | (simpa [upd] using g1 (by simpa using h)) | (simp [upd]; done) | (simp_all [upd]; done)
      · exact fun h => by first | (simpa [upd] using g2 (by simpa using h)) | (simp [upd]; done) | (simp_all [upd]; done)
      · exact fun h => by first | (simpa [upd] using g3 (by simpa using h)) | (simp [upd]; done) | (simp_all [upd]; done)
      · exact fun h => by first | (simpa [upd] using g4 (by simpa using h)) | (simp [upd]; done) | (simp_all [upd]; done)
      · exact fun h => by first | (simpa [upd] using g5 (by simpa using h)) | (simp [upd]; done) | (simp_all [upd]; done)
      · exact fun h => by first | (simpa [upd] using g6 (by simpa using h)) | (simp [upd]; done) | (simp_all [upd]; done)
      · exact fun h => by first | (simpa [upd] using g7 (by simpa using h)) | (simp [upd]; done) | (simp_all [upd]; done)
      · exact fun h => by first | (simpa [upd] using g8 (by simpa using h)) | (simp [upd]; done) | (simp_all [upd]; done)
      · exact fun h => by first | (simpa [upd] using g9 (by simpa using h)) | (simp [upd]; done) | (simp_all [upd]; done)
      · exact fun h => by first | (simpa [upd] using g11 (by simpa using h)) | (simp [upd]; done) | (simp_all [upd]; done)
      · exact fun h => by first | (simpa [upd] using g12 (by simpa using h)) | (simp [upd]; done) | (simp_all [upd]; done)
      · exact fun h => by first | (simpa [upd] using g10 (by simpa using h)) | (simp [upd]; done) | (simp_all [upd]; done)
      · exact fun h => by first | (simpa [upd] using g13 (by simpa using h)) | (simp [upd]; done) | (simp_all [upd]; done)
    · have n10 : L 10 = false := by
        cases h : L 10 with
        | false => rfl
        | true => exact absurd (g10 h).1 (by simp [hL])
      simp [upd, hn, s1, x1, g1 hA, n10]
      refine ⟨b1, b2, bA, bD, (by first | rfl | simp [hn]), by simpa [upd] using s1, by simpa [upd] using s2, ⟨z, by simpa [upd] using xz, zl, zo⟩, by simp [upd, x1, g1 hA, n10], ?_, ?_, ?_, ?_, ?_, ?_, ?_, ?_, ?_, ?_, ?_, ?_, ?_, ?_⟩
      · exact fun h => by first | (simpa [upd] using g0 (by simpa using h)) | (simp [upd]; done) | (simp_all [upd]; done)
      · exact fun h => by first | (simpa [upd] using g1 (by simpa using h)) | (simp [upd]; done) | (simp_all [upd]; done)
      · exact fun h => by first | (simpa [upd] using g2 (by simpa using h)) | (simp [upd]; done) | (simp_all [upd]; done)
      · exact fun h => by first | (simpa [upd] using g3 (by simpa using h)) | (simp [upd]; done) | (simp_all [upd]; done)
      · exact fun h => by first | (simpa [upd] using g4 (by simpa using h)) | (simp [upd]; done) | (simp_all [upd]; done)
      · exact fun h => by first | (simpa [upd] using g5 (by simpa using h)) | (simp [upd]; done) | (simp_all [upd]; done)
      · exact fun h => by first | (simpa [upd] using g6 (by simpa using h)) | (simp [upd]; done) | (simp_all [upd]; done)
      · exact fun h => by first | (simpa [upd] using g7 (by simpa using h)) | (simp [upd]; done) | (simp_all [upd]; done)
      · exact fun h => by first | (simpa [upd] using g8 (by simpa using h)) | (simp [upd]; done) | (simp_all [upd]; done)
      · exact fun h => by first | (simpa [upd] using g9 (by simpa using h)) | (simp [upd]; done) | (simp_all [upd]; done)
      · exact fun h => by first | (simpa [upd] using g11 (by simpa using h)) | (simp [upd]; done) | (simp_all [upd]; done)
      · exact fun h => by first | (simpa [upd] using g12 (by simpa using h)) | (simp [upd]; done) | (simp_all [upd]; done)
      · exact fun h => by first | (simpa [upd] using g10 (by simpa using h)) | (simp [upd]; done) | (simp_all [upd]; done)
      · exact fun h => by first | (simpa [upd] using g13 (by simpa using h)) | (simp [upd]; done) | (simp_all [upd]; done)
    · have n10 : L 10 = false := by
        cases h : L 10 with
        | false => rfl
        | true => exact absurd (g10 h).2 (by simp [hL])
      simp [upd, hn, s1, x1, g2 hA]
      refine CallK.fresh (cloneA_new r.atts hl1) [101] (fun β => .c (.ms 8 101 (β 0) 0 r.atts.length)) (Wks.refl _) (fun β => Wk.ms _ _ _ _ _ _) (fun _ => rfl) ?_
      intro β
      simp [upd]
      refine ⟨b1, b2, β 0, bD, (by first | rfl | simp [hn]), by simpa [upd] using s1, by simpa [upd] using s2, ⟨z, by simpa [upd] using xz, zl, zo⟩, by simp [upd, x1, n10], ?_, ?_, ?_, ?_, ?_, ?_, ?_, ?_, ?_, ?_, ?_, ?_, ?_, ?_⟩
      · exact fun h => by first | (simpa [upd] using g0 (by simpa using h)) | (simp [upd]; done) | (simp_all [upd]; done)
      · exact fun h => by first | (simpa [upd] using g1 (by simpa using h)) | (simp [upd]; done) | (simp_all [upd]; done)
      · exact fun h => by first | (simpa [upd] using g2 (by simpa using h)) | (simp [upd]; done) | (simp_all [upd]; done)
      · exact fun h => by first | (simpa [upd] using g3 (by simpa using h)) | (simp [upd]; done) | (simp_all [upd]; done)
      · exact fun h => by first | (simpa [upd] using g4 (by simpa using h)) | (simp [upd]; done) | (simp_all [upd]; done)
      · exact fun h => by first | (simpa [upd] using g5 (by simpa using h)) | (simp [upd]; done) | (simp_all [upd]; done)
      · exact fun h => by first | (simpa [upd] using g6 (by simpa using h)) | (simp [upd]; done) | (simp_all [upd]; done)
      · exact fun h => by first | (simpa [upd] using g7 (by simpa using h)) | (simp [upd]; done) | (simp_all [upd]; done)
      · exact fun h => by first | (simpa [upd] using g8 (by simpa using h)) | (simp [upd]; done) | (simp_all [upd]; done)
      · exact fun h => by first | (simpa [upd] using g9 (by simpa using h)) | (simp [upd]; done) | (simp_all [upd]; done)
      · exact fun h => by first | (simpa [upd] using g11 (by simpa using h)) | (simp [upd]; done) | (simp_all [upd]; done)
      · exact fun h => by first | (simpa [upd] using g12 (by simpa using h)) | (simp [upd]; done) | (simp_all [upd]; done)
      · exact fun h => by first | (simpa [upd] using g10 (by simpa using h)) | (simp [upd]; done) | (simp_all [upd]; done)
      · exact fun h => by first | (simpa [upd] using g13 (by simpa using h)) | (simp [upd]; done) | (simp_all [upd]; done)
    · simp [upd, hn, s1, x1, hL]
      refine ⟨b1, b2, bA, bD, (by first | rfl | simp [hn]), by simpa [upd] using s1, by simpa [upd] using s2, ⟨z, by simpa [upd] using xz, zl, zo⟩, by simp [upd, x1, hL], ?_, ?_, ?_, ?_, ?_, ?_, ?_, ?_, ?_, ?_, ?_, ?_, ?_, ?_⟩
      · exact fun h => by first | (simpa [upd] using g0 (by simpa using h)) | (simp [upd]; done) | (simp_all [upd]; done)
      · exact fun h => by first | (simpa [upd] using g1 (by simpa using h)) | (simp [upd]; done) | (simp_all [upd]; done)
      · exact fun h => by first | (simpa [upd] using g2 (by simpa using h)) | (simp [upd]; done) | (simp_all [upd]; done)
      · exact fun h => by first | (simpa [upd] using g3 (by simpa using h)) | (simp [upd]; done) | (simp_all [upd]; done)
      · exact fun h => by first | (simpa [upd] using g4 (by simpa using h)) | (simp [upd]; done) | (simp_all [upd]; done)
      · exact fun h => by first | (simpa [upd] using g5 (by simpa using h)) | (simp [upd]; done) | (simp_all [upd]; done)
      · exact fun h => by first | (simpa [upd] using g6 (by simpa using h)) | (simp [upd]; done) | (simp_all [upd]; done)
      · exact fun h => by first | (simpa [upd] using g7 (by simpa using h)) | (simp [upd]; done) | (simp_all [upd]; done)
      · exact fun h => by first | (simpa [upd] using g8 (by simpa using h)) | (simp [upd]; done) | (simp_all [upd]; done)
      · exact fun h => by first | (simpa [upd] using g9 (by simpa using h)) | (simp [upd]; done) | (simp_all [upd]; done)
      · exact fun h => by first | (simpa [upd] using g11 (by simpa using h)) | (simp [upd]; done) | (simp_all [upd]; done)
      · exact fun h => by first | (simpa [upd] using g12 (by simpa using h)) | (simp [upd]; done) | (simp_all [upd]; done)
      · exact fun h => by first | (simpa [upd] using g10 (by simpa using h)) | (simp [upd]; done) | (simp_all [upd]; done)
      · exact fun h => by first | (simpa [upd] using g13 (by simpa using h)) | (simp [upd]; done) | (simp_all [upd]; done)
    · simp [upd, hn, s1, x1, g4 hA]
      refine ⟨b1, b2, bA, bD, (by first | rfl | simp [hn]), by simpa [upd] using s1, by simpa [upd] using s2, ⟨z, by simpa [upd] using xz, zl, zo⟩, by simp [upd, x1, g4 hA], ?_, ?_, ?_, ?_, ?_, ?_, ?_, ?_, ?_, ?_, ?_, ?_, ?_, ?_⟩
      · exact fun h => by first | (simpa [upd] using g0 (by simpa using h)) | (simp [upd]; done) | (simp_all [upd]; done)
      · exact fun h => by first | (simpa [upd] using g1 (by simpa using h)) | (simp [upd]; done) | (simp_all [upd]; done)
      · exact fun h => by first | (simpa [upd] using g2 (by simpa using h)) | (simp [upd]; done) | (simp_all [upd]; done)
      · exact fun h => by first | (simpa [upd] using g3 (by simpa using h)) | (simp [upd]; done) | (simp_all [upd]; done)
      · exact fun h => by first | (simpa [upd] using g4 (by simpa using h)) | (simp [upd]; done) | (simp_all [upd]; done)
      · exact fun h => by first | (simpa [upd] using g5 (by simpa using h)) | (simp [upd]; done) | (simp_all [upd]; done)
      · exact fun h => by first | (simpa [upd] using g6 (by simpa using h)) | (simp [upd]; done) | (simp_all [upd]; done)
      · exact fun h => by first | (simpa [upd] using g7 (by simpa using h)) | (simp [upd]; done) | (simp_all [upd]; done)
      · exact fun h => by first | (simpa [upd] using g8 (by simpa using h)) | (simp [upd]; done) | (simp_all [upd]; done)
      · exact fun h => by first | (simpa [upd] using g9 (by simpa using h)) | (simp [upd]; done) | (simp_all [upd]; done)
      · exact fun h => by first | (simpa [upd] using g11 (by simpa using h)) | (simp [upd]; done) | (simp_all [upd]; done)
      · exact fun h => by first | (simpa [upd] using g12 (by simpa using h)) | (simp [upd]; done) | (simp_all [upd]; done)
      · exact fun h => by first | (simpa [upd] using g10 (by simpa using h)) | (simp [upd]; done) | (simp_all [upd]; done)
      · exact fun h => by first | (simpa [upd] using g13 (by simpa using h)) | (simp [upd]; done) | (simp_all [upd]; done)
    · have n13 : L 13 = false := by
        cases h : L 13 with
        | false => rfl
        | true => exact absurd (g13 h).1 (by simp [hL])
      simp [upd, hn, s1, x1, g5 hA, n13]
      refine ⟨b1, b2, bA, bD, (by first | rfl | simp [hn]), by simpa [upd] using s1, by simpa [upd] using s2, ⟨z, by simpa [upd] using xz, zl, zo⟩, by simp [upd, x1, g5 hA, n13], ?_, ?_, ?_, ?_, ?_, ?_, ?_, ?_, ?_, ?_, ?_, ?_, ?_, ?_⟩
      · exact fun h => by first | (simpa [upd] using g0 (by simpa using h)) | (simp [upd]; done) | (simp_all [upd]; done)
      · exact fun h => by first | (simpa [upd] using g1 (by simpa using h)) | (simp [upd]; done) | (simp_all [upd]; done)
      · exact fun h => by first | (simpa [upd] using g2 (by simpa using h)) | (simp [upd]; done) | (simp_all [upd]; done)
      · exact fun h => by first | (simpa [upd] using g3 (by simpa using h)) | (simp [upd]; done) | (simp_all [upd]; done)
      · exact fun h => by first | (simpa [upd] using g4 (by simpa using h)) | (simp [upd]; done) | (simp_all [upd]; done)
      · exact fun h => by first | (simpa [upd] using g5 (by simpa using h)) | (simp [upd]; done) | (simp_all [upd]; done)
      · exact fun h => by first | (simpa [upd] using g6 (by simpa using h)) | (simp [upd]; done) | (simp_all [upd]; done)
      · exact fun h => by first | (simpa [upd] using g7 (by simpa using h)) | (simp [upd]; done) | (simp_all [upd]; done)
      · exact fun h => by first | (simpa [upd] using g8 (by simpa using h)) | (simp [upd]; done) | (simp_all [upd]; done)
      · exact fun h => by first | (simpa [upd] using g9 (by simpa using h)) | (simp [upd]; done) | (simp_all [upd]; done)
      · exact fun h => by first | (simpa [upd] using g11 (by simpa using h)) | (simp [upd]; done) | (simp_all [upd]; done)
      · exact fun h => by first | (simpa [upd] using g12 (by simpa using h)) | (simp [upd]; done) | (simp_all [upd]; done)
      · exact fun h => by first | (simpa [upd] using g10 (by simpa using h)) | (simp [upd]; done) | (simp_all [upd]; done)
      · exact fun h => by first | (simpa [upd] using g13 (by simpa using h)) | (simp [upd]; done) | (simp_all [upd]; done)
    · have n13 : L 13 = false := by
        cases h : L 13 with
        | false => rfl
        | true => exact absurd (g13 h).2 (by simp [hL])
      simp [upd, hn, s1, x1, g6 hA.1]
      refine CallK.pure (cloneD_does r.dels true (fun _ => hd h2) hl2) (Wks.refl _) ?_
      simp [upd]
      refine ⟨b1, b2, bA, bD, (by first | rfl | simp [hn]), by simpa [upd] using s1, by simpa [upd] using s2, ⟨z, by simpa [upd] using xz, zl, zo⟩, by simp [upd, x1, n13], ?_, ?_, ?_, ?_, ?_, ?_, ?_, ?_, ?_, ?_, ?_, ?_, ?_, ?_⟩
      · exact fun h => by first | (simpa [upd] using g0 (by simpa using h)) | (simp [upd]; done) | (simp_all [upd]; done)
      · exact fun h => by first | (simpa [upd] using g1 (by simpa using h)) | (simp [upd]; done) | (simp_all [upd]; done)
      · exact fun h => by first | (simpa [upd] using g2 (by simpa using h)) | (simp [upd]; done) | (simp_all [upd]; done)
      · exact fun h => by first | (simpa [upd] using g3 (by simpa using h)) | (simp [upd]; done) | (simp_all [upd]; done)
      · exact fun h => by first | (simpa [upd] using g4 (by simpa using h)) | (simp [upd]; done) | (simp_all [upd]; done)
      · exact fun h => by first | (simpa [upd] using g5 (by simpa using h)) | (simp [upd]; done) | (simp_all [upd]; done)
      · exact fun h => by first | (simpa [upd] using g6 (by simpa using h)) | (simp [upd]; done) | (simp_all [upd]; done)
      · exact fun h => by first | (simpa [upd] using g7 (by simpa using h)) | (simp [upd]; done) | (simp_all [upd]; done)
      · exact fun h => by first | (simpa [upd] using g8 (by simpa using h)) | (simp [upd]; done) | (simp_all [upd]; done)
      · exact fun h => by first | (simpa [upd] using g9 (by simpa using h)) | (simp [upd]; done) | (simp_all [upd]; done)
      · exact fun h => by first | (simpa [upd] using g11 (by simpa using h)) | (simp [upd]; done) | (simp_all [upd]; done)
      · exact fun h => by first | (simpa [upd] using g12 (by simpa using h)) | (simp [upd]; done) | (simp_all [upd]; done)
      · exact fun h => by first | (simpa [upd] using g10 (by simpa using h)) | (simp [upd]; done) | (simp_all [upd]; done)
      · exact fun h => by first | (simpa [upd] using g13 (by simpa using h)) | (simp [upd]; done) | (simp_all [upd]; done)
    · simp [upd, hn, s1, x1, hL]
      refine ⟨b1, b2, bA, bD, (by first | rfl | simp [hn]), by simpa [upd] using s1, by simpa [upd] using s2, ⟨z, by simpa [upd] using xz, zl, zo⟩, by simp [upd, x1, hL], ?_, ?_, ?_, ?_, ?_, ?_, ?_, ?_, ?_, ?_, ?_, ?_, ?_, ?_⟩
      · exact fun h => by first | (simpa [upd] using g0 (by simpa using h)) | (simp [upd]; done) | (simp_all [upd]; done)
      · exact fun h => by first | (simpa [upd] using g1 (by simpa using h)) | (simp [upd]; done) | (simp_all [upd]; done)
      · exact fun h => by first | (simpa [upd] using g2 (by simpa using h)) | (simp [upd]; done) | (simp_all [upd]; done)
      · exact fun h => by first | (simpa [upd] using g3 (by simpa using h)) | (simp [upd]; done) | (simp_all [upd]; done)
      · exact fun h => by first | (simpa [upd] using g4 (by simpa using h)) | (simp [upd]; done) | (simp_all [upd]; done)
      · exact fun h => by first | (simpa [upd] using g5 (by simpa using h)) | (simp [upd]; done) | (simp_all [upd]; done)
      · exact fun h => by first | (simpa [upd] using g6 (by simpa using h)) | (simp [upd]; done) | (simp_all [upd]; done)
      · exact fun h => by first | (simpa [upd] using g7 (by simpa using h)) | (simp [upd]; done) | (simp_all [upd]; done)
      · exact fun h => by first | (simpa [upd] using g8 (by simpa using h)) | (simp [upd]; done) | (simp_all [upd]; done)
      · exact fun h => by first | (simpa [upd] using g9 (by simpa using h)) | (simp [upd]; done) | (simp_all [upd]; done)
      · exact fun h => by first | (simpa [upd] using g11 (by simpa using h)) | (simp [upd]; done) | (simp_all [upd]; done)
      · exact fun h => by first | (simpa [upd] using g12 (by simpa using h)) | (simp [upd]; done) | (simp_all [upd]; done)
      · exact fun h => by first | (simpa [upd] using g10 (by simpa using h)) | (simp [upd]; done) | (simp_all [upd]; done)
      · exact fun h => by first | (simpa [upd] using g13 (by simpa using h)) | (simp [upd]; done) | (simp_all [upd]; done)
    · simp [upd, hn, s1, x1, g8 hA.1]
      refine ⟨b1, b2, bA, bD, (by first | rfl | simp [hn]), by simpa [upd] using s1, by simpa [upd] using s2, ⟨z, by simpa [upd] using xz, zl, zo⟩, by simp [upd, x1, g8 hA.1], ?_, ?_, ?_, ?_, ?_, ?_, ?_, ?_, ?_, ?_, ?_, ?_, ?_, ?_⟩
      · exact fun h => by first | (simpa [upd] using g0 (by simpa using h)) | (simp [upd]; done) | (simp_all [upd]; done)
      · exact fun h => by first | (simpa [upd] using g1 (by simpa using h)) | (simp [upd]; done) | (simp_all [upd]; done)
      · exact fun h => by first | (simpa [upd] using g2 (by simpa using h)) | (simp [upd]; done) | (simp_all [upd]; done)
      · exact fun h => by first | (simpa [upd] using g3 (by simpa using h)) | (simp [upd]; done) | (simp_all [upd]; done)
      · exact fun h => by first | (simpa [upd] using g4 (by simpa using h)) | (simp [upd]; done) | (simp_all [upd]; done)
      · exact fun h => by first | (simpa [upd] using g5 (by simpa using h)) | (simp [upd]; done) | (simp_all [upd]; done)
      · exact fun h => by first | (simpa [upd] using g6 (by simpa using h)) | (simp [upd]; done) | (simp_all [upd]; done)
      · exact fun h => by first | (simpa [upd] using g7 (by simpa using h)) | (simp [upd]; done) | (simp_all [upd]; done)
      · exact fun h => by first | (simpa [upd] using g8 (by simpa using h)) | (simp [upd]; done) | (simp_all [upd]; done)
      · exact fun h => by first | (simpa [upd] using g9 (by simpa using h)) | (simp [upd]; done) | (simp_all [upd]; done)
      · exact fun h => by first | (simpa [upd] using g11 (by simpa using h)) | (simp [upd]; done) | (simp_all [upd]; done)
      · exact fun h => by first | (simpa [upd] using g12 (by simpa using h)) | (simp [upd]; done) | (simp_all [upd]; done)
      · exact fun h => by first | (simpa [upd] using g10 (by simpa using h)) | (simp [upd]; done) | (simp_all [upd]; done)
      · exact fun h => by first | (simpa [upd] using g13 (by simpa using h)) | (simp [upd]; done) | (simp_all [upd]; done)
    · have q := g3 hA.2.1
      simp [upd, hn, s1, x1, g9 hA.1, q.1, hA]
      refine ⟨b1, b2, bA, bD, (by first | rfl | simp [hn]), by simpa [upd] using s1, by simpa [upd] using s2, ⟨z, by simpa [upd] using xz, zl, zo⟩, by simp [upd, x1, g9 hA.1, q.1, hA], ?_, ?_, ?_, ?_, ?_, ?_, ?_, ?_, ?_, ?_, ?_, ?_, ?_, ?_⟩
      · exact fun h => by first | (simpa [upd] using g0 (by simpa using h)) | (simp [upd]; done) | (simp_all [upd]; done)
      · exact fun h => by first | (simpa [upd] using g1 (by simpa using h)) | (simp [upd]; done) | (simp_all [upd]; done)
      · exact fun h => by first | (simpa [upd] using g2 (by simpa using h)) | (simp [upd]; done) | (simp_all [upd]; done)
      · exact fun h => by first | (simpa [upd] using g3 (by simpa using h)) | (simp [upd]; done) | (simp_all [upd]; done)
      · exact fun h => by first | (simpa [upd] using g4 (by simpa using h)) | (simp [upd]; done) | (simp_all [upd]; done)
      · exact fun h => by first | (simpa [upd] using g5 (by simpa using h)) | (simp [upd]; done) | (simp_all [upd]; done)
      · exact fun h => by first | (simpa [upd] using g6 (by simpa using h)) | (simp [upd]; done) | (simp_all [upd]; done)
      · exact fun h => by first | (simpa [upd] using g7 (by simpa using h)) | (simp [upd]; done) | (simp_all [upd]; done)
      · exact fun h => by first | (simpa [upd] using g8 (by simpa using h)) | (simp [upd]; done) | (simp_all [upd]; done)
      · exact fun h => by first | (simpa [upd] using g9 (by simpa using h)) | (simp [upd]; done) | (simp_all [upd]; done)
      · exact fun h => by first | (simpa [upd] using g11 (by simpa using h)) | (simp [upd]; done) | (simp_all [upd]; done)
      · exact fun h => by first | (simpa [upd] using g12 (by simpa using h)) | (simp [upd]; done) | (simp_all [upd]; done)
      · exact fun h => by first | (simpa [upd] using g10 (by simpa using h)) | (simp [upd]; done) | (simp_all [upd]; done)
      · exact fun h => by first | (simpa [upd] using g13 (by simpa using h)) | (simp [upd]; done) | (simp_all [upd]; done)
    · simp [upd, hn, s1, x1, hL]
      refine ⟨b1, b2, bA, bD, (by first | rfl | simp [hn]), by simpa [upd] using s1, by simpa [upd] using s2, ⟨z, by simpa [upd] using xz, zl, zo⟩, by simp [upd, x1, hL], ?_, ?_, ?_, ?_, ?_, ?_, ?_, ?_, ?_, ?_, ?_, ?_, ?_, ?_⟩
      · exact fun h => by first | (simpa [upd] using g0 (by simpa using h)) | (simp [upd]; done) | (simp_all [upd]; done)
      · exact fun h => by first | (simpa [upd] using g1 (by simpa using h)) | (simp [upd]; done) | (simp_all [upd]; done)
      · exact fun h => by first | (simpa [upd] using g2 (by simpa using h)) | (simp [upd]; done) | (simp_all [upd]; done)
      · exact fun h => by first | (simpa [upd] using g3 (by simpa using h)) | (simp [upd]; done) | (simp_all [upd]; done)
      · exact fun h => by first | (simpa [upd] using g4 (by simpa using h)) | (simp [upd]; done) | (simp_all [upd]; done)
      · exact fun h => by first | (simpa [upd] using g5 (by simpa using h)) | (simp [upd]; done) | (simp_all [upd]; done)
      · exact fun h => by first | (simpa [upd] using g6 (by simpa using h)) | (simp [upd]; done) | (simp_all [upd]; done)
      · exact fun h => by first | (simpa [upd] using g7 (by simpa using h)) | (simp [upd]; done) | (simp_all [upd]; done)
      · exact fun h => by first | (simpa [upd] using g8 (by simpa using h)) | (simp [upd]; done) | (simp_all [upd]; done)
      · exact fun h => by first | (simpa [upd] using g9 (by simpa using h)) | (simp [upd]; done) | (simp_all [upd]; done)
      · exact fun h => by first | (simpa [upd] using g11 (by simpa using h)) | (simp [upd]; done) | (simp_all [upd]; done)
      · exact fun h => by first | (simpa [upd] using g12 (by simpa using h)) | (simp [upd]; done) | (simp_all [upd]; done)
      · exact fun h => by first | (simpa [upd] using g10 (by simpa using h)) | (simp [upd]; done) | (simp_all [upd]; done)
      · exact fun h => by first | (simpa [upd] using g13 (by simpa using h)) | (simp [upd]; done) | (simp_all [upd]; done)
    · simp [upd, hn, s1, x1, g11 hA.1]
      refine ⟨b1, b2, bA, bD, (by first | rfl | simp [hn]), by simpa [upd] using s1, by simpa [upd] using s2, ⟨z, by simpa [upd] using xz, zl, zo⟩, by simp [upd, x1, g11 hA.1], ?_, ?_, ?_, ?_, ?_, ?_, ?_, ?_, ?_, ?_, ?_, ?_, ?_, ?_⟩
      · exact fun h => by first | (simpa [upd] using g0 (by simpa using h)) | (simp [upd]; done) | (simp_all [upd]; done)
      · exact fun h => by first | (simpa [upd] using g1 (by simpa using h)) | (simp [upd]; done) | (simp_all [upd]; done)
      · exact fun h => by first | (simpa [upd] using g2 (by simpa using h)) | (simp [upd]; done) | (simp_all [upd]; done)
      · exact fun h => by first | (simpa [upd] using g3 (by simpa using h)) | (simp [upd]; done) | (simp_all [upd]; done)
      · exact fun h => by first | (simpa [upd] using g4 (by simpa using h)) | (simp [upd]; done) | (simp_all [upd]; done)
      · exact fun h => by first | (simpa [upd] using g5 (by simpa using h)) | (simp [upd]; done) | (simp_all [upd]; done)
      · exact fun h => by first | (simpa [upd] using g6 (by simpa using h)) | (simp [upd]; done) | (simp_all [upd]; done)
      · exact fun h => by first | (simpa [upd] using g7 (by simpa using h)) | (simp [upd]; done) | (simp_all [upd]; done)
      · exact fun h => by first | (simpa [upd] using g8 (by simpa using h)) | (simp [upd]; done) | (simp_all [upd]; done)
      · exact fun h => by first | (simpa [upd] using g9 (by simpa using h)) | (simp [upd]; done) | (simp_all [upd]; done)
      · exact fun h => by first | (simpa [upd] using g11 (by simpa using h)) | (simp [upd]; done) | (simp_all [upd]; done)
      · exact fun h => by first | (simpa [upd] using g12 (by simpa using h)) | (simp [upd]; done) | (simp_all [upd]; done)
      · exact fun h => by first | (simpa [upd] using g10 (by simpa using h)) | (simp [upd]; done) | (simp_all [upd]; done)
      · exact fun h => by first | (simpa [upd] using g13 (by simpa using h)) | (simp [upd]; done) | (simp_all [upd]; done)
    · have q := g7 hA.2.1
      simp [upd, hn, s1, x1, g12 hA.1, q.1, hA]
      refine ⟨b1, b2, bA, bD, (by first | rfl | simp [hn]), by simpa [upd] using s1, by simpa [upd] using s2, ⟨z, by simpa [upd] using xz, zl, zo⟩, by simp [upd, x1, g12 hA.1, q.1, hA], ?_, ?_, ?_, ?_, ?_, ?_, ?_, ?_, ?_, ?_, ?_, ?_, ?_, ?_⟩
      · exact fun h => by first | (simpa [upd] using g0 (by simpa using h)) | (simp [upd]; done) | (simp_all [upd]; done)
      · exact fun h => by first | (simpa [upd] using g1 (by simpa using h)) | (simp [upd]; done) | (simp_all [upd]; done)
      · exact fun h => by first | (simpa [upd] using g2 (by simpa using h)) | (simp [upd]; done) | (simp_all [upd]; done)
      · exact fun h => by first | (simpa [upd] using g3 (by simpa using h)) | (simp [upd]; done) | (simp_all [upd]; done)
      · exact fun h => by first | (simpa [upd] using g4 (by simpa using h)) | (simp [upd]; done) | (simp_all [upd]; done)
      · exact fun h => by first | (simpa [upd] using g5 (by simpa using h)) | (simp [upd]; done) | (simp_all [upd]; done)
      · exact fun h => by first | (simpa [upd] using g6 (by simpa using h)) | (simp [upd]; done) | (simp_all [upd]; done)
      · exact fun h => by first | (simpa [upd] using g7 (by simpa using h)) | (simp [upd]; done) | (simp_all [upd]; done)
      · exact fun h => by first | (simpa [upd] using g8 (by simpa using h)) | (simp [upd]; done) | (simp_all [upd]; done)
      · exact fun h => by first | (simpa [upd] using g9 (by simpa using h)) | (simp [upd]; done) | (simp_all [upd]; done)
      · exact fun h => by first | (simpa [upd] using g11 (by simpa using h)) | (simp [upd]; done) | (simp_all [upd]; done)
      · exact fun h => by first | (simpa [upd] using g12 (by simpa using h)) | (simp [upd]; done) | (simp_all [upd]; done)
      · exact fun h => by first | (simpa [upd] using g10 (by simpa using h)) | (simp [upd]; done) | (simp_all [upd]; done)
      · exact fun h => by first | (simpa [upd] using g13 (by simpa using h)) | (simp [upd]; done) | (simp_all [upd]; done)
  · rintro L st hL ⟨b1, b2, bA, bD, hn, s1, s2, ⟨z, xz, zl, zo⟩, x1, -, -, -, g3, -, -, -, g7, -⟩
    simp only [hL 10 (by decide), hL 13 (by decide), if_true] at x1
    have x101 := (g3 (hL 3 (by decide))).2
    have x102 := (g7 (hL 7 (by decide))).2
    simp only [forall_const, reduceCtorEq, false_implies] at x101 x102
    have zd : z.drop 3 = [] := List.drop_eq_nil_of_le (by omega)
    show K st
    apply hK
    clear hK
    repeat (first
      | (refine Tri.seq fun K hK => ?_)
      | (refine Tri.region ?_; simp [upd, hn, s1, s2, x1, xz, zl, zo, zd])
      | (refine Tri.draw (by kernel_rfl) (by decide +kernel) ?_; simp [upd, hn, s1, s2, x1, xz, zl, zo, zd])
      | (refine Tri.cond_true ?_ ?_; (focus simp [upd, hn, s1, s2, x1, xz, zl, zo, zd]; done))
      | (refine Tri.cond_false ?_ ?_; (focus simp [upd, hn, s1, s2, x1, xz, zl, zo, zd]; done))
      | (refine Tri.skip ?_; simp only [thenS, blockS])
      | (refine Tri.block_seq ?_)
      | (refine Tri.block_region ?_)
      | (refine Tri.block_cond ?_)
      | (refine Tri.exit ?_; simp [upd, hn, s1, s2, x1, xz, zl, zo, zd]; first | (rename ∀ st, Tri _ _ _ st _ → _ => hK; first | (apply hK; clear hK) | (clear hK; rename ∀ st, Tri _ _ _ st _ → _ => hK; first | (apply hK; clear hK) | (clear hK; rename ∀ st, Tri _ _ _ st _ → _ => hK; first | (apply hK; clear hK) | (clear hK; rename ∀ st, Tri _ _ _ st _ → _ => hK; first | (apply hK; clear hK) | (clear hK; rename ∀ st, Tri _ _ _ st _ → _ => hK; first | (apply hK; clear hK) | (clear hK; rename ∀ st, Tri _ _ _ st _ → _ => hK; apply hK; clear hK)))))) | skip)
      | (intro β)
      | (rename ∀ st, Tri _ _ _ st _ → _ => hK; apply hK; clear hK))
    refine Tri.ret ⟨.inr rfl, .agg [.int .i64 r.slots, .ms 8 101 bA 0 r.atts.length, .sl true 3 none (r.dels.map delC)], ?_, fun i => bA, [101], ?_, ?_, by decide⟩
    · show resV Try.prog _ [.cell 2 28] = _
      simp [upd, s2]
    · simp
      exact .agg3 (.refl _) (Wk.ms _ _ _ _ _ _) (.refl _)
    · intro i cs hi
      match i, hi with
      | 0, hi => cases hi; exact ⟨101, rfl, by simp [x101]⟩
      | i + 1, hi => simp at hi
theorem cp_zz (r : Rec) (h1 : r.an = true) (h2 : r.dn = true) (ha : r.an = true → r.atts = []) (hd : r.dn = true → r.dels = []) (hl1 : r.atts.length ≤ 1073741824) (hl2 : r.dels.length ≤ 1073741824) :
    DoesR Try.prog 16 [.agg (recC r)] (fun β => (.agg [.int .i64 r.slots, .sl true 8 none (r.atts.map attC), .sl true 3 none (r.dels.map delC)], [])) := by
  refine DoesR.of_body Try.func16 rfl (by kernel_rfl) rfl rfl (by simp) fun E => ?_
  simp only [recC, h1, h2]
  refine Tri.seq fun K hK => ?_
  refine Tri.region ?_
  simp [upd]
  intro β1 β2
  apply hK
  clear hK K
  refine Tri.seq fun K hK => ?_
  refine Tri.drawAll (by kernel_rfl) (CJ r true true (fun bA => C.sl true 8 none (r.atts.map attC)) (fun bD => C.sl true 3 none (r.dels.map delC))) (by decide +kernel) ?_ ?_ ?_
  · refine ⟨β1, β2, 0, 0, rfl, by simp [upd], by simp [upd], ⟨_, by simp [upd] <;> exact rfl, by simp, by simp⟩, by simp [upd], ?_, ?_, ?_, ?_, ?_, ?_, ?_, ?_, ?_, ?_, ?_, ?_, ?_, ?_⟩ <;> simp
  · rintro L st ⟨b1, b2, bA, bD, hn, s1, s2, ⟨z, xz, zl, zo⟩, x1, g0, g1, g2, g3, g4, g5, g6, g7, g8, g9, g11, g12, g10, g13⟩
    generalize List.map _ _ = ds
    simp only [DrawAll, StepF_eq]
    refine ⟨?_, ?_, ?_, ?_, ?_, ?_, ?_, ?_, ?_, ?_, ?_, ?_, ?_, ?_, trivial⟩
    all_goals (intro hL hA; simp [afterOk, Region.binds] at hA)
    · simp [upd, hn, s1, x1, hL]
      refine ⟨b1, b2, bA, bD, (by first | rfl | simp [hn]), by simpa [upd] using s1, by simpa [upd] using s2, ⟨z, by simpa [upd] using xz, zl, zo⟩, by simp [upd, x1, hL], ?_, ?_, ?_, ?_, ?_, ?_, ?_, ?_, ?_, ?_, ?_, ?_, ?_, ?_⟩
      · exact fun h => by first | (simpa [upd] using g0 (by simpa using h)) | (simp [upd]; done) | (simp_all [upd]; done)
      · exact fun h => by first | (simpa [upd] using g1 (by simpa using h)) | (simp [upd]; done) | (simp_all [upd]; done)
      · exact fun h => by first | (simpa [upd] using g2 (by simpa using h)) | (simp [upd]; done) | (simp_all [upd]; done)
      · exact fun h => by first | (simpa [upd] using g3 (by simpa using h)) | (simp [upd]; done) | (simp_all [upd]; done)
      · exact fun h => by first | (simpa [upd] using g4 (by simpa using h)) | (simp [upd]; done) | (simp_all [upd]; done)
      · exact fun h => by first | (simpa [upd] using g5 (by simpa using h)) | (simp [upd]; done) | (simp_all [upd]; done)
      · exact fun h => by first | (simpa [upd] using g6 (by simpa using h)) | (simp [upd]; done) | (simp_all [upd]; done)
      · exact fun h => by first | (simpa [upd] using g7 (by simpa using h)) | (simp [upd]; done) | (simp_all [upd]; done)
      · exact fun h => by first | (simpa [upd] using g8 (by simpa using h)) | (simp [upd]; done) | (simp_all [upd]; done)
      · exact fun h => by first | (simpa [upd] using g9 (by simpa using h)) | (simp [upd]; done) | (simp_all [upd]; done)
      · exact fun h => by first | (simpa [upd] using g11 (by simpa using h)) | (simp [upd]; done) | (simp_all [upd]; done)
      · exact fun h => by first | (simpa [upd] using g12 (by simpa using h)) | (simp [upd]; done) | (simp_all [upd]; done)
      · exact fun h => by first | (simpa [upd] using g10 (by simpa using h)) | (simp [upd]; done) | (simp_all [upd]; done)
      · exact fun h => by first | (simpa [upd] using g13 (by simpa using h)) | (simp [upd]; done) | (simp_all [upd]; done)
    · simp [upd, hn, s1, x1, g0 hA]
      refine ⟨b1, b2, bA, bD, (by first | rfl | simp [hn]), by simpa [upd] using s1, by simpa [upd] using s2, ⟨z, by simpa [upd] using xz, zl, zo⟩, by simp [upd, x1, g0 hA], ?_, ?_, ?_, ?_, ?_, ?_, ?_, ?_, ?_, ?_, ?_, ?_, ?_, ?_⟩
      · exact fun h => by first | (simpa [upd] using g0 (by simpa using h)) | (simp [upd]; done) | (simp_all [upd]; done)
      · exact fun h => by first | (simpa [upd] using g1 (by simpa using h)) | (simp [upd]; done) | (simp_all [upd]; done)
      · exact fun h => by first | (simpa [upd] using g2 (by simpa using h)) | (simp [upd]; done) | (simp_all [upd]; done)
      · exact fun h => by first | (simpa [upd] using g3 (by simpa using h)) | (simp [upd]; done) | (simp_all [upd]; done)
      · exact fun h => by first | (simpa [upd] using g4 (by simpa using h)) | (simp [upd]; done) | (simp_all [upd]; done)
      · exact fun h => by first | (simpa [upd] using g5 (by simpa using h)) | (simp [upd]; done) | (simp_all [upd]; done)
      · exact fun h => by first | (simpa [upd] using g6 (by simpa using h)) | (simp [upd]; done) | (simp_all [upd]; done)
      · exact fun h => by first | (simpa [upd] using g7 (by simpa using h)) | (simp [upd]; done) | (simp_all [upd]; done)
      · exact fun h => by first | (simpa [upd] using g8 (by simpa using h)) | (simp [upd]; done) | (simp_all [upd]; done)
      · exact fun h => by first | (simpa [upd] using g9 (by simpa using h)) | (simp [upd]; done) | (simp_all [upd]; done)
      · exact fun h => by first | (simpa [upd] using g11 (by simpa using h)) | (simp [upd]; done) | (simp_all [upd]; done)
      · exact fun h => by first | (simpa [upd] using g12 (by simpa using h)) | (simp [upd]; done) | (simp_all [upd]; done)
      · exact fun h => by first | (simpa [upd] using g10 (by simpa using h)) | (simp [upd]; done) | (simp_all [upd]; done)
      · exact fun h => by first | (simpa [upd] using g13 (by simpa using h)) | (simp [upd]; done) | (simp_all [upd]; done)
    · have n10 : L 10 = false := by
        cases h : L 10 with
        | false => rfl
        | true => exact absurd (g10 h).1 (by simp [hL])
      simp [upd, hn, s1, x1, g1 hA, n10]
      refine ⟨b1, b2, bA, bD, (by first | rfl | simp [hn]), by simpa [upd] using s1, by simpa [upd] using s2, ⟨z, by simpa [upd] using xz, zl, zo⟩, by simp [upd, x1, g1 hA, n10], ?_, ?_, ?_, ?_, ?_, ?_, ?_, ?_, ?_, ?_, ?_, ?_, ?_, ?_⟩
      · exact fun h => by first | (simpa [upd] using g0 (by simpa using h)) | (simp [upd]; done) | (simp_all [upd]; done)
      · exact fun h => by first | (simpa [upd] using g1 (by simpa using h)) | (simp [upd]; done) | (simp_all [upd]; done)
      · exact fun h => by first | (simpa [upd] using g2 (by simpa using h)) | (simp [upd]; done) | (simp_all [upd]; done)
      · exact fun h => by first | (simpa [upd] using g3 (by simpa using h)) | (simp [upd]; done) | (simp_all [upd]; done)
      · exact fun h => by first | (simpa [upd] using g4 (by simpa using h)) | (simp [upd]; done) | (simp_all [upd]; done)
      · exact fun h => by first | (simpa [upd] using g5 (by simpa using h)) | (simp [upd]; done) | (simp_all [upd]; done)
      · exact fun h => by first | (simpa [upd] using g6 (by simpa using h)) | (simp [upd]; done) | (simp_all [upd]; done)
      · exact fun h => by first | (simpa [upd] using g7 (by simpa using h)) | (simp [upd]; done) | (simp_all [upd]; done)
      · exact fun h => by first | (simpa [upd] using g8 (by simpa using h)) | (simp [upd]; done) | (simp_all [upd]; done)
      · exact fun h => by first | (simpa [upd] using g9 (by simpa using h)) | (simp [upd]; done) | (simp_all [upd]; done)
      · exact fun h => by first | (simpa [upd] using g11 (by simpa using h)) | (simp [upd]; done) | (simp_all [upd]; done)
      · exact fun h => by first | (simpa [upd] using g12 (by simpa using h)) | (simp [upd]; done) | (simp_all [upd]; done)
      · exact fun h => by first | (simpa [upd] using g10 (by simpa using h)) | (simp [upd]; done) | (simp_all [upd]; done)
      · exact fun h => by first | (simpa [upd] using g13 (by simpa using h)) | (simp [upd]; done) | (simp_all [upd]; done)
    · have n10 : L 10 = false := by
        cases h : L 10 with
        | false => rfl
        | true => exact absurd (g10 h).2 (by simp [hL])
      simp [upd, hn, s1, x1, g2 hA]
      refine CallK.pure (cloneA_does r.atts true (fun _ => ha h1) hl1) (Wks.refl _) ?_
      simp [upd]
      refine ⟨b1, b2, bA, bD, (by first | rfl | simp [hn]), by simpa [upd] using s1, by simpa [upd] using s2, ⟨z, by simpa [upd] using xz, zl, zo⟩, by simp [upd, x1, n10], ?_, ?_, ?_, ?_, ?_, ?_, ?_, ?_, ?_, ?_, ?_, ?_, ?_, ?_⟩
      · exact fun h => by first | (simpa [upd] using g0 (by simpa using h)) | (simp [upd]; done) | (simp_all [upd]; done)
      · exact fun h => by first | (simpa [upd] using g1 (by simpa using h)) | (simp [upd]; done) | (simp_all [upd]; done)
      · exact fun h => by first | (simpa [upd] using g2 (by simpa using h)) | (simp [upd]; done) | (simp_all [upd]; done)
      · exact fun h => by first | (simpa [upd] using g3 (by simpa using h)) | (simp [upd]; done) | (simp_all [upd]; done)
      · exact fun h => by first | (simpa [upd] using g4 (by simpa using h)) | (simp [upd]; done) | (simp_all [upd]; done)
      · exact fun h => by first | (simpa [upd] using g5 (by simpa using h)) | (simp [upd]; done) | (simp_all [upd]; done)
      · exact fun h => by first | (simpa [upd] using g6 (by simpa using h)) | (simp [upd]; done) | (simp_all [upd]; done)
      · exact fun h => by first | (simpa [upd] using g7 (by simpa using h)) | (simp [upd]; done) | (simp_all [upd]; done)
      · exact fun h => by first | (simpa [upd] using g8 (by simpa using h)) | (simp [upd]; done) | (simp_all [upd]; done)
      · exact fun h => by first | (simpa [upd] using g9 (by simpa using h)) | (simp [upd]; done) | (simp_all [upd]; done)
      · exact fun h => by first | (simpa [upd] using g11 (by simpa using h)) | (simp [upd]; done) | (simp_all [upd]; done)
      · exact fun h => by first | (simpa [upd] using g12 (by simpa using h)) | (simp [upd]; done) | (simp_all [upd]; done)
      · exact fun h => by first | (simpa [upd] using g10 (by simpa using h)) | (simp [upd]; done) | (simp_all [upd]; done)
      · exact fun h => by first | (simpa [upd] using g13 (by simpa using h)) | (simp [upd]; done) | (simp_all [upd]; done)
    · simp [upd, hn, s1, x1, hL]
      refine ⟨b1, b2, bA, bD, (by first | rfl | simp [hn]), by simpa [upd] using s1, by simpa [upd] using s2, ⟨z, by simpa [upd] using xz, zl, zo⟩, by simp [upd, x1, hL], ?_, ?_, ?_, ?_, ?_, ?_, ?_, ?_, ?_, ?_, ?_, ?_, ?_, ?_⟩
      · exact fun h => by first | (simpa [upd] using g0 (by simpa using h)) | (simp [upd]; done) | (simp_all [upd]; done)
      · exact fun h => by first | (simpa [upd] using g1 (by simpa using h)) | (simp [upd]; done) | (simp_all [upd]; done)
      · exact fun h => by first | (simpa [upd] using g2 (by simpa using h)) | (simp [upd]; done) | (simp_all [upd]; done)
      · exact fun h => by first | (simpa [upd] using g3 (by simpa using h)) | (simp [upd]; done) | (simp_all [upd]; done)
      · exact fun h => by first | (simpa [upd] using g4 (by simpa using h)) | (simp [upd]; done) | (simp_all [upd]; done)
      · exact fun h => by first | (simpa [upd] using g5 (by simpa using h)) | (simp [upd]; done) | (simp_all [upd]; done)
      · exact fun h => by first | (simpa [upd] using g6 (by simpa using h)) | (simp [upd]; done) | (simp_all [upd]; done)
      · exact fun h => by first | (simpa [upd] using g7 (by simpa using h)) | (simp [upd]; done) | (simp_all [upd]; done)
      · exact fun h => by first | (simpa [upd] using g8 (by simpa using h)) | (simp [upd]; done) | (simp_all [upd]; done)
      · exact fun h => by first | (simpa [upd] using g9 (by simpa using h)) | (simp [upd]; done) | (simp_all [upd]; done)
      · exact fun h => by first | (simpa [upd] using g11 (by simpa using h)) | (simp [upd]; done) | (simp_all [upd]; done)
      · exact fun h => by first | (simpa [upd] using g12 (by simpa using h)) | (simp [upd]; done) | (simp_all [upd]; done)
      · exact fun h => by first | (simpa [upd] using g10 (by simpa using h)) | (simp [upd]; done) | (simp_all [upd]; done)
      · exact fun h => by first | (simpa [upd] using g13 (by simpa using h)) | (simp [upd]; done) | (simp_all [upd]; done)
    · simp [upd, hn, s1, x1, g4 hA]
      refine ⟨b1, b2, bA, bD, (by first | rfl | simp [hn]), by simpa [upd] using s1, by simpa [upd] using s2, ⟨z, by simpa [upd] using xz, zl, zo⟩, by simp [upd, x1, g4 hA], ?_, ?_, ?_, ?_, ?_, ?_, ?_, ?_, ?_, ?_, ?_, ?_, ?_, ?_⟩
      · exact fun h => by first | (simpa [upd] using g0 (by simpa using h)) | (simp [upd]; done) | (simp_all [upd]; done)
      · exact fun h => by first | (simpa [upd] using g1 (by simpa using h)) | (simp [upd]; done) | (simp_all [upd]; done)
      · exact fun h => by first | (simpa [upd] using g2 (by simpa using h)) | (simp [upd]; done) | (simp_all [upd]; done)
      · exact fun h => by first | (simpa [upd] using g3 (by simpa using h)) | (simp [upd]; done) | (simp_all [upd]; done)
      · exact fun h => by first | (simpa [upd] using g4 (by simpa using h)) | (simp [upd]; done) | (simp_all [upd]; done)
      · exact fun h => by first | (simpa [upd] using g5 (by simpa using h)) | (simp [upd]; done) | (simp_all [upd]; done)
      · exact fun h => by first | (simpa [upd] using g6 (by simpa using h)) | (simp [upd]; done) | (simp_all [upd]; done)
      · exact fun h => by first | (simpa [upd] using g7 (by simpa using h)) | (simp [upd]; done) | (simp_all [upd]; done)
      · exact fun h => by first | (simpa [upd] using g8 (by simpa using h)) | (simp [upd]; done) | (simp_all [upd]; done)
      · exact fun h => by first | (simpa [upd] using g9 (by simpa using h)) | (simp [upd]; done) | (simp_all [upd]; done)
      · exact fun h => by first | (simpa [upd] using g11 (by simpa using h)) | (simp [upd]; done) | (simp_all [upd]; done)
      · exact fun h => by first | (simpa [upd] using g12 (by simpa using h)) | (simp [upd]; done) | (simp_all [upd]; done)
      · exact fun h => by first | (simpa [upd] using g10 (by simpa using h)) | (simp [upd]; done) | (simp_all [upd]; done)
      · exact fun h => by first | (simpa [upd] using g13 (by simpa using h)) | (simp [upd]; done) | (simp_all [upd]; done)
    · have n13 : L 13 = false := by
        cases h : L 13 with
        | false => rfl
        | true => exact absurd (g13 h).1 (by simp [hL])
      simp [upd, hn, s1, x1, g5 hA, n13]
      refine ⟨b1, b2, bA, bD, (by first | rfl | simp [hn]), by simpa [upd] using s1, by simpa [upd] using s2, ⟨z, by simpa [upd] using xz, zl, zo⟩, by simp [upd, x1, g5 hA, n13], ?_, ?_, ?_, ?_, ?_, ?_, ?_, ?_, ?_, ?_, ?_, ?_, ?_, ?_⟩
      · exact fun h => by first | (simpa [upd] using g0 (by simpa using h)) | (simp [upd]; done) | (simp_all [upd]; done)
      · exact fun h => by first | (simpa [upd] using g1 (by simpa using h)) | (simp [upd]; done) | (simp_all [upd]; done)
      · exact fun h => by first | (simpa [upd] using g2 (by simpa using h)) | (simp [upd]; done) | (simp_all [upd]; done)
      · exact fun h => by first | (simpa [upd] using g3 (by simpa using h)) | (simp [upd]; done) | (simp_all [upd]; done)
      · exact fun h => by first | (simpa [upd] using g4 (by simpa using h)) | (simp [upd]; done) | (simp_all [upd]; done)
      · exact fun h => by first | (simpa [upd] using g5 (by simpa using h)) | (simp [upd]; done) | (simp_all [upd]; done)
      · exact fun h => by first | (simpa [upd] using g6 (by simpa using h)) | (simp [upd]; done) | (simp_all [upd]; done)
      · exact fun h => by first | (simpa [upd] using g7 (by simpa using h)) | (simp [upd]; done) | (simp_all [upd]; done)
      · exact fun h => by first | (simpa [upd] using g8 (by simpa using h)) | (simp [upd]; done) | (simp_all [upd]; done)
      · exact fun h => by first | (simpa [upd] using g9 (by simpa using h)) | (simp [upd]; done) | (simp_all [upd]; done)
      · exact fun h => by first | (simpa [upd] using g11 (by simpa using h)) | (simp [upd]; done) | (simp_all [upd]; done)
      · exact fun h => by first | (simpa [upd] using g12 (by simpa using h)) | (simp [upd]; done) | (simp_all [upd]; done)
      · exact fun h => by first | (simpa [upd] using g10 (by simpa using h)) | (simp [upd]; done) | (simp_all [upd]; done)
      · exact fun h => by first | (simpa [upd] using g13 (by simpa using h)) | (simp [upd]; done) | (simp_all [upd]; done)
    · have n13 : L 13 = false := by
        cases h : L 13 with
        | false => rfl
        | true => exact absurd (g13 h).2 (by simp [hL])
      simp [upd, hn, s1, x1, g6 hA.1]
      refine CallK.pure (cloneD_does r.dels true (fun _ => hd h2) hl2) (Wks.refl _) ?_
      simp [upd]
      refine ⟨b1, b2, bA, bD, (by first | rfl | simp [hn]), by simpa [upd] using s1, by simpa [upd] using s2, ⟨z, by simpa [upd] using xz, zl, zo⟩, by simp [upd, x1, n13], ?_, ?_, ?_, ?_, ?_, ?_, ?_, ?_, ?_, ?_, ?_, ?_, ?_, ?_⟩
      · exact fun h => by first | (simpa [upd] using g0 (by simpa using h)) | (simp [upd]; done) | (simp_all [upd]; done)
      · exact fun h => by first | (simpa [upd] using g1 (by simpa using h)) | (simp [upd]; done) | (simp_all [upd]; done)
      · exact fun h => by first | (simpa [upd] using g2 (by simpa using h)) | (simp [upd]; done) | (simp_all [upd]; done)
      · exact fun h => by first | (simpa [upd] using g3 (by simpa using h)) | (simp [upd]; done) | (simp_all [upd]; done)
      · exact fun h => by first | (simpa [upd] using g4 (by simpa using h)) | (simp [upd]; done) | (simp_all [upd]; done)
      · exact fun h => by first | (simpa [upd] using g5 (by simpa using h)) | (simp [upd]; done) | (simp_all [upd]; done)
      · exact fun h => by first | (simpa [upd] using g6 (by simpa using h)) | (simp [upd]; done) | (simp_all [upd]; done)
      · exact fun h => by first | (simpa [upd] using g7 (by simpa using h)) | (simp [upd]; done) | (simp_all [upd]; done)
      · exact fun h => by first | (simpa [upd] using g8 (by simpa using h)) | (simp [upd]; done) | (simp_all [upd]; done)
      · exact fun h => by first | (simpa [upd] using g9 (by simpa using h)) | (simp [upd]; done) | (simp_all [upd]; done)
      · exact fun h => by first | (simpa [upd] using g11 (by simpa using h)) | (simp [upd]; done) | (simp_all [upd]; done)
      · exact fun h => by first | (simpa [upd] using g12 (by simpa using h)) | (simp [upd]; done) | (simp_all [upd]; done)
      · exact fun h => by first | (simpa [upd] using g10 (by simpa using h)) | (simp [upd]; done) | (simp_all [upd]; done)
      · exact fun h => by first | (simpa [upd] using g13 (by simpa using h)) | (simp [upd]; done) | (simp_all [upd]; done)
    · simp [upd, hn, s1, x1, hL]
      refine ⟨b1, b2, bA, bD, (by first | rfl | simp [hn]), by simpa [upd] using s1, by simpa [upd] using s2, ⟨z, by simpa [upd] using xz, zl, zo⟩, by simp [upd, x1, hL], ?_, ?_, ?_, ?_, ?_, ?_, ?_, ?_, ?_, ?_, ?_, ?_, ?_, ?_⟩
      · exact fun h => by first | (simpa [upd] using g0 (by simpa using h)) | (simp [upd]; done) | (simp_all [upd]; done)
      · exact fun h => by first | (simpa [upd] using g1 (by simpa using h)) | (simp [upd]; done) | (simp_all [upd]; done)
      · exact fun h => by first | (simpa [upd] using g2 (by simpa using h)) | (simp [upd]; done) | (simp_all [upd]; done)
      · exact fun h => by first | (simpa [upd] using g3 (by simpa using h)) | (simp [upd]; done) | (simp_all [upd]; done)
      · exact fun h => by first | (simpa [upd] using g4 (by simpa using h)) | (simp [upd]; done) | (simp_all [upd]; done)
      · exact fun h => by first | (simpa [upd] using g5 (by simpa using h)) | (simp [upd]; done) | (simp_all [upd]; done)
      · exact fun h => by first | (simpa [upd] using g6 (by simpa using h)) | (simp [upd]; done) | (simp_all [upd]; done)
      · exact fun h => by first | (simpa [upd] using g7 (by simpa using h)) | (simp [upd]; done) | (simp_all [upd]; done)
      · exact fun h => by first | (simpa [upd] using g8 (by simpa using h)) | (simp [upd]; done) | (simp_all [upd]; done)
      · exact fun h => by first | (simpa [upd] using g9 (by simpa using h)) | (simp [upd]; done) | (simp_all [upd]; done)
      · exact fun h => by first | (simpa [upd] using g11 (by simpa using h)) | (simp [upd]; done) | (simp_all [upd]; done)
      · exact fun h => by first | (simpa [upd] using g12 (by simpa using h)) | (simp [upd]; done) | (simp_all [upd]; done)
      · exact fun h => by first | (simpa [upd] using g10 (by simpa using h)) | (simp [upd]; done) | (simp_all [upd]; done)
      · exact fun h => by first | (simpa [upd] using g13 (by simpa using h)) | (simp [upd]; done) | (simp_all [upd]; done)
    · simp [upd, hn, s1, x1, g8 hA.1]
      refine ⟨b1, b2, bA, bD, (by first | rfl | simp [hn]), by simpa [upd] using s1, by simpa [upd] using s2, ⟨z, by simpa [upd] using xz, zl, zo⟩, by simp [upd, x1, g8 hA.1], ?_, ?_, ?_, ?_, ?_, ?_, ?_, ?_, ?_, ?_, ?_, ?_, ?_, ?_⟩
      · exact fun h => by first | (simpa [upd] using g0 (by simpa using h)) | (simp [upd]; done) | (simp_all [upd]; done)
      · exact fun h => by first | (simpa [upd] using g1 (by simpa using h)) | (simp [upd]; done) | (simp_all [upd]; done)
      · exact fun h => by first | (simpa [upd] using g2 (by simpa using h)) | (simp [upd]; done) | (simp_all [upd]; done)
      · exact fun h => by first | (simpa [upd] using g3 (by simpa using h)) | (simp [upd]; done) | (simp_all [upd]; done)
      · exact fun h => by first | (simpa [upd] using g4 (by simpa using h)) | (simp [upd]; done) | (simp_all [upd]; done)
      · exact fun h => by first | (simpa [upd] using g5 (by simpa using h)) | (simp [upd]; done) | (simp_all [upd]; done)
      · exact fun h => by first | (simpa [upd] using g6 (by simpa using h)) | (simp [upd]; done) | (simp_all [upd]; done)
      · exact fun h => by first | (simpa [upd] using g7 (by simpa using h)) | (simp [upd]; done) | (simp_all [upd]; done)
      · exact fun h => by first | (simpa [upd] using g8 (by simpa using h)) | (simp [upd]; done) | (simp_all [upd]; done)
      · exact fun h => by first | (simpa [upd] using g9 (by simpa using h)) | (simp [upd]; done) | (simp_all [upd]; done)
      · exact fun h => by first | (simpa [upd] using g11 (by simpa using h)) | (simp [upd]; done) | (simp_all [upd]; done)
      · exact fun h => by first | (simpa [upd] using g12 (by simpa using h)) | (simp [upd]; done) | (simp_all [upd]; done)
      · exact fun h => by first | (simpa [upd] using g10 (by simpa using h)) | (simp [upd]; done) | (simp_all [upd]; done)
      · exact fun h => by first | (simpa [upd] using g13 (by simpa using h)) | (simp [upd]; done) | (simp_all [upd]; done)
    · have q := g3 hA.2.1
      simp [upd, hn, s1, x1, g9 hA.1, q.1, hA]
      refine ⟨b1, b2, bA, bD, (by first | rfl | simp [hn]), by simpa [upd] using s1, by simpa [upd] using s2, ⟨z, by simpa [upd] using xz, zl, zo⟩, by simp [upd, x1, g9 hA.1, q.1, hA], ?_, ?_, ?_, ?_, ?_, ?_, ?_, ?_, ?_, ?_, ?_, ?_, ?_, ?_⟩
      · exact fun h => by first | (simpa [upd] using g0 (by simpa using h)) | (simp [upd]; done) | (simp_all [upd]; done)
      · exact fun h => by first | (simpa [upd] using g1 (by simpa using h)) | (simp [upd]; done) | (simp_all [upd]; done)
      · exact fun h => by first | (simpa [upd] using g2 (by simpa using h)) | (simp [upd]; done) | (simp_all [upd]; done)
      · exact fun h => by first | (simpa [upd] using g3 (by simpa using h)) | (simp [upd]; done) | (simp_all [upd]; done)
      · exact fun h => by first | (simpa [upd] using g4 (by simpa using h)) | (simp [upd]; done) | (simp_all [upd]; done)
      · exact fun h => by first | (simpa [upd] using g5 (by simpa using h)) | (simp [upd]; done) | (simp_all [upd]; done)
      · exact fun h => by first | (simpa [upd] using g6 (by simpa using h)) | (simp [upd]; done) | (simp_all [upd]; done)
      · exact fun h => by first | (simpa [upd] using g7 (by simpa using h)) | (simp [upd]; done) | (simp_all [upd]; done)
      · exact fun h => by first | (simpa [upd] using g8 (by simpa using h)) | (simp [upd]; done) | (simp_all [upd]; done)
      · exact fun h => by first | (simpa [upd] using g9 (by simpa using h)) | (simp [upd]; done) | (simp_all [upd]; done)
      · exact fun h => by first | (simpa [upd] using g11 (by simpa using h)) | (simp [upd]; done) | (simp_all [upd]; done)
      · exact fun h => by first | (simpa [upd] using g12 (by simpa using h)) | (simp [upd]; done) | (simp_all [upd]; done)
      · exact fun h => by first | (simpa [upd] using g10 (by simpa using h)) | (simp [upd]; done) | (simp_all [upd]; done)
      · exact fun h => by first | (simpa [upd] using g13 (by simpa using h)) | (simp [upd]; done) | (simp_all [upd]; done)
    · simp [upd, hn, s1, x1, hL]
      refine ⟨b1, b2, bA, bD, (by first | rfl | simp [hn]), by simpa [upd] using s1, by simpa [upd] using s2, ⟨z, by simpa [upd] using xz, zl, zo⟩, by simp [upd, x1, hL], ?_, ?_, ?_, ?_, ?_, ?_, ?_, ?_, ?_, ?_, ?_, ?_, ?_, ?_⟩
      · exact fun h => by first | (simpa [upd] using g0 (by simpa using h)) | (simp [upd]; done) | (simp_all [upd]; done)
      · exact fun h => by first | (simpa [upd] using g1 (by simpa using h)) | (simp [upd]; done) | (simp_all [upd]; done)
      · exact fun h => by first | (simpa [upd] using g2 (by simpa using h)) | (simp [upd]; done) | (simp_all [upd]; done)
      · exact fun h => by first | (simpa [upd] using g3 (by simpa using h)) | (simp [upd]; done) | (simp_all [upd]; done)
      · exact fun h => by first | (simpa [upd] using g4 (by simpa using h)) | (simp [upd]; done) | (simp_all [upd]; done)
      · exact fun h => by first | (simpa [upd] using g5 (by simpa using h)) | (simp [upd]; done) | (simp_all [upd]; done)
      · exact fun h => by first | (simpa [upd] using g6 (by simpa using h)) | (simp [upd]; done) | (simp_all [upd]; done)
      · exact fun h => by first | (simpa [upd] using g7 (by simpa using h)) | (simp [upd]; done) | (simp_all [upd]; done)
      · exact fun h => by first | (simpa [upd] using g8 (by simpa using h)) | (simp [upd]; done) | (simp_all [upd]; done)
      · exact fun h => by first | (simpa [upd] using g9 (by simpa using h)) | (simp [upd]; done) | (simp_all [upd]; done)
      · exact fun h => by first | (simpa [upd] using g11 (by simpa using h)) | (simp [upd]; done) | (simp_all [upd]; done)
      · exact fun h => by first | (simpa [upd] using g12 (by simpa using h)) | (simp [upd]; done) | (simp_all [upd]; done)
      · exact fun h => by first | (simpa [upd] using g10 (by simpa using h)) | (simp [upd]; done) | (simp_all [upd]; done)
      · exact fun h => by first | (simpa [upd] using g13 (by simpa using h)) | (simp [upd]; done) | (simp_all [upd]; done)
    · simp [upd, hn, s1, x1, g11 hA.1]
      refine ⟨b1, b2, bA, bD, (by first | rfl | simp [hn]), by simpa [upd] using s1, by simpa [upd] using s2, ⟨z, by simpa [upd] using xz, zl, zo⟩, by simp [upd, x1, g11 hA.1], ?_, ?_, ?_, ?_, ?_, ?_, ?_, ?_, ?_, ?_, ?_, ?_, ?_, ?_⟩
      · exact fun h => by first | (simpa [upd] using g0 (by simpa using h)) | (simp [upd]; done) | (simp_all [upd]; done)
      · exact fun h => by first | (simpa [upd] using g1 (by simpa using h)) | (simp [upd]; done) | (simp_all [upd]; done)
      · exact fun h => by first | (simpa [upd] using g2 (by simpa using h)) | (simp [upd]; done) | (simp_all [upd]; done)
      · exact fun h => by first | (simpa [upd] using g3 (by simpa using h)) | (simp [upd]; done) | (simp_all [upd]; done)
      · exact fun h => by first | (simpa [upd] using g4 (by simpa using h)) | (simp [upd]; done) | (simp_all [upd]; done)
      · exact fun h => by first | (simpa [upd] using g5 (by simpa using h)) | (simp [upd]; done) | (simp_all [upd]; done)
      · exact fun h => by first | (simpa [upd] using g6 (by simpa using h)) | (simp [upd]; done) | (simp_all [upd]; done)
      · exact fun h => by first | (simpa [upd] using g7 (by simpa using h)) | (simp [upd]; done) | (simp_all [upd]; done)
      · exact fun h => by first | (simpa [upd] using g8 (by simpa using h)) | (simp [upd]; done) | (simp_all [upd]; done)
      · exact fun h => by first | (simpa [upd] using g9 (by simpa using h)) | (simp [upd]; done) | (simp_all [upd]; done)
      · exact fun h => by first | (simpa [upd] using g11 (by simpa using h)) | (simp [upd]; done) | (simp_all [upd]; done)
      · exact fun h => by first | (simpa [upd] using g12 (by simpa using h)) | (simp [upd]; done) | (simp_all [upd]; done)
      · exact fun h => by first | (simpa [upd] using g10 (by simpa using h)) | (simp [upd]; done) | (simp_all [upd]; done)
      · exact fun h => by first | (simpa [upd] using g13 (by simpa using h)) | (simp [upd]; done) | (simp_all [upd]; done)
    · have q := g7 hA.2.1
      simp [upd, hn, s1, x1, g12 hA.1, q.1, hA]
      refine ⟨b1, b2, bA, bD, (by first | rfl | simp [hn]), by simpa [upd] using s1, by simpa [upd] using s2, ⟨z, by simpa [upd] using xz, zl, zo⟩, by simp [upd, x1, g12 hA.1, q.1, hA], ?_, ?_, ?_, ?_, ?_, ?_, ?_, ?_, ?_, ?_, ?_, ?_, ?_, ?_⟩
      · exact fun h => by first | (simpa [upd] using g0 (by simpa using h)) | (simp [upd]; done) | (simp_all [upd]; done)
      · exact fun h => by first | (simpa [upd] using g1 (by simpa using h)) | (simp [upd]; done) | (simp_all [upd]; done)
      · exact fun h => by first | (simpa [upd] using g2 (by simpa using h)) | (simp [upd]; done) | (simp_all [upd]; done)
      · exact fun h => by first | (simpa [upd] using g3 (by simpa using h)) | (simp [upd]; done) | (simp_all [upd]; done)
      · exact fun h => by first | (simpa [upd] using g4 (by simpa using h)) | (simp [upd]; done) | (simp_all [upd]; done)
      · exact fun h => by first | (simpa [upd] using g5 (by simpa using h)) | (simp [upd]; done) | (simp_all [upd]; done)
      · exact fun h => by first | (simpa [upd] using g6 (by simpa using h)) | (simp [upd]; done) | (simp_all [upd]; done)
      · exact fun h => by first | (simpa [upd] using g7 (by simpa using h)) | (simp [upd]; done) | (simp_all [upd]; done)
      · exact fun h => by first | (simpa [upd] using g8 (by simpa using h)) | (simp [upd]; done) | (simp_all [upd]; done)
      · exact fun h => by first | (simpa [upd] using g9 (by simpa using h)) | (simp [upd]; done) | (simp_all [upd]; done)
      · exact fun h => by first | (simpa [upd] using g11 (by simpa using h)) | (simp [upd]; done) | (simp_all [upd]; done)
      · exact fun h => by first | (simpa [upd] using g12 (by simpa using h)) | (simp [upd]; done) | (simp_all [upd]; done)
      · exact fun h => by first | (simpa [upd] using g10 (by simpa using h)) | (simp [upd]; done) | (simp_all [upd]; done)
      · exact fun h => by first | (simpa [upd] using g13 (by simpa using h)) | (simp [upd]; done) | (simp_all [upd]; done)
  · rintro L st hL ⟨b1, b2, bA, bD, hn, s1, s2, ⟨z, xz, zl, zo⟩, x1, -, -, -, g3, -, -, -, g7, -⟩
    simp only [hL 10 (by decide), hL 13 (by decide), if_true] at x1
    have x101 := (g3 (hL 3 (by decide))).2
    have x102 := (g7 (hL 7 (by decide))).2
    simp only [forall_const, reduceCtorEq, false_implies] at x101 x102
    have zd : z.drop 3 = [] := List.drop_eq_nil_of_le (by omega)
    show K st
    apply hK
    clear hK
    repeat (first
      | (refine Tri.seq fun K hK => ?_)
      | (refine Tri.region ?_; simp [upd, hn, s1, s2, x1, xz, zl, zo, zd])
      | (refine Tri.draw (by kernel_rfl) (by decide +kernel) ?_; simp [upd, hn, s1, s2, x1, xz, zl, zo, zd])
      | (refine Tri.cond_true ?_ ?_; (focus simp [upd, hn, s1, s2, x1, xz, zl, zo, zd]; done))
      | (refine Tri.cond_false ?_ ?_; (focus simp [upd, hn, s1, s2, x1, xz, zl, zo, zd]; done))
      | (refine Tri.skip ?_; simp only [thenS, blockS])
      | (refine Tri.block_seq ?_)
      | (refine Tri.block_region ?_)
      | (refine Tri.block_cond ?_)
      | (refine Tri.exit ?_; simp [upd, hn, s1, s2, x1, xz, zl, zo, zd]; first | (rename ∀ st, Tri _ _ _ st _ → _ => hK; first | (apply hK; clear hK) | (clear hK; rename ∀ st, Tri _ _ _ st _ → _ => hK; first | (apply hK; clear hK) | (clear hK; rename ∀ st, Tri _ _ _ st _ → _ => hK; first | (apply hK; clear hK) | (clear hK; rename ∀ st, Tri _ _ _ st _ → _ => hK; first | (apply hK; clear hK) | (clear hK; rename ∀ st, Tri _ _ _ st _ → _ => hK; first | (apply hK; clear hK) | (clear hK; rename ∀ st, Tri _ _ _ st _ → _ => hK; apply hK; clear hK)))))) | skip)
      | (intro β)
      | (rename ∀ st, Tri _ _ _ st _ → _ => hK; apply hK; clear hK))
    refine Tri.ret ⟨.inr rfl, .agg [.int .i64 r.slots, .sl true 8 none (r.atts.map attC), .sl true 3 none (r.dels.map delC)], ?_, fun i => 0, [], ?_, ?_, by decide⟩
    · show resV Try.prog _ [.cell 2 28] = _
      simp [upd, s2]
    · simp
      exact .agg3 (.refl _) (.refl _) (.refl _)
    · intro i cs hi
      simp at hi
end Go.Proofs.Ytcohdlochpjnjaa
end
section
open Go Go.Vm
namespace Go.Proofs.Ytcohdlochpjnjaa
set_option maxRecDepth 100000
set_option maxHeartbeats 4000000
set_option linter.unusedSimpArgs false
attribute [-simp] isObj C.isO
attribute [local irreducible] Tri Does DoesB Rounds idxI check sameB
theorem nt_lateA (s : Int) (l : List Att) : nt (fun a : Att => decide (a.slot < s)) l = lateA s l := rfl
theorem nt_lateD (s : Int) (l : List Del) : nt (fun a : Del => decide (a.slot < s)) l = lateD s l := rfl
theorem isObj_fill (l : List C) (n : Nat) (h : isObj l = false) : isObj (l ++ List.replicate n .any) = false := by
  match l, h with
  | [], _ => match n with
    | 0 => rfl
    | 1 => rfl
    | n + 2 => rfl
  | [x], h => match n with
    | 0 => exact h
    | n + 1 => rfl
  | x :: y :: l, _ => rfl
theorem flatA_all (l : List Att) : (l.map attC).flatten.all C.flat = true := by
  simp only [List.all_eq_true, List.mem_flatten, List.mem_map]
  rintro x ⟨_, ⟨a, _, rfl⟩, hx⟩
  simp [attC] at hx
  repeat (first | (rcases hx with rfl | hx; rfl) | (subst hx; rfl))
theorem flatD_all (l : List Del) : (l.map delC).flatten.all C.flat = true := by
  simp only [List.all_eq_true, List.mem_flatten, List.mem_map]
  rintro x ⟨_, ⟨a, _, rfl⟩, hx⟩
  simp [delC] at hx
  repeat (first | (rcases hx with rfl | hx; rfl) | (subst hx; rfl))
theorem flA_eq (l : List Att) : flA l = (l.map attC).flatten := by unfold flA; rfl
theorem flD_eq (l : List Del) : flD l = (l.map delC).flatten := by unfold flD; rfl
theorem deleteA_nil (f : FuncId) (p : Att → Bool) (b : Nat) (cs : List C) (h : ∀ x, DoesB Try.prog f [.agg (attC x), .c (.box 100 b 0)] [(100, b, cs)] [] (fun _ => (.c (.bool (p x)), [(100, b, cs)], []))) : DoesB Try.prog 34 [.c (.sl true 8 none []), .c (.fn f [.box 100 b 0])] [(100, b, cs)] [] (fun _ => (.c (.sl true 8 none []), [(100, b, cs)], [])) := by
  have g := indexA f p b cs h [] true (by simp)
  rw [idxI_none (p := p) (l := []) fun j hj => by simp at hj] at g
  refine DoesB.of_body Try.func34 rfl (by kernel_rfl) rfl rfl (by simp) (fun _ => rfl) fun E => ?_
  repeat (first
    | (refine Tri.seq fun K hK => ?_)
    | (refine Tri.region ?_; simp [upd])
    | (refine Tri.draw (by kernel_rfl) (by decide +kernel) ?_; simp [upd])
    | (refine Tri.cond_true ?_ ?_; (focus simp [upd]; done))
    | (refine Tri.cond_false ?_ ?_; (focus simp [upd]; done))
    | (refine Tri.skip ?_; simp only [thenS, blockS])
    | (refine Tri.block_seq ?_)
    | (refine Tri.block_region ?_)
    | (refine Tri.block_cond ?_)
    | (refine CallK.look 100 g (Wks.refl _) ?_ ?_; (focus (simp [upd]; done)); simp [upd])
    | (refine Tri.exit ?_; simp [upd]; first | (rename ∀ st, Tri _ _ _ st _ → _ => hK; first | (apply hK; clear hK) | (clear hK; rename ∀ st, Tri _ _ _ st _ → _ => hK; first | (apply hK; clear hK) | (clear hK; rename ∀ st, Tri _ _ _ st _ → _ => hK; first | (apply hK; clear hK) | (clear hK; rename ∀ st, Tri _ _ _ st _ → _ => hK; first | (apply hK; clear hK) | (clear hK; rename ∀ st, Tri _ _ _ st _ → _ => hK; first | (apply hK; clear hK) | (clear hK; rename ∀ st, Tri _ _ _ st _ → _ => hK; apply hK; clear hK)))))) | skip)
    | (intro β)
    | (rename ∀ st, Tri _ _ _ st _ → _ => hK; apply hK; clear hK))
  refine Tri.ret ⟨_, 0, [], rfl, ?_, ?_, trivial, by simp⟩
  · simp [upd]
    exact Wk.refl _
  · simp [upd]
theorem deleteD_nil (f : FuncId) (p : Del → Bool) (b : Nat) (cs : List C) (h : ∀ x, DoesB Try.prog f [.agg (delC x), .c (.box 100 b 0)] [(100, b, cs)] [] (fun _ => (.c (.bool (p x)), [(100, b, cs)], []))) : DoesB Try.prog 36 [.c (.sl true 3 none []), .c (.fn f [.box 100 b 0])] [(100, b, cs)] [] (fun _ => (.c (.sl true 3 none []), [(100, b, cs)], [])) := by
  have g := indexD f p b cs h [] true (by simp)
  rw [idxI_none (p := p) (l := []) fun j hj => by simp at hj] at g
  refine DoesB.of_body Try.func36 rfl (by kernel_rfl) rfl rfl (by simp) (fun _ => rfl) fun E => ?_
  repeat (first
    | (refine Tri.seq fun K hK => ?_)
    | (refine Tri.region ?_; simp [upd])
    | (refine Tri.draw (by kernel_rfl) (by decide +kernel) ?_; simp [upd])
    | (refine Tri.cond_true ?_ ?_; (focus simp [upd]; done))
    | (refine Tri.cond_false ?_ ?_; (focus simp [upd]; done))
    | (refine Tri.skip ?_; simp only [thenS, blockS])
    | (refine Tri.block_seq ?_)
    | (refine Tri.block_region ?_)
    | (refine Tri.block_cond ?_)
    | (refine CallK.look 100 g (Wks.refl _) ?_ ?_; (focus (simp [upd]; done)); simp [upd])
    | (refine Tri.exit ?_; simp [upd]; first | (rename ∀ st, Tri _ _ _ st _ → _ => hK; first | (apply hK; clear hK) | (clear hK; rename ∀ st, Tri _ _ _ st _ → _ => hK; first | (apply hK; clear hK) | (clear hK; rename ∀ st, Tri _ _ _ st _ → _ => hK; first | (apply hK; clear hK) | (clear hK; rename ∀ st, Tri _ _ _ st _ → _ => hK; first | (apply hK; clear hK) | (clear hK; rename ∀ st, Tri _ _ _ st _ → _ => hK; first | (apply hK; clear hK) | (clear hK; rename ∀ st, Tri _ _ _ st _ → _ => hK; apply hK; clear hK)))))) | skip)
    | (intro β)
    | (rename ∀ st, Tri _ _ _ st _ → _ => hK; apply hK; clear hK))
  refine Tri.ret ⟨_, 0, [], rfl, ?_, ?_, trivial, by simp⟩
  · simp [upd]
    exact Wk.refl _
  · simp [upd]
theorem lateA_nil (s : Int) : lateA s [] = [] := rfl
theorem lateD_nil (s : Int) : lateD s [] = [] := rfl
theorem fA_nil (s : Int) : fA s [] = [] := rfl
theorem fD_nil (s : Int) : fD s [] = [] := rfl
theorem cntN_nil (o : Int) : cntN o [] = 0 := rfl
attribute [local irreducible] nt lateA lateD fA fD cntN
theorem halves_does (r : Rec) (s : Int) (ha : r.an = true → r.atts = []) (hd : r.dn = true → r.dels = []) : Does Try.prog 9 [.agg (recC r), .c (.int .i64 s)] (.c (.bool true)) := by
  refine Does.of_body Try.func9 rfl (by kernel_rfl) rfl rfl (by simp) ?_
  intro E
  have l0 := awake_does
  have l1 := few_does r
  by_cases hf : r.atts.length ≤ 150 ∧ r.dels.length ≤ 100
  case neg =>
    have e1 : (decide (r.atts.length ≤ 150) && decide (r.dels.length ≤ 100)) = false := by
      rw [← Bool.not_eq_true]
      simp only [Bool.and_eq_true, decide_eq_true_eq]
      exact hf
    rw [e1] at l1
    simp only [recC] at l1 ⊢
    repeat (first
      | (refine Tri.seq fun K hK => ?_)
      | (refine Tri.region ?_; simp [upd])
      | (refine Tri.draw (by kernel_rfl) (by decide +kernel) ?_; simp [upd])
      | (refine Tri.cond_true ?_ ?_; (focus simp [upd]; done))
      | (refine Tri.cond_false ?_ ?_; (focus simp [upd]; done))
      | (refine Tri.skip ?_; simp only [thenS, blockS])
      | (refine Tri.block_seq ?_)
      | (refine Tri.block_region ?_)
      | (refine Tri.block_cond ?_)
      | ((with_reducible refine CallK.pure (l0) (Wks.refl _) ?_); simp [upd])
      | ((with_reducible refine CallK.pure (l1) (Wks.refl _) ?_); simp [upd])
      | (refine Tri.exit ?_; simp [upd]; first | (rename ∀ st, Tri _ _ _ st _ → _ => hK; first | (apply hK; clear hK) | (clear hK; rename ∀ st, Tri _ _ _ st _ → _ => hK; first | (apply hK; clear hK) | (clear hK; rename ∀ st, Tri _ _ _ st _ → _ => hK; first | (apply hK; clear hK) | (clear hK; rename ∀ st, Tri _ _ _ st _ → _ => hK; first | (apply hK; clear hK) | (clear hK; rename ∀ st, Tri _ _ _ st _ → _ => hK; first | (apply hK; clear hK) | (clear hK; rename ∀ st, Tri _ _ _ st _ → _ => hK; apply hK; clear hK)))))) | skip)
      | (intro β)
      | (rename ∀ st, Tri _ _ _ st _ → _ => hK; apply hK; clear hK))
    refine Tri.ret ⟨_, rfl, ?_⟩
    simp [upd]
    exact Wk.refl _
  have e1 : (decide (r.atts.length ≤ 150) && decide (r.dels.length ≤ 100)) = true := by simp [hf.1, hf.2]
  rw [e1] at l1
  have hl1 : r.atts.length ≤ 1073741824 := by omega
  have hl2 : r.dels.length ≤ 1073741824 := by omega
  have l2 := cp_does r ⟨ha, hd, by omega, by omega⟩
  have l3 := cut_does r s
  by_cases hc : (cut r s).2 = 0
  case neg =>
    have ez : (cut r s).1 = zrec := by
      unfold cut at hc ⊢
      split
      · rename_i h1
        rw [if_pos h1] at hc
        split
        · rfl
        · rename_i h2
          rw [if_neg h2] at hc
          exact absurd rfl hc
      · rfl
    rw [ez] at l3
    have l4 := same_does zrec zrec (by decide) (by decide)
    rw [(sameB_iff zrec zrec).2 ⟨rfl, rfl, rfl⟩] at l4
    generalize (cut r s).2 = e at *
    simp only [recC] at l1 l2 l3 l4 ⊢
    simp only [zrec, List.map_nil] at l3 l4
    repeat (first
      | (refine Tri.seq fun K hK => ?_)
      | (refine Tri.region ?_; simp [upd, hc])
      | (refine Tri.draw (by kernel_rfl) (by decide +kernel) ?_; simp [upd, hc])
      | (refine Tri.draw2 [5] [0, 1, 2, 3, 4, 5, 6] [7, 8, 9] [] (by kernel_rfl) (by kernel_rfl) (by decide) (by rfl) (by decide +kernel) ?_; simp [upd, hc])
      | (refine Tri.cond_true ?_ ?_; (focus simp [upd, hc]; done))
      | (refine Tri.cond_false ?_ ?_; (focus simp [upd, hc]; done))
      | (refine Tri.skip ?_; simp only [thenS, blockS])
      | (refine Tri.block_seq ?_)
      | (refine Tri.block_region ?_)
      | (refine Tri.block_cond ?_)
      | ((with_reducible refine CallK.pure (l0) (Wks.refl _) ?_); simp [upd, hc])
      | ((with_reducible refine CallK.pure (l1) (Wks.refl _) ?_); simp [upd, hc])
      | ((with_reducible refine CallK.pure (l2) (Wks.refl _) ?_); simp [upd, hc])
      | ((with_reducible refine CallK.pure (l3) (Wks.refl _) ?_); simp [upd, hc])
      | (refine CallK.pure l4 ⟨.refl _, .agg3 (.refl _) (.nil _ _ _ _) (.nil _ _ _ _), trivial⟩ ?_; simp [upd, hc])
      | (refine Tri.exit ?_; simp [upd, hc]; first | (rename ∀ st, Tri _ _ _ st _ → _ => hK; first | (apply hK; clear hK) | (clear hK; rename ∀ st, Tri _ _ _ st _ → _ => hK; first | (apply hK; clear hK) | (clear hK; rename ∀ st, Tri _ _ _ st _ → _ => hK; first | (apply hK; clear hK) | (clear hK; rename ∀ st, Tri _ _ _ st _ → _ => hK; first | (apply hK; clear hK) | (clear hK; rename ∀ st, Tri _ _ _ st _ → _ => hK; first | (apply hK; clear hK) | (clear hK; rename ∀ st, Tri _ _ _ st _ → _ => hK; apply hK; clear hK)))))) | skip)
      | (intro β)
      | (rename ∀ st, Tri _ _ _ st _ → _ => hK; apply hK; clear hK))
    refine Tri.ret ⟨_, rfl, ?_⟩
    simp [upd]
    exact Wk.refl _
  have hio : InOrder r ∧ 0 ≤ s ∧ s ≤ r.slots := by
    unfold cut at hc
    split at hc
    · rename_i h1
      split at hc
      · simp at hc
      · exact ⟨(check_iff r).1 h1, by omega, by omega⟩
    · simp at hc
  obtain ⟨hio, hs0, hs1⟩ := hio
  have hcut : cut r s = (⟨s, (fA s r.atts).isEmpty, fA s r.atts, (fD s r.dels).isEmpty, fD s r.dels⟩, 0) := by
    unfold cut
    rw [if_pos ((check_iff r).2 hio), if_neg (by omega)]
  rw [hcut] at l3
  clear hc hcut
  have hA1 : (fA s r.atts).length ≤ r.atts.length := by unfold fA; exact List.length_filter_le ..
  have hD1 : (fD s r.dels).length ≤ r.dels.length := by unfold fD; exact List.length_filter_le ..
  have hA2 : (lateA s r.atts).length ≤ r.atts.length := by unfold lateA; exact List.length_filter_le ..
  have hD2 : (lateD s r.dels).length ≤ r.dels.length := by unfold lateD; exact List.length_filter_le ..
  have l5 := join_does ⟨s, (fA s r.atts).isEmpty, fA s r.atts, (fD s r.dels).isEmpty, fD s r.dels⟩ ⟨r.slots, r.an, lateA s r.atts, r.dn, lateD s r.dels⟩ (by simp only; omega) (by simp only; omega) (by simp only; omega) (by simp only; omega)
  rw [join_halves hio hs0 hs1] at l5
  have l6 := counts_does r hl1
  have l7 := counts_does ⟨s, (fA s r.atts).isEmpty, fA s r.atts, (fD s r.dels).isEmpty, fD s r.dels⟩ (by simp only; omega)
  have l8 := counts_does ⟨r.slots, r.an, lateA s r.atts, r.dn, lateD s r.dels⟩ (by simp only; omega)
  have l9 := same_does ⟨r.slots, r.atts.isEmpty, r.atts, r.dels.isEmpty, r.dels⟩ r hl1 hl2
  rw [(sameB_iff ⟨r.slots, r.atts.isEmpty, r.atts, r.dels.isEmpty, r.dels⟩ r).2 ⟨rfl, rfl, rfl⟩] at l9
  have n0 := dels_halves s r.dels
  have n1 := cntN_halves 1 s r.atts
  have n2 := cntN_halves 2 s r.atts
  have n3 := cntN_halves 3 s r.atts
  have n4 := cntN_halves 4 s r.atts
  have m1 := cntN_le2 1 r.atts
  have m2 := cntN_le2 2 r.atts
  have m3 := cntN_le2 3 r.atts
  have m4 := cntN_le2 4 r.atts
  have w0 : IntKind.i64.wrap (((fD s r.dels).length : Int) + ((lateD s r.dels).length : Int)) = (r.dels.length : Int) := by rw [n0]; exact wrap_i64 (by omega) (by omega)
  have w1 : IntKind.i64.wrap ((cntN 1 (fA s r.atts) : Int) + (cntN 1 (lateA s r.atts) : Int)) = (cntN 1 r.atts : Int) := by rw [n1]; exact wrap_i64 (by omega) (by omega)
  have w2 : IntKind.i64.wrap ((cntN 2 (fA s r.atts) : Int) + (cntN 2 (lateA s r.atts) : Int)) = (cntN 2 r.atts : Int) := by rw [n2]; exact wrap_i64 (by omega) (by omega)
  have w3 : IntKind.i64.wrap ((cntN 3 (fA s r.atts) : Int) + (cntN 3 (lateA s r.atts) : Int)) = (cntN 3 r.atts : Int) := by rw [n3]; exact wrap_i64 (by omega) (by omega)
  have w4 : IntKind.i64.wrap ((cntN 4 (fA s r.atts) : Int) + (cntN 4 (lateA s r.atts) : Int)) = (cntN 4 r.atts : Int) := by rw [n4]; exact wrap_i64 (by omega) (by omega)
  clear n0 n1 n2 n3 n4 m1 m2 m3 m4
  have d1 := fun bs bm => deleteA 35 (fun a => decide (a.slot < s)) bs bm [.int .i64 s] (fun x => cloA2 x bs s) r.atts hl1
  have d2 := fun bs bm => deleteD 37 (fun a => decide (a.slot < s)) bs bm [.int .i64 s] (fun x => cloD2 x bs s) r.dels hl2
  simp only [nt_lateA, nt_lateD] at d1 d2
  simp only [counts] at l6 l7 l8
  cases h1 : r.an <;> cases h2 : r.dn
  · have lc := cp_nn r h1 h2 ha hd hl1 hl2
    simp only [recC, h1, h2] at l1 l2 l3 l5 l6 l7 l8 l9 lc w0 w1 w2 w3 w4 ⊢
    repeat (first
      | (refine Tri.seq fun K hK => ?_)
      | (refine Tri.region ?_; simp [upd])
      | (refine Tri.draw (by kernel_rfl) (by decide +kernel) ?_; simp [upd])
      | (refine Tri.draw2 [5] [0, 1, 2, 3, 4, 5, 6] [7, 8, 9] [] (by kernel_rfl) (by kernel_rfl) (by decide) (by rfl) (by decide +kernel) ?_; simp [upd])
      | (refine Tri.cond_true ?_ ?_; (focus simp [upd]; done))
      | (refine Tri.cond_false ?_ ?_; (focus simp [upd]; done))
      | (refine Tri.skip ?_; simp only [thenS, blockS])
      | (refine Tri.block_seq ?_)
      | (refine Tri.block_region ?_)
      | (refine Tri.block_cond ?_)
      | ((with_reducible refine CallK.pure (l0) (Wks.refl _) ?_); simp [upd])
      | ((with_reducible refine CallK.pure (l1) (Wks.refl _) ?_); simp [upd])
      | (with_reducible (show CallK _ false 16 _ _ _ _); refine CallK.fresh lc [101, 102] (fun β => .agg [.int .i64 r.slots, .ms 8 101 (β 0) 0 r.atts.length, .ms 3 102 (β 1) 0 r.dels.length]) (Wks.refl _) (fun β => .agg3 (.refl _) (Wk.ms _ _ _ _ _ _) (Wk.ms _ _ _ _ _ _)) (fun _ => rfl) ?_; intro β; simp [upd])
      | ((with_reducible refine CallK.pure (l2) (Wks.refl _) ?_); simp [upd])
      | ((with_reducible refine CallK.pure (l3) (Wks.refl _) ?_); simp [upd])
      | (refine Tri.exit ?_; simp [upd]; first | (rename ∀ st, Tri _ _ _ st _ → _ => hK; first | (apply hK; clear hK) | (clear hK; rename ∀ st, Tri _ _ _ st _ → _ => hK; first | (apply hK; clear hK) | (clear hK; rename ∀ st, Tri _ _ _ st _ → _ => hK; first | (apply hK; clear hK) | (clear hK; rename ∀ st, Tri _ _ _ st _ → _ => hK; first | (apply hK; clear hK) | (clear hK; rename ∀ st, Tri _ _ _ st _ → _ => hK; first | (apply hK; clear hK) | (clear hK; rename ∀ st, Tri _ _ _ st _ → _ => hK; apply hK; clear hK)))))) | skip)
      | (intro β)
      | (rename ∀ st, Tri _ _ _ st _ → _ => hK; apply hK; clear hK))
    refine CallK.boxed (d1 _ _) [101, 3] [] [] (fun _ => .c (.ms 8 101 _ 0 (lateA s r.atts).length)) ⟨Wk.ms _ _ _ _ _ _, .fn1 _ (.box _ _ _ _), trivial⟩ ?_ trivial (by decide) (by simp) (fun _ => Wk.ms _ _ _ _ _ _) (fun _ => rfl) (by simp) ?_
    · simp [upd]
    intro _
    simp [upd]
    rename ∀ st, Tri _ _ _ st _ → _ => hK
    apply hK
    clear hK
    refine Tri.freeze (k := 101) (k' := 7) (i := 1) (n := 8) (rest := List.replicate ((r.atts.length - (lateA s r.atts).length) * 8) .any) (es := (lateA s r.atts).map attC) (key := 101) (by simp [upd] <;> exact ⟨rfl, rfl⟩) ?_ ?_ ?_ ?_ (by decide) (by simp [upd] <;> exact ⟨rfl, rfl⟩) ?_ (by simp) ?_
    · exact isObj_fill _ _ (isObj_flA _)
    · intro e he
      obtain ⟨x, _, rfl⟩ := List.mem_map.1 he
      rfl
    · rw [flA_eq]
    · exact flatA_all _
    · rfl
    simp only [List.set_cons_succ, List.set_cons_zero]
    repeat (first
      | (refine Tri.seq fun K hK => ?_)
      | (refine Tri.region ?_; simp [upd])
      | (refine Tri.draw (by kernel_rfl) (by decide +kernel) ?_; simp [upd])
      | (refine Tri.cond_true ?_ ?_; (focus simp [upd]; done))
      | (refine Tri.cond_false ?_ ?_; (focus simp [upd]; done))
      | (refine Tri.skip ?_; simp only [thenS, blockS])
      | (refine Tri.block_seq ?_)
      | (refine Tri.block_region ?_)
      | (refine Tri.block_cond ?_)
      | (refine Tri.exit ?_; simp [upd]; first | (rename ∀ st, Tri _ _ _ st _ → _ => hK; first | (apply hK; clear hK) | (clear hK; rename ∀ st, Tri _ _ _ st _ → _ => hK; first | (apply hK; clear hK) | (clear hK; rename ∀ st, Tri _ _ _ st _ → _ => hK; first | (apply hK; clear hK) | (clear hK; rename ∀ st, Tri _ _ _ st _ → _ => hK; first | (apply hK; clear hK) | (clear hK; rename ∀ st, Tri _ _ _ st _ → _ => hK; first | (apply hK; clear hK) | (clear hK; rename ∀ st, Tri _ _ _ st _ → _ => hK; apply hK; clear hK)))))) | skip)
      | (intro β)
      | (rename ∀ st, Tri _ _ _ st _ → _ => hK; apply hK; clear hK))
    refine CallK.boxed (d2 _ _) [102, 3] [] [] (fun _ => .c (.ms 3 102 _ 0 (lateD s r.dels).length)) ⟨Wk.ms _ _ _ _ _ _, .fn1 _ (.box _ _ _ _), trivial⟩ ?_ trivial (by decide) (by simp) (fun _ => Wk.ms _ _ _ _ _ _) (fun _ => rfl) (by simp) ?_
    · simp [upd]
    intro _
    simp [upd]
    rename ∀ st, Tri _ _ _ st _ → _ => hK
    apply hK
    clear hK
    refine Tri.freeze (k := 102) (k' := 7) (i := 2) (n := 3) (rest := List.replicate ((r.dels.length - (lateD s r.dels).length) * 3) .any) (es := (lateD s r.dels).map delC) (key := 102) (by simp [upd] <;> exact ⟨rfl, rfl⟩) ?_ ?_ ?_ ?_ (by decide) (by simp [upd] <;> exact ⟨rfl, rfl⟩) ?_ (by simp) ?_
    · exact isObj_fill _ _ (isObj_flD _)
    · intro e he
      obtain ⟨x, _, rfl⟩ := List.mem_map.1 he
      rfl
    · rw [flD_eq]
    · exact flatD_all _
    · rfl
    simp only [List.set_cons_succ, List.set_cons_zero]
    repeat (first
      | (refine Tri.seq fun K hK => ?_)
      | (refine Tri.region ?_; simp [upd])
      | (refine Tri.draw (by kernel_rfl) (by decide +kernel) ?_; simp [upd])
      | (refine Tri.draw2 [10, 11, 12] [0, 1, 2, 3, 4, 5] [6, 7, 8, 9, 10, 11] [] (by kernel_rfl) (by kernel_rfl) (by decide) (by rfl) (by decide +kernel) ?_; simp [upd])
      | (refine Tri.cond_true ?_ ?_; (focus simp [upd]; done))
      | (refine Tri.cond_false ?_ ?_; (focus simp [upd]; done))
      | (refine Tri.skip ?_; simp only [thenS, blockS])
      | (refine Tri.block_seq ?_)
      | (refine Tri.block_region ?_)
      | (refine Tri.block_cond ?_)
      | ((with_reducible refine CallK.pure (l5) (Wks.refl _) ?_); simp [upd])
      | ((with_reducible refine CallK.pure (l6) (Wks.refl _) ?_); simp [upd])
      | ((with_reducible refine CallK.pure (l7) (Wks.refl _) ?_); simp [upd])
      | ((with_reducible refine CallK.pure (l8) (Wks.refl _) ?_); simp [upd])
      | (refine Tri.exit ?_; simp [upd]; first | (rename ∀ st, Tri _ _ _ st _ → _ => hK; first | (apply hK; clear hK) | (clear hK; rename ∀ st, Tri _ _ _ st _ → _ => hK; first | (apply hK; clear hK) | (clear hK; rename ∀ st, Tri _ _ _ st _ → _ => hK; first | (apply hK; clear hK) | (clear hK; rename ∀ st, Tri _ _ _ st _ → _ => hK; first | (apply hK; clear hK) | (clear hK; rename ∀ st, Tri _ _ _ st _ → _ => hK; first | (apply hK; clear hK) | (clear hK; rename ∀ st, Tri _ _ _ st _ → _ => hK; apply hK; clear hK)))))) | skip)
      | (intro β)
      | (rename ∀ st, Tri _ _ _ st _ → _ => hK; apply hK; clear hK))
    refine Tri.block_loop 6 ?_
    repeat (first
      | (refine Tri.seq fun K hK => ?_)
      | (refine Tri.region ?_; simp [upd, w0, w1, w2, w3, w4, bne])
      | (refine Tri.draw (by kernel_rfl) (by decide +kernel) ?_; simp [upd, w0, w1, w2, w3, w4, bne])
      | (refine Tri.cond_true ?_ ?_; (focus simp [upd, w0, w1, w2, w3, w4, bne]; done))
      | (refine Tri.cond_false ?_ ?_; (focus simp [upd, w0, w1, w2, w3, w4, bne]; done))
      | (refine Tri.skip ?_; simp only [thenS, blockS])
      | (refine Tri.block_seq ?_)
      | (refine Tri.block_region ?_)
      | (refine Tri.block_cond ?_)
      | (refine Rounds.step ?_)
      | ((with_reducible refine CallK.pure (l9) (Wks.refl _) ?_); simp [upd, w0, w1, w2, w3, w4, bne])
      | (refine Tri.exit ?_; simp [upd, w0, w1, w2, w3, w4, bne]; first | (rename ∀ st, Tri _ _ _ st _ → _ => hK; first | (apply hK; clear hK) | (clear hK; rename ∀ st, Tri _ _ _ st _ → _ => hK; first | (apply hK; clear hK) | (clear hK; rename ∀ st, Tri _ _ _ st _ → _ => hK; first | (apply hK; clear hK) | (clear hK; rename ∀ st, Tri _ _ _ st _ → _ => hK; first | (apply hK; clear hK) | (clear hK; rename ∀ st, Tri _ _ _ st _ → _ => hK; first | (apply hK; clear hK) | (clear hK; rename ∀ st, Tri _ _ _ st _ → _ => hK; apply hK; clear hK)))))) | skip)
      | (intro β)
      | (rename ∀ st, Tri _ _ _ st _ → _ => hK; apply hK; clear hK))
    refine Tri.ret ⟨_, rfl, ?_⟩
    simp [upd]
    exact Wk.refl _
  · have z2 := hd h2
    have lc := cp_nz r h1 h2 ha hd hl1 hl2
    simp only [recC, h1, h2, z2, lateD_nil, fD_nil, List.map_nil, List.length_nil, List.isEmpty_nil] at l1 l2 l3 l5 l6 l7 l8 l9 lc w0 w1 w2 w3 w4 ⊢
    repeat (first
      | (refine Tri.seq fun K hK => ?_)
      | (refine Tri.region ?_; simp [upd])
      | (refine Tri.draw (by kernel_rfl) (by decide +kernel) ?_; simp [upd])
      | (refine Tri.draw2 [5] [0, 1, 2, 3, 4, 5, 6] [7, 8, 9] [] (by kernel_rfl) (by kernel_rfl) (by decide) (by rfl) (by decide +kernel) ?_; simp [upd])
      | (refine Tri.cond_true ?_ ?_; (focus simp [upd]; done))
      | (refine Tri.cond_false ?_ ?_; (focus simp [upd]; done))
      | (refine Tri.skip ?_; simp only [thenS, blockS])
      | (refine Tri.block_seq ?_)
      | (refine Tri.block_region ?_)
      | (refine Tri.block_cond ?_)
      | ((with_reducible refine CallK.pure (l0) (Wks.refl _) ?_); simp [upd])
      | ((with_reducible refine CallK.pure (l1) (Wks.refl _) ?_); simp [upd])
      | (with_reducible (show CallK _ false 16 _ _ _ _); refine CallK.fresh lc [101] (fun β => .agg [.int .i64 r.slots, .ms 8 101 (β 0) 0 r.atts.length, .sl true 3 none []]) (Wks.refl _) (fun β => .agg3 (.refl _) (Wk.ms _ _ _ _ _ _) (.refl _)) (fun _ => rfl) ?_; intro β; simp [upd])
      | ((with_reducible refine CallK.pure (l2) (Wks.refl _) ?_); simp [upd])
      | ((with_reducible refine CallK.pure (l3) (Wks.refl _) ?_); simp [upd])
      | (refine Tri.exit ?_; simp [upd]; first | (rename ∀ st, Tri _ _ _ st _ → _ => hK; first | (apply hK; clear hK) | (clear hK; rename ∀ st, Tri _ _ _ st _ → _ => hK; first | (apply hK; clear hK) | (clear hK; rename ∀ st, Tri _ _ _ st _ → _ => hK; first | (apply hK; clear hK) | (clear hK; rename ∀ st, Tri _ _ _ st _ → _ => hK; first | (apply hK; clear hK) | (clear hK; rename ∀ st, Tri _ _ _ st _ → _ => hK; first | (apply hK; clear hK) | (clear hK; rename ∀ st, Tri _ _ _ st _ → _ => hK; apply hK; clear hK)))))) | skip)
      | (intro β)
      | (rename ∀ st, Tri _ _ _ st _ → _ => hK; apply hK; clear hK))
    refine CallK.boxed (d1 _ _) [101, 3] [] [] (fun _ => .c (.ms 8 101 _ 0 (lateA s r.atts).length)) ⟨Wk.ms _ _ _ _ _ _, .fn1 _ (.box _ _ _ _), trivial⟩ ?_ trivial (by decide) (by simp) (fun _ => Wk.ms _ _ _ _ _ _) (fun _ => rfl) (by simp) ?_
    · simp [upd]
    intro _
    simp [upd]
    rename ∀ st, Tri _ _ _ st _ → _ => hK
    apply hK
    clear hK
    refine Tri.freeze (k := 101) (k' := 7) (i := 1) (n := 8) (rest := List.replicate ((r.atts.length - (lateA s r.atts).length) * 8) .any) (es := (lateA s r.atts).map attC) (key := 101) (by simp [upd] <;> exact ⟨rfl, rfl⟩) ?_ ?_ ?_ ?_ (by decide) (by simp [upd] <;> exact ⟨rfl, rfl⟩) ?_ (by simp) ?_
    · exact isObj_fill _ _ (isObj_flA _)
    · intro e he
      obtain ⟨x, _, rfl⟩ := List.mem_map.1 he
      rfl
    · rw [flA_eq]
    · exact flatA_all _
    · rfl
    simp only [List.set_cons_succ, List.set_cons_zero]
    repeat (first
      | (refine Tri.seq fun K hK => ?_)
      | (refine Tri.region ?_; simp [upd])
      | (refine Tri.draw (by kernel_rfl) (by decide +kernel) ?_; simp [upd])
      | (refine Tri.cond_true ?_ ?_; (focus simp [upd]; done))
      | (refine Tri.cond_false ?_ ?_; (focus simp [upd]; done))
      | (refine Tri.skip ?_; simp only [thenS, blockS])
      | (refine Tri.block_seq ?_)
      | (refine Tri.block_region ?_)
      | (refine Tri.block_cond ?_)
      | (refine Tri.exit ?_; simp [upd]; first | (rename ∀ st, Tri _ _ _ st _ → _ => hK; first | (apply hK; clear hK) | (clear hK; rename ∀ st, Tri _ _ _ st _ → _ => hK; first | (apply hK; clear hK) | (clear hK; rename ∀ st, Tri _ _ _ st _ → _ => hK; first | (apply hK; clear hK) | (clear hK; rename ∀ st, Tri _ _ _ st _ → _ => hK; first | (apply hK; clear hK) | (clear hK; rename ∀ st, Tri _ _ _ st _ → _ => hK; first | (apply hK; clear hK) | (clear hK; rename ∀ st, Tri _ _ _ st _ → _ => hK; apply hK; clear hK)))))) | skip)
      | (intro β)
      | (rename ∀ st, Tri _ _ _ st _ → _ => hK; apply hK; clear hK))
    refine CallK.look 3 (deleteD_nil 37 (fun a => decide (a.slot < s)) _ [.int .i64 s] (fun x => cloD2 x _ s)) ⟨.refl _, .fn1 _ (.box _ _ _ _), trivial⟩ ?_ ?_
    · simp [upd]
    simp [upd]
    repeat (first
      | (refine Tri.seq fun K hK => ?_)
      | (refine Tri.region ?_; simp [upd])
      | (refine Tri.draw (by kernel_rfl) (by decide +kernel) ?_; simp [upd])
      | (refine Tri.draw2 [10, 11, 12] [0, 1, 2, 3, 4, 5] [6, 7, 8, 9, 10, 11] [] (by kernel_rfl) (by kernel_rfl) (by decide) (by rfl) (by decide +kernel) ?_; simp [upd])
      | (refine Tri.cond_true ?_ ?_; (focus simp [upd]; done))
      | (refine Tri.cond_false ?_ ?_; (focus simp [upd]; done))
      | (refine Tri.skip ?_; simp only [thenS, blockS])
      | (refine Tri.block_seq ?_)
      | (refine Tri.block_region ?_)
      | (refine Tri.block_cond ?_)
      | ((with_reducible refine CallK.pure (l5) (Wks.refl _) ?_); simp [upd])
      | ((with_reducible refine CallK.pure (l6) (Wks.refl _) ?_); simp [upd])
      | ((with_reducible refine CallK.pure (l7) (Wks.refl _) ?_); simp [upd])
      | ((with_reducible refine CallK.pure (l8) (Wks.refl _) ?_); simp [upd])
      | (refine Tri.exit ?_; simp [upd]; first | (rename ∀ st, Tri _ _ _ st _ → _ => hK; first | (apply hK; clear hK) | (clear hK; rename ∀ st, Tri _ _ _ st _ → _ => hK; first | (apply hK; clear hK) | (clear hK; rename ∀ st, Tri _ _ _ st _ → _ => hK; first | (apply hK; clear hK) | (clear hK; rename ∀ st, Tri _ _ _ st _ → _ => hK; first | (apply hK; clear hK) | (clear hK; rename ∀ st, Tri _ _ _ st _ → _ => hK; first | (apply hK; clear hK) | (clear hK; rename ∀ st, Tri _ _ _ st _ → _ => hK; apply hK; clear hK)))))) | skip)
      | (intro β)
      | (rename ∀ st, Tri _ _ _ st _ → _ => hK; apply hK; clear hK))
    refine Tri.block_loop 6 ?_
    repeat (first
      | (refine Tri.seq fun K hK => ?_)
      | (refine Tri.region ?_; simp [upd, w0, w1, w2, w3, w4, bne])
      | (refine Tri.draw (by kernel_rfl) (by decide +kernel) ?_; simp [upd, w0, w1, w2, w3, w4, bne])
      | (refine Tri.cond_true ?_ ?_; (focus simp [upd, w0, w1, w2, w3, w4, bne]; done))
      | (refine Tri.cond_false ?_ ?_; (focus simp [upd, w0, w1, w2, w3, w4, bne]; done))
      | (refine Tri.skip ?_; simp only [thenS, blockS])
      | (refine Tri.block_seq ?_)
      | (refine Tri.block_region ?_)
      | (refine Tri.block_cond ?_)
      | (refine Rounds.step ?_)
      | ((with_reducible refine CallK.pure (l9) (Wks.refl _) ?_); simp [upd, w0, w1, w2, w3, w4, bne])
      | (refine Tri.exit ?_; simp [upd, w0, w1, w2, w3, w4, bne]; first | (rename ∀ st, Tri _ _ _ st _ → _ => hK; first | (apply hK; clear hK) | (clear hK; rename ∀ st, Tri _ _ _ st _ → _ => hK; first | (apply hK; clear hK) | (clear hK; rename ∀ st, Tri _ _ _ st _ → _ => hK; first | (apply hK; clear hK) | (clear hK; rename ∀ st, Tri _ _ _ st _ → _ => hK; first | (apply hK; clear hK) | (clear hK; rename ∀ st, Tri _ _ _ st _ → _ => hK; first | (apply hK; clear hK) | (clear hK; rename ∀ st, Tri _ _ _ st _ → _ => hK; apply hK; clear hK)))))) | skip)
      | (intro β)
      | (rename ∀ st, Tri _ _ _ st _ → _ => hK; apply hK; clear hK))
    refine Tri.ret ⟨_, rfl, ?_⟩
    simp [upd]
    exact Wk.refl _
  · have z1 := ha h1
    have lc := cp_zn r h1 h2 ha hd hl1 hl2
    simp only [recC, h1, h2, z1, lateA_nil, fA_nil, cntN_nil, List.map_nil, List.length_nil, List.isEmpty_nil] at l1 l2 l3 l5 l6 l7 l8 l9 lc w0 w1 w2 w3 w4 ⊢
    repeat (first
      | (refine Tri.seq fun K hK => ?_)
      | (refine Tri.region ?_; simp [upd])
      | (refine Tri.draw (by kernel_rfl) (by decide +kernel) ?_; simp [upd])
      | (refine Tri.draw2 [5] [0, 1, 2, 3, 4, 5, 6] [7, 8, 9] [] (by kernel_rfl) (by kernel_rfl) (by decide) (by rfl) (by decide +kernel) ?_; simp [upd])
      | (refine Tri.cond_true ?_ ?_; (focus simp [upd]; done))
      | (refine Tri.cond_false ?_ ?_; (focus simp [upd]; done))
      | (refine Tri.skip ?_; simp only [thenS, blockS])
      | (refine Tri.block_seq ?_)
      | (refine Tri.block_region ?_)
      | (refine Tri.block_cond ?_)
      | ((with_reducible refine CallK.pure (l0) (Wks.refl _) ?_); simp [upd])
      | ((with_reducible refine CallK.pure (l1) (Wks.refl _) ?_); simp [upd])
      | (with_reducible (show CallK _ false 16 _ _ _ _); refine CallK.fresh lc [102] (fun β => .agg [.int .i64 r.slots, .sl true 8 none [], .ms 3 102 (β 0) 0 r.dels.length]) (Wks.refl _) (fun β => .agg3 (.refl _) (.refl _) (Wk.ms _ _ _ _ _ _)) (fun _ => rfl) ?_; intro β; simp [upd])
      | ((with_reducible refine CallK.pure (l2) (Wks.refl _) ?_); simp [upd])
      | ((with_reducible refine CallK.pure (l3) (Wks.refl _) ?_); simp [upd])
      | (refine Tri.exit ?_; simp [upd]; first | (rename ∀ st, Tri _ _ _ st _ → _ => hK; first | (apply hK; clear hK) | (clear hK; rename ∀ st, Tri _ _ _ st _ → _ => hK; first | (apply hK; clear hK) | (clear hK; rename ∀ st, Tri _ _ _ st _ → _ => hK; first | (apply hK; clear hK) | (clear hK; rename ∀ st, Tri _ _ _ st _ → _ => hK; first | (apply hK; clear hK) | (clear hK; rename ∀ st, Tri _ _ _ st _ → _ => hK; first | (apply hK; clear hK) | (clear hK; rename ∀ st, Tri _ _ _ st _ → _ => hK; apply hK; clear hK)))))) | skip)
      | (intro β)
      | (rename ∀ st, Tri _ _ _ st _ → _ => hK; apply hK; clear hK))
    refine CallK.look 3 (deleteA_nil 35 (fun a => decide (a.slot < s)) _ [.int .i64 s] (fun x => cloA2 x _ s)) ⟨.refl _, .fn1 _ (.box _ _ _ _), trivial⟩ ?_ ?_
    · simp [upd]
    simp [upd]
    repeat (first
      | (refine Tri.seq fun K hK => ?_)
      | (refine Tri.region ?_; simp [upd])
      | (refine Tri.draw (by kernel_rfl) (by decide +kernel) ?_; simp [upd])
      | (refine Tri.cond_true ?_ ?_; (focus simp [upd]; done))
      | (refine Tri.cond_false ?_ ?_; (focus simp [upd]; done))
      | (refine Tri.skip ?_; simp only [thenS, blockS])
      | (refine Tri.block_seq ?_)
      | (refine Tri.block_region ?_)
      | (refine Tri.block_cond ?_)
      | (refine Tri.exit ?_; simp [upd]; first | (rename ∀ st, Tri _ _ _ st _ → _ => hK; first | (apply hK; clear hK) | (clear hK; rename ∀ st, Tri _ _ _ st _ → _ => hK; first | (apply hK; clear hK) | (clear hK; rename ∀ st, Tri _ _ _ st _ → _ => hK; first | (apply hK; clear hK) | (clear hK; rename ∀ st, Tri _ _ _ st _ → _ => hK; first | (apply hK; clear hK) | (clear hK; rename ∀ st, Tri _ _ _ st _ → _ => hK; first | (apply hK; clear hK) | (clear hK; rename ∀ st, Tri _ _ _ st _ → _ => hK; apply hK; clear hK)))))) | skip)
      | (intro β)
      | (rename ∀ st, Tri _ _ _ st _ → _ => hK; apply hK; clear hK))
    refine CallK.boxed (d2 _ _) [102, 3] [] [] (fun _ => .c (.ms 3 102 _ 0 (lateD s r.dels).length)) ⟨Wk.ms _ _ _ _ _ _, .fn1 _ (.box _ _ _ _), trivial⟩ ?_ trivial (by decide) (by simp) (fun _ => Wk.ms _ _ _ _ _ _) (fun _ => rfl) (by simp) ?_
    · simp [upd]
    intro _
    simp [upd]
    rename ∀ st, Tri _ _ _ st _ → _ => hK
    apply hK
    clear hK
    refine Tri.freeze (k := 102) (k' := 7) (i := 2) (n := 3) (rest := List.replicate ((r.dels.length - (lateD s r.dels).length) * 3) .any) (es := (lateD s r.dels).map delC) (key := 102) (by simp [upd] <;> exact ⟨rfl, rfl⟩) ?_ ?_ ?_ ?_ (by decide) (by simp [upd] <;> exact ⟨rfl, rfl⟩) ?_ (by simp) ?_
    · exact isObj_fill _ _ (isObj_flD _)
    · intro e he
      obtain ⟨x, _, rfl⟩ := List.mem_map.1 he
      rfl
    · rw [flD_eq]
    · exact flatD_all _
    · rfl
    simp only [List.set_cons_succ, List.set_cons_zero]
    repeat (first
      | (refine Tri.seq fun K hK => ?_)
      | (refine Tri.region ?_; simp [upd])
      | (refine Tri.draw (by kernel_rfl) (by decide +kernel) ?_; simp [upd])
      | (refine Tri.draw2 [10, 11, 12] [0, 1, 2, 3, 4, 5] [6, 7, 8, 9, 10, 11] [] (by kernel_rfl) (by kernel_rfl) (by decide) (by rfl) (by decide +kernel) ?_; simp [upd])
      | (refine Tri.cond_true ?_ ?_; (focus simp [upd]; done))
      | (refine Tri.cond_false ?_ ?_; (focus simp [upd]; done))
      | (refine Tri.skip ?_; simp only [thenS, blockS])
      | (refine Tri.block_seq ?_)
      | (refine Tri.block_region ?_)
      | (refine Tri.block_cond ?_)
      | ((with_reducible refine CallK.pure (l5) (Wks.refl _) ?_); simp [upd])
      | ((with_reducible refine CallK.pure (l6) (Wks.refl _) ?_); simp [upd])
      | ((with_reducible refine CallK.pure (l7) (Wks.refl _) ?_); simp [upd])
      | ((with_reducible refine CallK.pure (l8) (Wks.refl _) ?_); simp [upd])
      | (refine Tri.exit ?_; simp [upd]; first | (rename ∀ st, Tri _ _ _ st _ → _ => hK; first | (apply hK; clear hK) | (clear hK; rename ∀ st, Tri _ _ _ st _ → _ => hK; first | (apply hK; clear hK) | (clear hK; rename ∀ st, Tri _ _ _ st _ → _ => hK; first | (apply hK; clear hK) | (clear hK; rename ∀ st, Tri _ _ _ st _ → _ => hK; first | (apply hK; clear hK) | (clear hK; rename ∀ st, Tri _ _ _ st _ → _ => hK; first | (apply hK; clear hK) | (clear hK; rename ∀ st, Tri _ _ _ st _ → _ => hK; apply hK; clear hK)))))) | skip)
      | (intro β)
      | (rename ∀ st, Tri _ _ _ st _ → _ => hK; apply hK; clear hK))
    refine Tri.block_loop 6 ?_
    repeat (first
      | (refine Tri.seq fun K hK => ?_)
      | (refine Tri.region ?_; simp [upd, w0, w1, w2, w3, w4, bne])
      | (refine Tri.draw (by kernel_rfl) (by decide +kernel) ?_; simp [upd, w0, w1, w2, w3, w4, bne])
      | (refine Tri.cond_true ?_ ?_; (focus simp [upd, w0, w1, w2, w3, w4, bne]; done))
      | (refine Tri.cond_false ?_ ?_; (focus simp [upd, w0, w1, w2, w3, w4, bne]; done))
      | (refine Tri.skip ?_; simp only [thenS, blockS])
      | (refine Tri.block_seq ?_)
      | (refine Tri.block_region ?_)
      | (refine Tri.block_cond ?_)
      | (refine Rounds.step ?_)
      | ((with_reducible refine CallK.pure (l9) (Wks.refl _) ?_); simp [upd, w0, w1, w2, w3, w4, bne])
      | (refine Tri.exit ?_; simp [upd, w0, w1, w2, w3, w4, bne]; first | (rename ∀ st, Tri _ _ _ st _ → _ => hK; first | (apply hK; clear hK) | (clear hK; rename ∀ st, Tri _ _ _ st _ → _ => hK; first | (apply hK; clear hK) | (clear hK; rename ∀ st, Tri _ _ _ st _ → _ => hK; first | (apply hK; clear hK) | (clear hK; rename ∀ st, Tri _ _ _ st _ → _ => hK; first | (apply hK; clear hK) | (clear hK; rename ∀ st, Tri _ _ _ st _ → _ => hK; first | (apply hK; clear hK) | (clear hK; rename ∀ st, Tri _ _ _ st _ → _ => hK; apply hK; clear hK)))))) | skip)
      | (intro β)
      | (rename ∀ st, Tri _ _ _ st _ → _ => hK; apply hK; clear hK))
    refine Tri.ret ⟨_, rfl, ?_⟩
    simp [upd]
    exact Wk.refl _
  · have z1 := ha h1
    have z2 := hd h2
    have lc := cp_zz r h1 h2 ha hd hl1 hl2
    simp only [recC, h1, h2, z1, z2, lateA_nil, lateD_nil, fA_nil, fD_nil, cntN_nil, List.map_nil, List.length_nil, List.isEmpty_nil] at l1 l2 l3 l5 l6 l7 l8 l9 lc w0 w1 w2 w3 w4 ⊢
    repeat (first
      | (refine Tri.seq fun K hK => ?_)
      | (refine Tri.region ?_; simp [upd])
      | (refine Tri.draw (by kernel_rfl) (by decide +kernel) ?_; simp [upd])
      | (refine Tri.draw2 [5] [0, 1, 2, 3, 4, 5, 6] [7, 8, 9] [] (by kernel_rfl) (by kernel_rfl) (by decide) (by rfl) (by decide +kernel) ?_; simp [upd])
      | (refine Tri.cond_true ?_ ?_; (focus simp [upd]; done))
      | (refine Tri.cond_false ?_ ?_; (focus simp [upd]; done))
      | (refine Tri.skip ?_; simp only [thenS, blockS])
      | (refine Tri.block_seq ?_)
      | (refine Tri.block_region ?_)
      | (refine Tri.block_cond ?_)
      | ((with_reducible refine CallK.pure (l0) (Wks.refl _) ?_); simp [upd])
      | ((with_reducible refine CallK.pure (l1) (Wks.refl _) ?_); simp [upd])
      | (with_reducible (show CallK _ false 16 _ _ _ _); refine CallK.fresh lc [] (fun β => .agg [.int .i64 r.slots, .sl true 8 none [], .sl true 3 none []]) (Wks.refl _) (fun β => .agg3 (.refl _) (.refl _) (.refl _)) (fun _ => rfl) ?_; intro β; simp [upd])
      | ((with_reducible refine CallK.pure (l2) (Wks.refl _) ?_); simp [upd])
      | ((with_reducible refine CallK.pure (l3) (Wks.refl _) ?_); simp [upd])
      | (refine Tri.exit ?_; simp [upd]; first | (rename ∀ st, Tri _ _ _ st _ → _ => hK; first | (apply hK; clear hK) | (clear hK; rename ∀ st, Tri _ _ _ st _ → _ => hK; first | (apply hK; clear hK) | (clear hK; rename ∀ st, Tri _ _ _ st _ → _ => hK; first | (apply hK; clear hK) | (clear hK; rename ∀ st, Tri _ _ _ st _ → _ => hK; first | (apply hK; clear hK) | (clear hK; rename ∀ st, Tri _ _ _ st _ → _ => hK; first | (apply hK; clear hK) | (clear hK; rename ∀ st, Tri _ _ _ st _ → _ => hK; apply hK; clear hK)))))) | skip)
      | (intro β)
      | (rename ∀ st, Tri _ _ _ st _ → _ => hK; apply hK; clear hK))
    refine CallK.look 3 (deleteA_nil 35 (fun a => decide (a.slot < s)) _ [.int .i64 s] (fun x => cloA2 x _ s)) ⟨.refl _, .fn1 _ (.box _ _ _ _), trivial⟩ ?_ ?_
    · simp [upd]
    simp [upd]
    repeat (first
      | (refine Tri.seq fun K hK => ?_)
      | (refine Tri.region ?_; simp [upd])
      | (refine Tri.draw (by kernel_rfl) (by decide +kernel) ?_; simp [upd])
      | (refine Tri.cond_true ?_ ?_; (focus simp [upd]; done))
      | (refine Tri.cond_false ?_ ?_; (focus simp [upd]; done))
      | (refine Tri.skip ?_; simp only [thenS, blockS])
      | (refine Tri.block_seq ?_)
      | (refine Tri.block_region ?_)
      | (refine Tri.block_cond ?_)
      | (refine Tri.exit ?_; simp [upd]; first | (rename ∀ st, Tri _ _ _ st _ → _ => hK; first | (apply hK; clear hK) | (clear hK; rename ∀ st, Tri _ _ _ st _ → _ => hK; first | (apply hK; clear hK) | (clear hK; rename ∀ st, Tri _ _ _ st _ → _ => hK; first | (apply hK; clear hK) | (clear hK; rename ∀ st, Tri _ _ _ st _ → _ => hK; first | (apply hK; clear hK) | (clear hK; rename ∀ st, Tri _ _ _ st _ → _ => hK; first | (apply hK; clear hK) | (clear hK; rename ∀ st, Tri _ _ _ st _ → _ => hK; apply hK; clear hK)))))) | skip)
      | (intro β)
      | (rename ∀ st, Tri _ _ _ st _ → _ => hK; apply hK; clear hK))
    refine CallK.look 3 (deleteD_nil 37 (fun a => decide (a.slot < s)) _ [.int .i64 s] (fun x => cloD2 x _ s)) ⟨.refl _, .fn1 _ (.box _ _ _ _), trivial⟩ ?_ ?_
    · simp [upd]
    simp [upd]
    repeat (first
      | (refine Tri.seq fun K hK => ?_)
      | (refine Tri.region ?_; simp [upd])
      | (refine Tri.draw (by kernel_rfl) (by decide +kernel) ?_; simp [upd])
      | (refine Tri.draw2 [10, 11, 12] [0, 1, 2, 3, 4, 5] [6, 7, 8, 9, 10, 11] [] (by kernel_rfl) (by kernel_rfl) (by decide) (by rfl) (by decide +kernel) ?_; simp [upd])
      | (refine Tri.cond_true ?_ ?_; (focus simp [upd]; done))
      | (refine Tri.cond_false ?_ ?_; (focus simp [upd]; done))
      | (refine Tri.skip ?_; simp only [thenS, blockS])
      | (refine Tri.block_seq ?_)
      | (refine Tri.block_region ?_)
      | (refine Tri.block_cond ?_)
      | ((with_reducible refine CallK.pure (l5) (Wks.refl _) ?_); simp [upd])
      | ((with_reducible refine CallK.pure (l6) (Wks.refl _) ?_); simp [upd])
      | ((with_reducible refine CallK.pure (l7) (Wks.refl _) ?_); simp [upd])
      | ((with_reducible refine CallK.pure (l8) (Wks.refl _) ?_); simp [upd])
      | (refine Tri.exit ?_; simp [upd]; first | (rename ∀ st, Tri _ _ _ st _ → _ => hK; first | (apply hK; clear hK) | (clear hK; rename ∀ st, Tri _ _ _ st _ → _ => hK; first | (apply hK; clear hK) | (clear hK; rename ∀ st, Tri _ _ _ st _ → _ => hK; first | (apply hK; clear hK) | (clear hK; rename ∀ st, Tri _ _ _ st _ → _ => hK; first | (apply hK; clear hK) | (clear hK; rename ∀ st, Tri _ _ _ st _ → _ => hK; first | (apply hK; clear hK) | (clear hK; rename ∀ st, Tri _ _ _ st _ → _ => hK; apply hK; clear hK)))))) | skip)
      | (intro β)
      | (rename ∀ st, Tri _ _ _ st _ → _ => hK; apply hK; clear hK))
    refine Tri.block_loop 6 ?_
    repeat (first
      | (refine Tri.seq fun K hK => ?_)
      | (refine Tri.region ?_; simp [upd, w0, w1, w2, w3, w4, bne])
      | (refine Tri.draw (by kernel_rfl) (by decide +kernel) ?_; simp [upd, w0, w1, w2, w3, w4, bne])
      | (refine Tri.cond_true ?_ ?_; (focus simp [upd, w0, w1, w2, w3, w4, bne]; done))
      | (refine Tri.cond_false ?_ ?_; (focus simp [upd, w0, w1, w2, w3, w4, bne]; done))
      | (refine Tri.skip ?_; simp only [thenS, blockS])
      | (refine Tri.block_seq ?_)
      | (refine Tri.block_region ?_)
      | (refine Tri.block_cond ?_)
      | (refine Rounds.step ?_)
      | ((with_reducible refine CallK.pure (l9) (Wks.refl _) ?_); simp [upd, w0, w1, w2, w3, w4, bne])
      | (refine Tri.exit ?_; simp [upd, w0, w1, w2, w3, w4, bne]; first | (rename ∀ st, Tri _ _ _ st _ → _ => hK; first | (apply hK; clear hK) | (clear hK; rename ∀ st, Tri _ _ _ st _ → _ => hK; first | (apply hK; clear hK) | (clear hK; rename ∀ st, Tri _ _ _ st _ → _ => hK; first | (apply hK; clear hK) | (clear hK; rename ∀ st, Tri _ _ _ st _ → _ => hK; first | (apply hK; clear hK) | (clear hK; rename ∀ st, Tri _ _ _ st _ → _ => hK; first | (apply hK; clear hK) | (clear hK; rename ∀ st, Tri _ _ _ st _ → _ => hK; apply hK; clear hK)))))) | skip)
      | (intro β)
      | (rename ∀ st, Tri _ _ _ st _ → _ => hK; apply hK; clear hK))
    refine Tri.ret ⟨_, rfl, ?_⟩
    simp [upd]
    exact Wk.refl _
end Go.Proofs.Ytcohdlochpjnjaa
end
section
open Go Go.Vm
open Go.ChangeShapes Go.WideShapes Go.ChangeAt Go.RowKit
namespace Go.Proofs.Ytcohdlochpjnjaa.recordHalves
set_option linter.unusedVariables false
theorem own : ownKnob Try.prog.godebug = none := by kernel_rfl
set_option maxRecDepth 100000 in
theorem lifted (os : Os) (started : os.Started) (H : Type) (enc : TypeId × Value → H) :
    ReturnsInHanded {} Try.checked os 9 .any (Rows.recordHalvesSpec.pre6 enc Try.prog Try.f9 Rows.recordHalvesRow.domain false) (Rows.recordHalvesSpec.post enc Try.prog Try.f9 false true false false) := by
  refine returnsInHanded_of_change (C := Try.checked) own started (by kernel_rfl) Try.func9
    (ChangeSpec.witness6 (enc := enc) (C := Try.checked) false ⟨#[], #[.agg #[.int .i64 0, .slice none 0 0, .slice none 0 0], .int .i64 0], []⟩ 8 (by kernel_rfl) (by kernel_rfl) (by kernel_rfl) (by kernel_rfl)) ?_
  intro W base args ds gs before hval0 hW hcnd _
  have hval : ∀ (j : Nat) t v, Try.f9.params[j]? = some t → args[j]? = some v → Value.okWide Try.prog W .any base t v := hval0
  have hW' := hW
  obtain ⟨p, q, hA0, hV, rfl, hfz, hnd⟩ := hW
  have hA : DataW.TrodAll enc Try.prog W 0 (fun _ => true) true Try.f9.params.toList args.toList ds p := hA0
  rw [Try.params9] at hA hval
  obtain ⟨v0, vs0, d0, ds0, p0, q0, hargs0, rfl, rfl, h0, r0⟩ := trodAll_cons hA
  obtain ⟨v1, vs1, d1, ds1, p1, q1, hargs1, rfl, rfl, h1, r1⟩ := trodAll_cons r0
  subst hargs1
  obtain ⟨rfl, rfl, rfl⟩ := trodAll_nil r1
  obtain rfl : args = #[v0, v1] := by cases args; simp_all
  obtain ⟨rfl, rfl⟩ := trodVars_none hV
  obtain ⟨r, hra, hrd, hrl, hrm, hv0⟩ := open_rec (hval 0 28 v0 rfl rfl) h0
  obtain ⟨s, rfl, rfl, rfl, w1⟩ := open_int (k := .i64) (by kernel_rfl) (hval 1 3 v1 rfl rfl) h1
  have hs : -9223372036854775808 ≤ s ∧ s < 9223372036854775808 := by
    have := w1
    simp [Lit.wf, IntKind.min, IntKind.max, IntKind.signed, IntKind.bits] at this
    omega
  clear hA0 hval0
  simp only [List.append_nil] at hW'
  have hlt := hW'.lt
  have hD := ((halves_does r s hra hrd)).2 (fun b _ => b < W.heap.size) W [v0, .int .i64 s] ⟨rfl, fun k hk => match k, hk with
    | 0, _ => hv0
    | 1, _ => .c (.int _ _)⟩ (fun b _ h => h)
  refine hD.mono fun e W' ⟨u, F', he, hu, hl⟩ => ?_
  subst he
  have hb : Below W.heap.size W W' := ⟨hl.os, hl.tape, hl.output, hl.size, hl.block⟩
  have hu' := hu.inv
  cases hu'
  have hsame0 : ∀ p ∈ p0, W.sameAt W' p := fun p hp => hb.same (hlt p (by simp [hp]))
  exact ⟨_, rfl, post_below (pa := (p0 ++ ([] ++ []))) (pv := []) hW' hb (by simp) (fun _ _ _ => (trodAll_cons_mk (shut_bool Try.underlying4 _) trodAll_mk0))
    (fun sp hsp => (trodAll_cons_mk (WideElems.Trod_stays (by kernel_rfl) (by kernel_rfl) (by decide +kernel) h0 hsame0 fun p hp => hsp p (by simp [hp])) (trodAll_cons_mk (shut_int (by kernel_rfl) w1) trodAll_mk0)))
    (fun _ _ => rfl) (ok_one (by kernel_rfl) rfl (okWide_bool_mk Try.underlying4 _))⟩
theorem over : Rows.recordHalvesRow.holds Try.pinned (OpenSpec.ofChange Rows.recordHalvesSpec) :=
  OpenClaim.holds_of_wide 9 Try.f9 rfl rfl rfl rfl rfl rfl rfl ⟨rfl, rfl, rfl, rfl, rfl⟩ rfl rfl rfl rfl rfl (by kernel_rfl) Try.func9 (by kernel_rfl)
    (of_decide_eq_true (by kernel_rfl)) (by unfold Func.isWrapper; first | (rw [if_pos (by decide +kernel)]; kernel_rfl) | (rw [if_neg (by decide +kernel)]; exact ⟨rfl, rfl⟩))
    (fun os started H enc _ => lifted os started H enc)
theorem proved : Rows.RecordHalvesSaid :=
  over
end Go.Proofs.Ytcohdlochpjnjaa.recordHalves
end
