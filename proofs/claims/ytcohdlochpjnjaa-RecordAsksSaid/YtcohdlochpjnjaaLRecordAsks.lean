/- For every record, flow, frame and nodes: RecordAsks answers true, and its arguments read afterwards as before; no condition. -/
import Derived.Test.YtcohdlochpjnjaaB4
import Derived.Test.YtcohdlochpjnjaaRows
import Derived.ShutString
set_option linter.all false
section
open Go Go.Vm
namespace Go.Proofs.Ytcohdlochpjnjaa
set_option maxRecDepth 100000
set_option maxHeartbeats 4000000
set_option linter.unusedSimpArgs false
def ofF (flow frame : Int) (l : List Att) : List Att := l.filter fun a => a.flow == flow && a.frame == frame
theorem ofF_all (r : Rec) (flow frame : Int) : attsOf r flow frame = ofF flow frame r.atts := rfl
theorem ofF_take (flow frame : Int) (l : List Att) (k : Nat) (hk : k < l.length) : ofF flow frame (l.take (k + 1)) = ofF flow frame (l.take k) ++ (if l[k].flow = flow ∧ l[k].frame = frame then [l[k]] else []) := by
  rw [List.take_succ_eq_append_getElem hk]
  unfold ofF
  rw [List.filter_append]
  by_cases h : l[k].flow = flow ∧ l[k].frame = frame <;> simp [h]
theorem ofF_le (flow frame : Int) (l : List Att) : (ofF flow frame l).length ≤ l.length := List.length_filter_le ..
attribute [local irreducible] Tri Does DoesB Rounds ofF attsOf
structure TI (r : Rec) (flow frame : Int) (st : St) (b3 : Nat) (G : C) : Prop where
  hn : st.n = 40
  s1 : st.sl 1 = .c (.int .i64 flow)
  s2 : st.sl 2 = .c (.int .i64 frame)
  s3 : st.sl 3 = .c (.box 3 b3 0)
  x3 : st.bx 3 = some (b3, [.int .i64 r.slots, .sl r.an 8 none (r.atts.map attC), .sl r.dn 3 none (r.dels.map delC)])
  s7 : st.sl 7 = .c G
def TInv (r : Rec) (flow frame : Int) (m : Nat) (st : St) : Prop := ∃ b3 G i, TI r flow frame st b3 G ∧ m + i = r.atts.length ∧ st.sl 8 = .c (.int .i64 (i : Nat)) ∧ GC st G 38 45 8 ((ofF flow frame (r.atts.take i)).map attC)
theorem attemptsR_does (r : Rec) (flow frame : Int) (hl : r.atts.length ≤ 1073741824) : Does Try.prog 25 [.agg (recC r), .c (.int .i64 flow), .c (.int .i64 frame)] (.c (.sl (attsOf r flow frame).isEmpty 8 none ((attsOf r flow frame).map attC))) := by
  refine Does.of_body Try.func25 rfl (by kernel_rfl) rfl rfl (by simp) ?_
  intro E
  rw [ofF_all]
  simp only [recC]
  repeat (first
    | (refine Tri.seq fun K hK => ?_)
    | (refine Tri.region ?_; simp [upd])
    | (refine Tri.draw (by kernel_rfl) (by decide +kernel) ?_; simp [upd])
    | (refine Tri.cond_true ?_ ?_; (focus simp [upd]; done))
    | (refine Tri.cond_false ?_ ?_; (focus simp [upd]; done))
    | (refine Tri.skip ?_; simp only [thenS, blockS])
    | (refine Tri.block_seq ?_)
    | (refine Tri.block_region ?_)
    | (refine Tri.block_cond ?_)
    | (refine Tri.exit ?_; simp [upd]; first | (rename ∀ st, Tri _ _ _ st _ → _ => hK; first | (apply hK; clear hK) | (clear hK; rename ∀ st, Tri _ _ _ st _ → _ => hK; first | (apply hK; clear hK) | (clear hK; rename ∀ st, Tri _ _ _ st _ → _ => hK; first | (apply hK; clear hK) | (clear hK; rename ∀ st, Tri _ _ _ st _ → _ => hK; first | (apply hK; clear hK) | (clear hK; rename ∀ st, Tri _ _ _ st _ → _ => hK; first | (apply hK; clear hK) | (clear hK; rename ∀ st, Tri _ _ _ st _ → _ => hK; apply hK; clear hK)))))) | skip)
    | (intro β)
    | (rename ∀ st, Tri _ _ _ st _ → _ => hK; apply hK; clear hK))
  rename ∀ st, Tri _ _ _ st _ → _ => hK
  have fin := fun (st : St) (h : ∃ G, st.n = 40 ∧ st.sl 7 = .c G ∧ GC st G 38 45 8 ((ofF flow frame r.atts).map attC)) => hK st ?tail
  case tail =>
    obtain ⟨G, hn, s7, hG⟩ := h
    have wG : Wk (.c G) (.c (.sl (ofF flow frame r.atts).isEmpty 8 none ((ofF flow frame r.atts).map attC))) := by simpa using GC.wk hG
    repeat (first
      | (refine Tri.seq fun K hK => ?_)
      | (refine Tri.region ?_; simp [upd, hn, s7])
      | (refine Tri.draw (by kernel_rfl) (by decide +kernel) ?_; simp [upd, hn, s7])
      | (refine Tri.cond_true ?_ ?_; (focus simp [upd, hn, s7]; done))
      | (refine Tri.cond_false ?_ ?_; (focus simp [upd, hn, s7]; done))
      | (refine Tri.skip ?_; simp only [thenS, blockS])
      | (refine Tri.block_seq ?_)
      | (refine Tri.block_region ?_)
      | (refine Tri.block_cond ?_)
      | (refine Tri.exit ?_; simp [upd, hn, s7]; first | (rename ∀ st, Tri _ _ _ st _ → _ => hK; first | (apply hK; clear hK) | (clear hK; rename ∀ st, Tri _ _ _ st _ → _ => hK; first | (apply hK; clear hK) | (clear hK; rename ∀ st, Tri _ _ _ st _ → _ => hK; first | (apply hK; clear hK) | (clear hK; rename ∀ st, Tri _ _ _ st _ → _ => hK; first | (apply hK; clear hK) | (clear hK; rename ∀ st, Tri _ _ _ st _ → _ => hK; first | (apply hK; clear hK) | (clear hK; rename ∀ st, Tri _ _ _ st _ → _ => hK; apply hK; clear hK)))))) | skip)
      | (intro β)
      | (rename ∀ st, Tri _ _ _ st _ → _ => hK; apply hK; clear hK))
    exact Tri.ret ⟨_, rfl, by simpa [upd] using wG⟩
  clear hK
  refine Tri.block (Tri.loop (TInv r flow frame) r.atts.length ?_ ?_)
  · exact ⟨_, .sl true 0 none [], 0, ⟨rfl, by simp [upd], by simp [upd], by simp [upd] <;> exact rfl, by simp [upd] <;> exact rfl, by simp [upd]⟩, rfl, by simp [upd], .inl ⟨by simp [ofF], _, _, rfl⟩⟩
  · rintro m st ⟨b3, G, i, ⟨hn, s1, s2, s3, x3, s7⟩, hm, s8, hG⟩
    by_cases hi : i < r.atts.length
    case neg =>
      rw [List.take_of_length_le (by omega)] at hG
      repeat (first
        | (refine Tri.seq fun K hK => ?_)
        | (refine Tri.region ?_; simp [upd, hn, s1, s2, s3, x3, s7, s8, hi])
        | (refine Tri.draw (by kernel_rfl) (by decide +kernel) ?_; simp [upd, hn, s1, s2, s3, x3, s7, s8, hi])
        | (refine Tri.cond_true ?_ ?_; (focus simp [upd, hn, s1, s2, s3, x3, s7, s8, hi]; done))
        | (refine Tri.cond_false ?_ ?_; (focus simp [upd, hn, s1, s2, s3, x3, s7, s8, hi]; done))
        | (refine Tri.skip ?_; simp only [thenS, blockS])
        | (refine Tri.block_seq ?_)
        | (refine Tri.block_region ?_)
        | (refine Tri.block_cond ?_)
        | (refine Tri.exit ?_; simp [upd, hn, s1, s2, s3, x3, s7, s8, hi]; first | (rename ∀ st, Tri _ _ _ st _ → _ => hK; first | (apply hK; clear hK) | (clear hK; rename ∀ st, Tri _ _ _ st _ → _ => hK; first | (apply hK; clear hK) | (clear hK; rename ∀ st, Tri _ _ _ st _ → _ => hK; first | (apply hK; clear hK) | (clear hK; rename ∀ st, Tri _ _ _ st _ → _ => hK; first | (apply hK; clear hK) | (clear hK; rename ∀ st, Tri _ _ _ st _ → _ => hK; first | (apply hK; clear hK) | (clear hK; rename ∀ st, Tri _ _ _ st _ → _ => hK; apply hK; clear hK)))))) | skip)
        | (intro β)
        | (rename ∀ st, Tri _ _ _ st _ → _ => hK; apply hK; clear hK))
      apply fin
      exact ⟨G, rfl, by simp [upd, s7], by simpa [GC] using hG⟩
    have hw : IntKind.i64.wrap ((i : Int) + 1) = (i : Int) + 1 := wrap_i64 (by omega) (by omega)
    have ht := ofF_take flow frame r.atts i hi
    have hle := ofF_le flow frame (r.atts.take i)
    rw [List.length_take] at hle
    cases g1 : (r.atts[i].flow == flow)
    case false =>
      rw [if_neg (fun h => by simp [h.1] at g1), List.append_nil] at ht
      repeat (first
        | (refine Tri.seq fun K hK => ?_)
        | (refine Tri.region ?_; simp [upd, hn, s1, s2, s3, x3, s7, s8, hi, hw, g1])
        | (refine Tri.draw (by kernel_rfl) (by decide +kernel) ?_; simp [upd, hn, s1, s2, s3, x3, s7, s8, hi, hw, g1])
        | (refine Tri.cond_true ?_ ?_; (focus simp [upd, hn, s1, s2, s3, x3, s7, s8, hi, hw, g1]; done))
        | (refine Tri.cond_false ?_ ?_; (focus simp [upd, hn, s1, s2, s3, x3, s7, s8, hi, hw, g1]; done))
        | (refine Tri.skip ?_; simp only [thenS, blockS])
        | (refine Tri.block_seq ?_)
        | (refine Tri.block_region ?_)
        | (refine Tri.block_cond ?_)
        | (refine Tri.exit ?_; simp [upd, hn, s1, s2, s3, x3, s7, s8, hi, hw, g1]; first | (rename ∀ st, Tri _ _ _ st _ → _ => hK; first | (apply hK; clear hK) | (clear hK; rename ∀ st, Tri _ _ _ st _ → _ => hK; first | (apply hK; clear hK) | (clear hK; rename ∀ st, Tri _ _ _ st _ → _ => hK; first | (apply hK; clear hK) | (clear hK; rename ∀ st, Tri _ _ _ st _ → _ => hK; first | (apply hK; clear hK) | (clear hK; rename ∀ st, Tri _ _ _ st _ → _ => hK; first | (apply hK; clear hK) | (clear hK; rename ∀ st, Tri _ _ _ st _ → _ => hK; apply hK; clear hK)))))) | skip)
        | (intro β)
        | (rename ∀ st, Tri _ _ _ st _ → _ => hK; apply hK; clear hK))
      exact ⟨m - 1, by omega, b3, G, i + 1, ⟨rfl, by simp [upd, s1], by simp [upd, s2], by simp [upd, s3], by simpa using x3, by simp [upd, s7]⟩, by omega, by simp [upd], by simpa [GC, ht] using hG⟩
    cases g2 : (r.atts[i].frame == frame)
    case false =>
      rw [if_neg (fun h => by simp [h.2] at g2), List.append_nil] at ht
      repeat (first
        | (refine Tri.seq fun K hK => ?_)
        | (refine Tri.region ?_; simp [upd, hn, s1, s2, s3, x3, s7, s8, hi, hw, g1, g2])
        | (refine Tri.draw (by kernel_rfl) (by decide +kernel) ?_; simp [upd, hn, s1, s2, s3, x3, s7, s8, hi, hw, g1, g2])
        | (refine Tri.cond_true ?_ ?_; (focus simp [upd, hn, s1, s2, s3, x3, s7, s8, hi, hw, g1, g2]; done))
        | (refine Tri.cond_false ?_ ?_; (focus simp [upd, hn, s1, s2, s3, x3, s7, s8, hi, hw, g1, g2]; done))
        | (refine Tri.skip ?_; simp only [thenS, blockS])
        | (refine Tri.block_seq ?_)
        | (refine Tri.block_region ?_)
        | (refine Tri.block_cond ?_)
        | (refine Tri.exit ?_; simp [upd, hn, s1, s2, s3, x3, s7, s8, hi, hw, g1, g2]; first | (rename ∀ st, Tri _ _ _ st _ → _ => hK; first | (apply hK; clear hK) | (clear hK; rename ∀ st, Tri _ _ _ st _ → _ => hK; first | (apply hK; clear hK) | (clear hK; rename ∀ st, Tri _ _ _ st _ → _ => hK; first | (apply hK; clear hK) | (clear hK; rename ∀ st, Tri _ _ _ st _ → _ => hK; first | (apply hK; clear hK) | (clear hK; rename ∀ st, Tri _ _ _ st _ → _ => hK; first | (apply hK; clear hK) | (clear hK; rename ∀ st, Tri _ _ _ st _ → _ => hK; apply hK; clear hK)))))) | skip)
        | (intro β)
        | (rename ∀ st, Tri _ _ _ st _ → _ => hK; apply hK; clear hK))
      exact ⟨m - 1, by omega, b3, G, i + 1, ⟨rfl, by simp [upd, s1], by simp [upd, s2], by simp [upd, s3], by simpa using x3, by simp [upd, s7]⟩, by omega, by simp [upd], by simpa [GC, ht] using hG⟩
    rw [if_pos ⟨by simpa using g1, by simpa using g2⟩] at ht
    generalize ofF flow frame (r.atts.take i) = acc at *
    rcases hG with ⟨hnil, k0, own, rfl⟩ | ⟨b, hne, rfl, hrw⟩
    · have hacc : acc = [] := by simpa using hnil
      subst hacc
      repeat (first
        | (refine Tri.seq fun K hK => ?_)
        | (refine Tri.region ?_; simp [upd, hn, s1, s2, s3, x3, s7, s8, hi, hw, g1, g2])
        | (refine Tri.draw (by kernel_rfl) (by decide +kernel) ?_; simp [upd, hn, s1, s2, s3, x3, s7, s8, hi, hw, g1, g2])
        | (refine Tri.cond_true ?_ ?_; (focus simp [upd, hn, s1, s2, s3, x3, s7, s8, hi, hw, g1, g2]; done))
        | (refine Tri.cond_false ?_ ?_; (focus simp [upd, hn, s1, s2, s3, x3, s7, s8, hi, hw, g1, g2]; done))
        | (refine Tri.skip ?_; simp only [thenS, blockS])
        | (refine Tri.block_seq ?_)
        | (refine Tri.block_region ?_)
        | (refine Tri.block_cond ?_)
        | (refine Tri.exit ?_; simp [upd, hn, s1, s2, s3, x3, s7, s8, hi, hw, g1, g2]; first | (rename ∀ st, Tri _ _ _ st _ → _ => hK; first | (apply hK; clear hK) | (clear hK; rename ∀ st, Tri _ _ _ st _ → _ => hK; first | (apply hK; clear hK) | (clear hK; rename ∀ st, Tri _ _ _ st _ → _ => hK; first | (apply hK; clear hK) | (clear hK; rename ∀ st, Tri _ _ _ st _ → _ => hK; first | (apply hK; clear hK) | (clear hK; rename ∀ st, Tri _ _ _ st _ → _ => hK; first | (apply hK; clear hK) | (clear hK; rename ∀ st, Tri _ _ _ st _ → _ => hK; apply hK; clear hK)))))) | skip)
        | (intro β)
        | (rename ∀ st, Tri _ _ _ st _ → _ => hK; apply hK; clear hK))
      exact ⟨m - 1, by omega, b3, .sl false 8 (some (38, β)) ([r.atts[i]].map attC), i + 1, ⟨rfl, by simp [upd, s1], by simp [upd, s2], by simp [upd, s3], by simpa using x3, by simp [upd, s7]⟩, by omega, by simp [upd], .inr ⟨β, by simp [ht], by simp [ht], by simp [ht, upd]⟩⟩
    · have hb : (acc.length + 1) * 64 ≤ 140737488355328 := by omega
      rw [List.length_map] at hrw
      repeat (first
        | (refine Tri.seq fun K hK => ?_)
        | (refine Tri.region ?_; simp [upd, hn, s1, s2, s3, x3, s7, s8, hi, hw, g1, g2, hb, hrw])
        | (refine Tri.draw (by kernel_rfl) (by decide +kernel) ?_; simp [upd, hn, s1, s2, s3, x3, s7, s8, hi, hw, g1, g2, hb, hrw])
        | (refine Tri.cond_true ?_ ?_; (focus simp [upd, hn, s1, s2, s3, x3, s7, s8, hi, hw, g1, g2, hb, hrw]; done))
        | (refine Tri.cond_false ?_ ?_; (focus simp [upd, hn, s1, s2, s3, x3, s7, s8, hi, hw, g1, g2, hb, hrw]; done))
        | (refine Tri.skip ?_; simp only [thenS, blockS])
        | (refine Tri.block_seq ?_)
        | (refine Tri.block_region ?_)
        | (refine Tri.block_cond ?_)
        | (refine Tri.exit ?_; simp [upd, hn, s1, s2, s3, x3, s7, s8, hi, hw, g1, g2, hb, hrw]; first | (rename ∀ st, Tri _ _ _ st _ → _ => hK; first | (apply hK; clear hK) | (clear hK; rename ∀ st, Tri _ _ _ st _ → _ => hK; first | (apply hK; clear hK) | (clear hK; rename ∀ st, Tri _ _ _ st _ → _ => hK; first | (apply hK; clear hK) | (clear hK; rename ∀ st, Tri _ _ _ st _ → _ => hK; first | (apply hK; clear hK) | (clear hK; rename ∀ st, Tri _ _ _ st _ → _ => hK; first | (apply hK; clear hK) | (clear hK; rename ∀ st, Tri _ _ _ st _ → _ => hK; apply hK; clear hK)))))) | skip)
        | (intro β)
        | (rename ∀ st, Tri _ _ _ st _ → _ => hK; apply hK; clear hK))
      exact ⟨m - 1, by omega, b3, .sl false 8 (some (38, β)) ((acc ++ [r.atts[i]]).map attC), i + 1, ⟨rfl, by simp [upd, s1], by simp [upd, s2], by simp [upd, s3], by simpa using x3, by simp [upd, s7]⟩, by omega, by simp [upd], .inr ⟨β, by simp [ht], by simp [ht], by simp [ht, upd]⟩⟩
theorem equalA_does (x : List Att) (n1 n2 : Bool) (hl : x.length ≤ 1073741824) : Does Try.prog 24 [.c (.sl n1 8 none (x.map attC)), .c (.sl n2 8 none (x.map attC))] (.c (.bool true)) := by
  refine Does.of_body Try.func24 rfl (by kernel_rfl) rfl rfl (by simp) ?_
  intro E
  repeat (first
    | (refine Tri.seq fun K hK => ?_)
    | (refine Tri.region ?_; simp [upd, bne])
    | (refine Tri.draw (by kernel_rfl) (by decide +kernel) ?_; simp [upd, bne])
    | (refine Tri.cond_true ?_ ?_; (focus simp [upd, bne]; done))
    | (refine Tri.cond_false ?_ ?_; (focus simp [upd, bne]; done))
    | (refine Tri.skip ?_; simp only [thenS, blockS])
    | (refine Tri.block_seq ?_)
    | (refine Tri.block_region ?_)
    | (refine Tri.block_cond ?_)
    | (refine Tri.exit ?_; simp [upd, bne]; first | (rename ∀ st, Tri _ _ _ st _ → _ => hK; first | (apply hK; clear hK) | (clear hK; rename ∀ st, Tri _ _ _ st _ → _ => hK; first | (apply hK; clear hK) | (clear hK; rename ∀ st, Tri _ _ _ st _ → _ => hK; first | (apply hK; clear hK) | (clear hK; rename ∀ st, Tri _ _ _ st _ → _ => hK; first | (apply hK; clear hK) | (clear hK; rename ∀ st, Tri _ _ _ st _ → _ => hK; first | (apply hK; clear hK) | (clear hK; rename ∀ st, Tri _ _ _ st _ → _ => hK; apply hK; clear hK)))))) | skip)
    | (intro β)
    | (rename ∀ st, Tri _ _ _ st _ → _ => hK; apply hK; clear hK))
  refine Tri.range 13 12 14 25 26 rfl rfl x.length (fun k st => st.sl 0 = .c (.sl n1 8 none (x.map attC)) ∧ st.sl 1 = .c (.sl n2 8 none (x.map attC))) (by simp) (by omega) ?_ rfl (by simp [upd]) (by simp [upd]) ?_ ?_ ?_
  · rintro k st t v ht ⟨a1, a2⟩
    rcases ht with rfl | rfl | rfl <;> exact ⟨by simpa [upd] using a1, by simpa [upd] using a2⟩
  · exact ⟨by simp [upd], by simp [upd]⟩
  · rintro k st hk ⟨a1, a2⟩ hn h13 h12
    repeat (first
      | (refine Tri.seq fun K hK => ?_)
      | (refine Tri.region ?_; simp [upd, hn, a1, a2, h13, h12, hk, bne])
      | (refine Tri.draw (by kernel_rfl) (by decide +kernel) ?_; simp [upd, hn, a1, a2, h13, h12, hk, bne])
      | (refine Tri.cond_true ?_ ?_; (focus simp [upd, hn, a1, a2, h13, h12, hk, bne]; done))
      | (refine Tri.cond_false ?_ ?_; (focus simp [upd, hn, a1, a2, h13, h12, hk, bne]; done))
      | (refine Tri.skip ?_; simp only [thenS, blockS])
      | (refine Tri.block_seq ?_)
      | (refine Tri.block_region ?_)
      | (refine Tri.block_cond ?_)
      | (refine Tri.exit ?_; simp [upd, hn, a1, a2, h13, h12, hk, bne]; first | (rename ∀ st, Tri _ _ _ st _ → _ => hK; first | (apply hK; clear hK) | (clear hK; rename ∀ st, Tri _ _ _ st _ → _ => hK; first | (apply hK; clear hK) | (clear hK; rename ∀ st, Tri _ _ _ st _ → _ => hK; first | (apply hK; clear hK) | (clear hK; rename ∀ st, Tri _ _ _ st _ → _ => hK; first | (apply hK; clear hK) | (clear hK; rename ∀ st, Tri _ _ _ st _ → _ => hK; first | (apply hK; clear hK) | (clear hK; rename ∀ st, Tri _ _ _ st _ → _ => hK; apply hK; clear hK)))))) | skip)
      | (intro β)
      | (rename ∀ st, Tri _ _ _ st _ → _ => hK; apply hK; clear hK))
    try simp [upd, h13, h12, a1, a2]
  · rintro st ⟨a1, a2⟩ hn
    rename ∀ st, Tri _ _ _ st _ → _ => hK
    apply hK
    repeat (first
      | (refine Tri.seq fun K hK => ?_)
      | (refine Tri.region ?_; simp [upd, hn])
      | (refine Tri.draw (by kernel_rfl) (by decide +kernel) ?_; simp [upd, hn])
      | (refine Tri.cond_true ?_ ?_; (focus simp [upd, hn]; done))
      | (refine Tri.cond_false ?_ ?_; (focus simp [upd, hn]; done))
      | (refine Tri.skip ?_; simp only [thenS, blockS])
      | (refine Tri.block_seq ?_)
      | (refine Tri.block_region ?_)
      | (refine Tri.block_cond ?_)
      | (refine Tri.exit ?_; simp [upd, hn]; first | (rename ∀ st, Tri _ _ _ st _ → _ => hK; first | (apply hK; clear hK) | (clear hK; rename ∀ st, Tri _ _ _ st _ → _ => hK; first | (apply hK; clear hK) | (clear hK; rename ∀ st, Tri _ _ _ st _ → _ => hK; first | (apply hK; clear hK) | (clear hK; rename ∀ st, Tri _ _ _ st _ → _ => hK; first | (apply hK; clear hK) | (clear hK; rename ∀ st, Tri _ _ _ st _ → _ => hK; first | (apply hK; clear hK) | (clear hK; rename ∀ st, Tri _ _ _ st _ → _ => hK; apply hK; clear hK)))))) | skip)
      | (intro β)
      | (rename ∀ st, Tri _ _ _ st _ → _ => hK; apply hK; clear hK))
    refine Tri.ret ⟨_, rfl, ?_⟩
    simp [upd]
    exact Wk.refl _
def cntL (l : List Att) : List C := [.int .i64 (cntN 1 l : Int), .int .i64 (cntN 2 l : Int), .int .i64 (cntN 3 l : Int), .int .i64 (cntN 4 l : Int)]
def CInvR (r : Rec) (m : Nat) (st : St) : Prop := ∃ b1 b2 b3 i, st.n = 38 ∧ m + i = r.atts.length ∧ st.sl 4 = .c (.int .i64 (i : Nat)) ∧ st.sl 1 = .c (.box 1 b1 0) ∧ st.bx 1 = some (b1, [.int .i64 r.slots, .sl r.an 8 none (r.atts.map attC), .sl r.dn 3 none (r.dels.map delC)]) ∧
  st.sl 3 = .c (.box 3 b3 0) ∧ st.sl 2 = .c (.box 2 b2 0) ∧ st.bx 2 = some (b2, [.int .i64 0, .int .i64 0, .int .i64 0, .int .i64 0, .int .i64 0]) ∧
  st.bx 3 = some (b3, [.int .i64 (r.dels.length : Int), .int .i64 (cntN 1 (r.atts.take i) : Int), .int .i64 (cntN 2 (r.atts.take i) : Int), .int .i64 (cntN 3 (r.atts.take i) : Int), .int .i64 (cntN 4 (r.atts.take i) : Int)])
theorem countsR_does (r : Rec) (hl : r.atts.length ≤ 1073741824) : Does Try.prog 29 [.agg (recC r)] (.agg (counts r)) := by
  refine Does.of_body Try.func29 rfl (by kernel_rfl) rfl rfl (by simp) ?_
  intro E
  simp only [recC]
  repeat (first
    | (refine Tri.seq fun K hK => ?_)
    | (refine Tri.region ?_; simp [upd])
    | (refine Tri.draw (by kernel_rfl) (by decide +kernel) ?_; simp [upd])
    | (refine Tri.cond_true ?_ ?_; (focus simp [upd]; done))
    | (refine Tri.cond_false ?_ ?_; (focus simp [upd]; done))
    | (refine Tri.skip ?_; simp only [thenS, blockS])
    | (refine Tri.block_seq ?_)
    | (refine Tri.block_region ?_)
    | (refine Tri.block_cond ?_)
    | (refine Tri.exit ?_; simp [upd]; first | (rename ∀ st, Tri _ _ _ st _ → _ => hK; first | (apply hK; clear hK) | (clear hK; rename ∀ st, Tri _ _ _ st _ → _ => hK; first | (apply hK; clear hK) | (clear hK; rename ∀ st, Tri _ _ _ st _ → _ => hK; first | (apply hK; clear hK) | (clear hK; rename ∀ st, Tri _ _ _ st _ → _ => hK; first | (apply hK; clear hK) | (clear hK; rename ∀ st, Tri _ _ _ st _ → _ => hK; first | (apply hK; clear hK) | (clear hK; rename ∀ st, Tri _ _ _ st _ → _ => hK; apply hK; clear hK)))))) | skip)
    | (intro β)
    | (rename ∀ st, Tri _ _ _ st _ → _ => hK; apply hK; clear hK))
  rename ∀ st, Tri _ _ _ st _ → _ => hK
  have fin := fun (st : St) (h : ∃ b2 b3, st.n = 38 ∧ st.sl 3 = .c (.box 3 b3 0) ∧ st.sl 2 = .c (.box 2 b2 0) ∧ st.bx 2 = some (b2, [.int .i64 0, .int .i64 0, .int .i64 0, .int .i64 0, .int .i64 0]) ∧ st.bx 3 = some (b3, counts r)) => hK st ?tail
  case tail =>
    obtain ⟨b2, b3, hn, a3, a2, x2, x3⟩ := h
    unfold counts at x3
    repeat (first
      | (refine Tri.seq fun K hK => ?_)
      | (refine Tri.region ?_; simp [upd, hn, a3, a2, x2, x3])
      | (refine Tri.draw (by kernel_rfl) (by decide +kernel) ?_; simp [upd, hn, a3, a2, x2, x3])
      | (refine Tri.cond_true ?_ ?_; (focus simp [upd, hn, a3, a2, x2, x3]; done))
      | (refine Tri.cond_false ?_ ?_; (focus simp [upd, hn, a3, a2, x2, x3]; done))
      | (refine Tri.skip ?_; simp only [thenS, blockS])
      | (refine Tri.block_seq ?_)
      | (refine Tri.block_region ?_)
      | (refine Tri.block_cond ?_)
      | (refine Tri.exit ?_; simp [upd, hn, a3, a2, x2, x3]; first | (rename ∀ st, Tri _ _ _ st _ → _ => hK; first | (apply hK; clear hK) | (clear hK; rename ∀ st, Tri _ _ _ st _ → _ => hK; first | (apply hK; clear hK) | (clear hK; rename ∀ st, Tri _ _ _ st _ → _ => hK; first | (apply hK; clear hK) | (clear hK; rename ∀ st, Tri _ _ _ st _ → _ => hK; first | (apply hK; clear hK) | (clear hK; rename ∀ st, Tri _ _ _ st _ → _ => hK; first | (apply hK; clear hK) | (clear hK; rename ∀ st, Tri _ _ _ st _ → _ => hK; apply hK; clear hK)))))) | skip)
      | (intro β)
      | (rename ∀ st, Tri _ _ _ st _ → _ => hK; apply hK; clear hK))
    exact Tri.ret ⟨.agg (counts r), by simp [upd, a2, counts], Wk.refl _⟩
  clear hK
  refine Tri.block (Tri.loop (CInvR r) r.atts.length ?_ ?_)
  · exact ⟨_, _, _, 0, rfl, rfl, by simp [upd], by simp [upd] <;> exact rfl, by simp [upd] <;> exact rfl, by simp [upd] <;> exact rfl, by simp [upd] <;> exact rfl, by simp [upd], by simp [upd, cntN]⟩
  · rintro m st ⟨b1, b2, b3, i, hn, hm, s4, a1, x1, a3, a2, x2, x3⟩
    by_cases hi : i < r.atts.length
    case neg =>
      rw [List.take_of_length_le (by omega)] at x3
      repeat (first
        | (refine Tri.seq fun K hK => ?_)
        | (refine Tri.region ?_; simp [upd, hn, s4, a1, x1, a3, a2, x2, x3, hi])
        | (refine Tri.draw (by kernel_rfl) (by decide +kernel) ?_; simp [upd, hn, s4, a1, x1, a3, a2, x2, x3, hi])
        | (refine Tri.cond_true ?_ ?_; (focus simp [upd, hn, s4, a1, x1, a3, a2, x2, x3, hi]; done))
        | (refine Tri.cond_false ?_ ?_; (focus simp [upd, hn, s4, a1, x1, a3, a2, x2, x3, hi]; done))
        | (refine Tri.skip ?_; simp only [thenS, blockS])
        | (refine Tri.block_seq ?_)
        | (refine Tri.block_region ?_)
        | (refine Tri.block_cond ?_)
        | (refine Tri.exit ?_; simp [upd, hn, s4, a1, x1, a3, a2, x2, x3, hi]; first | (rename ∀ st, Tri _ _ _ st _ → _ => hK; first | (apply hK; clear hK) | (clear hK; rename ∀ st, Tri _ _ _ st _ → _ => hK; first | (apply hK; clear hK) | (clear hK; rename ∀ st, Tri _ _ _ st _ → _ => hK; first | (apply hK; clear hK) | (clear hK; rename ∀ st, Tri _ _ _ st _ → _ => hK; first | (apply hK; clear hK) | (clear hK; rename ∀ st, Tri _ _ _ st _ → _ => hK; first | (apply hK; clear hK) | (clear hK; rename ∀ st, Tri _ _ _ st _ → _ => hK; apply hK; clear hK)))))) | skip)
        | (intro β)
        | (rename ∀ st, Tri _ _ _ st _ → _ => hK; apply hK; clear hK))
      apply fin
      exact ⟨b2, b3, rfl, by simp [upd, a3], by simp [upd, a2], by simpa using x2, by simpa [counts] using x3⟩
    have hw : IntKind.i64.wrap ((i : Int) + 1) = (i : Int) + 1 := wrap_i64 (by omega) (by omega)
    have c1 := cntN_take 1 r.atts i hi
    have c2 := cntN_take 2 r.atts i hi
    have c3 := cntN_take 3 r.atts i hi
    have c4 := cntN_take 4 r.atts i hi
    have w : ∀ o, IntKind.i64.wrap ((cntN o (r.atts.take i) : Int) + 1) = (cntN o (r.atts.take i) : Int) + 1 := fun o => by
      have := cntN_le o r.atts i
      exact wrap_i64 (by omega) (by omega)
    by_cases g1 : 1 ≤ r.atts[i].out
    case neg =>
      have n1 : ¬ r.atts[i].out = 1 := by omega
      have n2 : ¬ r.atts[i].out = 2 := by omega
      have n3 : ¬ r.atts[i].out = 3 := by omega
      have n4 : ¬ r.atts[i].out = 4 := by omega
      simp only [n1, n2, n3, n4, if_false, Nat.add_zero] at c1 c2 c3 c4
      repeat (first
        | (refine Tri.seq fun K hK => ?_)
        | (refine Tri.region ?_; simp [upd, hn, s4, a1, x1, a3, a2, x2, x3, hi, hw, g1])
        | (refine Tri.draw (by kernel_rfl) (by decide +kernel) ?_; simp [upd, hn, s4, a1, x1, a3, a2, x2, x3, hi, hw, g1])
        | (refine Tri.cond_true ?_ ?_; (focus simp [upd, hn, s4, a1, x1, a3, a2, x2, x3, hi, hw, g1]; done))
        | (refine Tri.cond_false ?_ ?_; (focus simp [upd, hn, s4, a1, x1, a3, a2, x2, x3, hi, hw, g1]; done))
        | (refine Tri.skip ?_; simp only [thenS, blockS])
        | (refine Tri.block_seq ?_)
        | (refine Tri.block_region ?_)
        | (refine Tri.block_cond ?_)
        | (refine Tri.exit ?_; simp [upd, hn, s4, a1, x1, a3, a2, x2, x3, hi, hw, g1]; first | (rename ∀ st, Tri _ _ _ st _ → _ => hK; first | (apply hK; clear hK) | (clear hK; rename ∀ st, Tri _ _ _ st _ → _ => hK; first | (apply hK; clear hK) | (clear hK; rename ∀ st, Tri _ _ _ st _ → _ => hK; first | (apply hK; clear hK) | (clear hK; rename ∀ st, Tri _ _ _ st _ → _ => hK; first | (apply hK; clear hK) | (clear hK; rename ∀ st, Tri _ _ _ st _ → _ => hK; first | (apply hK; clear hK) | (clear hK; rename ∀ st, Tri _ _ _ st _ → _ => hK; apply hK; clear hK)))))) | skip)
        | (intro β)
        | (rename ∀ st, Tri _ _ _ st _ → _ => hK; apply hK; clear hK))
      refine ⟨m - 1, by omega, b1, b2, b3, i + 1, rfl, by omega, by simp [upd], by simp [upd, a1], by simpa using x1, by simp [upd, a3], by simp [upd, a2], by simpa using x2, ?_⟩
      simp [x3, c1, c2, c3, c4]
    by_cases g4 : r.atts[i].out ≤ 4
    case neg =>
      have n1 : ¬ r.atts[i].out = 1 := by omega
      have n2 : ¬ r.atts[i].out = 2 := by omega
      have n3 : ¬ r.atts[i].out = 3 := by omega
      have n4 : ¬ r.atts[i].out = 4 := by omega
      simp only [n1, n2, n3, n4, if_false, Nat.add_zero] at c1 c2 c3 c4
      repeat (first
        | (refine Tri.seq fun K hK => ?_)
        | (refine Tri.region ?_; simp [upd, hn, s4, a1, x1, a3, a2, x2, x3, hi, hw, g1, g4])
        | (refine Tri.draw (by kernel_rfl) (by decide +kernel) ?_; simp [upd, hn, s4, a1, x1, a3, a2, x2, x3, hi, hw, g1, g4])
        | (refine Tri.cond_true ?_ ?_; (focus simp [upd, hn, s4, a1, x1, a3, a2, x2, x3, hi, hw, g1, g4]; done))
        | (refine Tri.cond_false ?_ ?_; (focus simp [upd, hn, s4, a1, x1, a3, a2, x2, x3, hi, hw, g1, g4]; done))
        | (refine Tri.skip ?_; simp only [thenS, blockS])
        | (refine Tri.block_seq ?_)
        | (refine Tri.block_region ?_)
        | (refine Tri.block_cond ?_)
        | (refine Tri.exit ?_; simp [upd, hn, s4, a1, x1, a3, a2, x2, x3, hi, hw, g1, g4]; first | (rename ∀ st, Tri _ _ _ st _ → _ => hK; first | (apply hK; clear hK) | (clear hK; rename ∀ st, Tri _ _ _ st _ → _ => hK; first | (apply hK; clear hK) | (clear hK; rename ∀ st, Tri _ _ _ st _ → _ => hK; first | (apply hK; clear hK) | (clear hK; rename ∀ st, Tri _ _ _ st _ → _ => hK; first | (apply hK; clear hK) | (clear hK; rename ∀ st, Tri _ _ _ st _ → _ => hK; first | (apply hK; clear hK) | (clear hK; rename ∀ st, Tri _ _ _ st _ → _ => hK; apply hK; clear hK)))))) | skip)
        | (intro β)
        | (rename ∀ st, Tri _ _ _ st _ → _ => hK; apply hK; clear hK))
      refine ⟨m - 1, by omega, b1, b2, b3, i + 1, rfl, by omega, by simp [upd], by simp [upd, a1], by simpa using x1, by simp [upd, a3], by simp [upd, a2], by simpa using x2, ?_⟩
      simp [x3, c1, c2, c3, c4]
    have ho : r.atts[i].out = 1 ∨ r.atts[i].out = 2 ∨ r.atts[i].out = 3 ∨ r.atts[i].out = 4 := by omega
    rcases ho with ho | ho | ho | ho <;> (rw [ho] at c1 c2 c3 c4; simp at c1 c2 c3 c4)
    all_goals
      repeat (first
        | (refine Tri.seq fun K hK => ?_)
        | (refine Tri.region ?_; simp [upd, hn, s4, a1, x1, a3, a2, x2, x3, hi, hw, ho, w])
        | (refine Tri.draw (by kernel_rfl) (by decide +kernel) ?_; simp [upd, hn, s4, a1, x1, a3, a2, x2, x3, hi, hw, ho, w])
        | (refine Tri.cond_true ?_ ?_; (focus simp [upd, hn, s4, a1, x1, a3, a2, x2, x3, hi, hw, ho, w]; done))
        | (refine Tri.cond_false ?_ ?_; (focus simp [upd, hn, s4, a1, x1, a3, a2, x2, x3, hi, hw, ho, w]; done))
        | (refine Tri.skip ?_; simp only [thenS, blockS])
        | (refine Tri.block_seq ?_)
        | (refine Tri.block_region ?_)
        | (refine Tri.block_cond ?_)
        | (refine Tri.exit ?_; simp [upd, hn, s4, a1, x1, a3, a2, x2, x3, hi, hw, ho, w]; first | (rename ∀ st, Tri _ _ _ st _ → _ => hK; first | (apply hK; clear hK) | (clear hK; rename ∀ st, Tri _ _ _ st _ → _ => hK; first | (apply hK; clear hK) | (clear hK; rename ∀ st, Tri _ _ _ st _ → _ => hK; first | (apply hK; clear hK) | (clear hK; rename ∀ st, Tri _ _ _ st _ → _ => hK; first | (apply hK; clear hK) | (clear hK; rename ∀ st, Tri _ _ _ st _ → _ => hK; first | (apply hK; clear hK) | (clear hK; rename ∀ st, Tri _ _ _ st _ → _ => hK; apply hK; clear hK)))))) | skip)
        | (intro β)
        | (rename ∀ st, Tri _ _ _ st _ → _ => hK; apply hK; clear hK))
      refine ⟨m - 1, by omega, b1, b2, b3, i + 1, rfl, by omega, by simp [upd], by simp [upd, a1], by simpa using x1, by simp [upd, a3], by simp [upd, a2], by simpa using x2, ?_⟩
      simp [x3, c1, c2, c3, c4]
end Go.Proofs.Ytcohdlochpjnjaa
end
section
open Go Go.Vm
namespace Go.Proofs.Ytcohdlochpjnjaa
set_option maxRecDepth 100000
set_option maxHeartbeats 4000000
set_option linter.unusedSimpArgs false
theorem losses_def (r : Rec) (flow frame frm to : Int) : losses r flow frame frm to = lossGo frm to [] (attsOf r flow frame) := rfl
theorem attsOf_le (r : Rec) (flow frame : Int) : (attsOf r flow frame).length ≤ r.atts.length := List.length_filter_le ..
attribute [local irreducible] Tri Does DoesB Rounds losses attsOf counts
structure OI (frm to : Int) (l : List Att) (nl : Bool) (st : St) (R O : C) (run : List Int) (outs : List (List Int)) (i : Nat) : Prop where
  hn : st.n = 72
  s3 : st.sl 3 = .c (.int .i64 frm)
  s4 : st.sl 4 = .c (.int .i64 to)
  s13 : st.sl 13 = .c (.sl nl 8 none (l.map attC))
  s12 : st.sl 12 = .c R
  s11 : st.sl 11 = .c O
  s14 : st.sl 14 = .c (.int .i64 (i : Nat))
  gR : GC st R 56 3 1 (I1 run)
  gO : GC st O 63 48 1 (runsC outs)
  lr : run.length ≤ i
  lo : outs.length ≤ i
  eq : lossGo frm to [] l = outs ++ lossGo frm to run (l.drop i)
def OInv (frm to : Int) (l : List Att) (nl : Bool) (m : Nat) (st : St) : Prop := ∃ R O run outs i, m + i = l.length ∧ OI frm to l nl st R O run outs i
theorem lossesR_does (r : Rec) (flow frame frm to : Int) (hl : r.atts.length ≤ 1073741824) : Does Try.prog 27 [.agg (recC r), .c (.int .i64 flow), .c (.int .i64 frame), .c (.int .i64 frm), .c (.int .i64 to)]
    (.c (.sl (losses r flow frame frm to).isEmpty 1 none (runsC (losses r flow frame frm to)))) := by
  refine Does.of_body Try.func27 rfl (by kernel_rfl) rfl rfl (by simp) ?_
  intro E
  have hat := attemptsR_does r flow frame hl
  have hal := attsOf_le r flow frame
  rw [losses_def]
  generalize attsOf r flow frame = l at hat hal
  simp only [recC] at hat ⊢
  repeat (first
    | (refine Tri.seq fun K hK => ?_)
    | (refine Tri.region ?_; simp [upd])
    | (refine Tri.draw (by kernel_rfl) (by decide +kernel) ?_; simp [upd])
    | (refine Tri.cond_true ?_ ?_; (focus simp [upd]; done))
    | (refine Tri.cond_false ?_ ?_; (focus simp [upd]; done))
    | (refine Tri.skip ?_; simp only [thenS, blockS])
    | (refine Tri.block_seq ?_)
    | (refine Tri.block_region ?_)
    | (refine Tri.block_cond ?_)
    | ((with_reducible refine CallK.pure (hat) (Wks.refl _) ?_); simp [upd])
    | (refine Tri.exit ?_; simp [upd]; first | (rename ∀ st, Tri _ _ _ st _ → _ => hK; first | (apply hK; clear hK) | (clear hK; rename ∀ st, Tri _ _ _ st _ → _ => hK; first | (apply hK; clear hK) | (clear hK; rename ∀ st, Tri _ _ _ st _ → _ => hK; first | (apply hK; clear hK) | (clear hK; rename ∀ st, Tri _ _ _ st _ → _ => hK; first | (apply hK; clear hK) | (clear hK; rename ∀ st, Tri _ _ _ st _ → _ => hK; first | (apply hK; clear hK) | (clear hK; rename ∀ st, Tri _ _ _ st _ → _ => hK; apply hK; clear hK)))))) | skip)
    | (intro β)
    | (rename ∀ st, Tri _ _ _ st _ → _ => hK; apply hK; clear hK))
  rename ∀ st, Tri _ _ _ st _ → _ => hK
  have fin := fun (st : St) (h : OInv frm to l l.isEmpty 0 st) => hK st ?tail
  case tail =>
    obtain ⟨R, O, run, outs, i, hi, ⟨hn, s3, s4, s13, s12, s11, s14, gR, gO, lr, lo, eq⟩⟩ := h
    have hi : i = l.length := by omega
    rw [List.drop_of_length_le (by omega), lossGo] at eq
    rcases gR with ⟨hnil, k0, own, rfl⟩ | ⟨b, hne, rfl, hrw⟩
    · have hrun : run = [] := by simpa [I1] using hnil
      subst hrun
      rw [if_pos rfl, List.append_nil] at eq
      have wO : Wk (.c O) (.c (.sl (runsC outs).isEmpty 1 none (runsC outs))) := by simpa using GC.wk gO
      rw [eq]
      repeat (first
        | (refine Tri.seq fun K hK => ?_)
        | (refine Tri.region ?_; simp [upd, hn, s3, s4, s13, s12, s11, s14])
        | (refine Tri.draw (by kernel_rfl) (by decide +kernel) ?_; simp [upd, hn, s3, s4, s13, s12, s11, s14])
        | (refine Tri.cond_true ?_ ?_; (focus simp [upd, hn, s3, s4, s13, s12, s11, s14]; done))
        | (refine Tri.cond_false ?_ ?_; (focus simp [upd, hn, s3, s4, s13, s12, s11, s14]; done))
        | (refine Tri.skip ?_; simp only [thenS, blockS])
        | (refine Tri.block_seq ?_)
        | (refine Tri.block_region ?_)
        | (refine Tri.block_cond ?_)
        | (refine Tri.exit ?_; simp [upd, hn, s3, s4, s13, s12, s11, s14]; first | (rename ∀ st, Tri _ _ _ st _ → _ => hK; first | (apply hK; clear hK) | (clear hK; rename ∀ st, Tri _ _ _ st _ → _ => hK; first | (apply hK; clear hK) | (clear hK; rename ∀ st, Tri _ _ _ st _ → _ => hK; first | (apply hK; clear hK) | (clear hK; rename ∀ st, Tri _ _ _ st _ → _ => hK; first | (apply hK; clear hK) | (clear hK; rename ∀ st, Tri _ _ _ st _ → _ => hK; first | (apply hK; clear hK) | (clear hK; rename ∀ st, Tri _ _ _ st _ → _ => hK; apply hK; clear hK)))))) | skip)
        | (intro β)
        | (rename ∀ st, Tri _ _ _ st _ → _ => hK; apply hK; clear hK))
      exact Tri.ret ⟨_, rfl, by simpa [upd, runsC] using wO⟩
    · have hrun : run ≠ [] := by rintro rfl; simp [I1] at hne
      rw [if_neg hrun] at eq
      have hr1 : 0 < (I1 run).length := List.length_pos_iff.2 hne
      have hr2 : ¬ I1 run = [] := hne
      have hr3 : 0 < ((I1 run).length : Int) := by omega
      rw [eq]
      rcases gO with ⟨hnil, k0, own, rfl⟩ | ⟨b', hne', rfl, hrw'⟩
      · have hout : outs = [] := by simpa [runsC] using hnil
        subst hout
        repeat (first
          | (refine Tri.seq fun K hK => ?_)
          | (refine Tri.region ?_; simp [upd, hn, s3, s4, s13, s12, s11, s14, hr1, hr2, hr3])
          | (refine Tri.draw (by kernel_rfl) (by decide +kernel) ?_; simp [upd, hn, s3, s4, s13, s12, s11, s14, hr1, hr2, hr3])
          | (refine Tri.cond_true ?_ ?_; (focus simp [upd, hn, s3, s4, s13, s12, s11, s14, hr1, hr2, hr3]; done))
          | (refine Tri.cond_false ?_ ?_; (focus simp [upd, hn, s3, s4, s13, s12, s11, s14, hr1, hr2, hr3]; done))
          | (refine Tri.skip ?_; simp only [thenS, blockS])
          | (refine Tri.block_seq ?_)
          | (refine Tri.block_region ?_)
          | (refine Tri.block_cond ?_)
          | (refine Tri.exit ?_; simp [upd, hn, s3, s4, s13, s12, s11, s14, hr1, hr2, hr3]; first | (rename ∀ st, Tri _ _ _ st _ → _ => hK; first | (apply hK; clear hK) | (clear hK; rename ∀ st, Tri _ _ _ st _ → _ => hK; first | (apply hK; clear hK) | (clear hK; rename ∀ st, Tri _ _ _ st _ → _ => hK; first | (apply hK; clear hK) | (clear hK; rename ∀ st, Tri _ _ _ st _ → _ => hK; first | (apply hK; clear hK) | (clear hK; rename ∀ st, Tri _ _ _ st _ → _ => hK; first | (apply hK; clear hK) | (clear hK; rename ∀ st, Tri _ _ _ st _ → _ => hK; apply hK; clear hK)))))) | skip)
          | (intro β)
          | (rename ∀ st, Tri _ _ _ st _ → _ => hK; apply hK; clear hK))
        refine Tri.ret ⟨_, rfl, ?_⟩
        simp [upd, runsC, runC]
        exact Wk.untag _ _ _ _
      · have hb : ((runsC outs).length + 1) * 24 ≤ 140737488355328 := by simp [runsC]; omega
        repeat (first
          | (refine Tri.seq fun K hK => ?_)
          | (refine Tri.region ?_; simp [upd, hn, s3, s4, s13, s12, s11, s14, hr1, hr2, hr3, hb, hrw'])
          | (refine Tri.draw (by kernel_rfl) (by decide +kernel) ?_; simp [upd, hn, s3, s4, s13, s12, s11, s14, hr1, hr2, hr3, hb, hrw'])
          | (refine Tri.cond_true ?_ ?_; (focus simp [upd, hn, s3, s4, s13, s12, s11, s14, hr1, hr2, hr3, hb, hrw']; done))
          | (refine Tri.cond_false ?_ ?_; (focus simp [upd, hn, s3, s4, s13, s12, s11, s14, hr1, hr2, hr3, hb, hrw']; done))
          | (refine Tri.skip ?_; simp only [thenS, blockS])
          | (refine Tri.block_seq ?_)
          | (refine Tri.block_region ?_)
          | (refine Tri.block_cond ?_)
          | (refine Tri.exit ?_; simp [upd, hn, s3, s4, s13, s12, s11, s14, hr1, hr2, hr3, hb, hrw']; first | (rename ∀ st, Tri _ _ _ st _ → _ => hK; first | (apply hK; clear hK) | (clear hK; rename ∀ st, Tri _ _ _ st _ → _ => hK; first | (apply hK; clear hK) | (clear hK; rename ∀ st, Tri _ _ _ st _ → _ => hK; first | (apply hK; clear hK) | (clear hK; rename ∀ st, Tri _ _ _ st _ → _ => hK; first | (apply hK; clear hK) | (clear hK; rename ∀ st, Tri _ _ _ st _ → _ => hK; first | (apply hK; clear hK) | (clear hK; rename ∀ st, Tri _ _ _ st _ → _ => hK; apply hK; clear hK)))))) | skip)
          | (intro β)
          | (rename ∀ st, Tri _ _ _ st _ → _ => hK; apply hK; clear hK))
        refine Tri.ret ⟨_, rfl, ?_⟩
        have he : (outs ++ [run]).isEmpty = false := by cases outs <;> rfl
        simp [upd, runsC, runC, he]
        exact Wk.untag _ _ _ _
  clear hK
  refine Tri.block (Tri.loop (OInv frm to l l.isEmpty) l.length ?_ ?_)
  · exact ⟨.sl true 0 none [], .sl true 0 none [], [], [], 0, rfl, ⟨rfl, by simp [upd], by simp [upd], by simp [upd], by simp [upd], by simp [upd], by simp [upd], .inl ⟨rfl, _, _, rfl⟩, .inl ⟨rfl, _, _, rfl⟩, by simp, by simp, rfl⟩⟩
  · rintro m st ⟨R, O, run, outs, i, hm, ⟨hn, s3, s4, s13, s12, s11, s14, gR, gO, lr, lo, eq⟩⟩
    by_cases hi : i < l.length
    case neg =>
      repeat (first
        | (refine Tri.seq fun K hK => ?_)
        | (refine Tri.region ?_; simp [upd, hn, s3, s4, s13, s12, s11, s14, hi])
        | (refine Tri.draw (by kernel_rfl) (by decide +kernel) ?_; simp [upd, hn, s3, s4, s13, s12, s11, s14, hi])
        | (refine Tri.cond_true ?_ ?_; (focus simp [upd, hn, s3, s4, s13, s12, s11, s14, hi]; done))
        | (refine Tri.cond_false ?_ ?_; (focus simp [upd, hn, s3, s4, s13, s12, s11, s14, hi]; done))
        | (refine Tri.skip ?_; simp only [thenS, blockS])
        | (refine Tri.block_seq ?_)
        | (refine Tri.block_region ?_)
        | (refine Tri.block_cond ?_)
        | (refine Tri.exit ?_; simp [upd, hn, s3, s4, s13, s12, s11, s14, hi]; first | (rename ∀ st, Tri _ _ _ st _ → _ => hK; first | (apply hK; clear hK) | (clear hK; rename ∀ st, Tri _ _ _ st _ → _ => hK; first | (apply hK; clear hK) | (clear hK; rename ∀ st, Tri _ _ _ st _ → _ => hK; first | (apply hK; clear hK) | (clear hK; rename ∀ st, Tri _ _ _ st _ → _ => hK; first | (apply hK; clear hK) | (clear hK; rename ∀ st, Tri _ _ _ st _ → _ => hK; first | (apply hK; clear hK) | (clear hK; rename ∀ st, Tri _ _ _ st _ → _ => hK; apply hK; clear hK)))))) | skip)
        | (intro β)
        | (rename ∀ st, Tri _ _ _ st _ → _ => hK; apply hK; clear hK))
      apply fin
      exact ⟨R, O, run, outs, i, by omega, ⟨rfl, by simp [upd, s3], by simp [upd, s4], by simp [upd, s13], by simp [upd, s12], by simp [upd, s11], by simp [upd, s14], by simpa [GC] using gR, by simpa [GC] using gO, lr, lo, eq⟩⟩
    have hw : IntKind.i64.wrap ((i : Int) + 1) = (i : Int) + 1 := wrap_i64 (by omega) (by omega)
    have hd : l.drop i = l[i] :: l.drop (i + 1) := List.drop_eq_getElem_cons hi
    rw [hd, lossGo] at eq
    cases e1 : (l[i].frm == frm)
    case false =>
      rw [if_neg (fun h => by simp [h.1] at e1)] at eq
      repeat (first
        | (refine Tri.seq fun K hK => ?_)
        | (refine Tri.region ?_; simp [upd, hn, s3, s4, s13, s12, s11, s14, hi, hw, e1, bne])
        | (refine Tri.draw (by kernel_rfl) (by decide +kernel) ?_; simp [upd, hn, s3, s4, s13, s12, s11, s14, hi, hw, e1, bne])
        | (refine Tri.cond_true ?_ ?_; (focus simp [upd, hn, s3, s4, s13, s12, s11, s14, hi, hw, e1, bne]; done))
        | (refine Tri.cond_false ?_ ?_; (focus simp [upd, hn, s3, s4, s13, s12, s11, s14, hi, hw, e1, bne]; done))
        | (refine Tri.skip ?_; simp only [thenS, blockS])
        | (refine Tri.block_seq ?_)
        | (refine Tri.block_region ?_)
        | (refine Tri.block_cond ?_)
        | (refine Tri.exit ?_; simp [upd, hn, s3, s4, s13, s12, s11, s14, hi, hw, e1, bne]; first | (rename ∀ st, Tri _ _ _ st _ → _ => hK; first | (apply hK; clear hK) | (clear hK; rename ∀ st, Tri _ _ _ st _ → _ => hK; first | (apply hK; clear hK) | (clear hK; rename ∀ st, Tri _ _ _ st _ → _ => hK; first | (apply hK; clear hK) | (clear hK; rename ∀ st, Tri _ _ _ st _ → _ => hK; first | (apply hK; clear hK) | (clear hK; rename ∀ st, Tri _ _ _ st _ → _ => hK; first | (apply hK; clear hK) | (clear hK; rename ∀ st, Tri _ _ _ st _ → _ => hK; apply hK; clear hK)))))) | skip)
        | (intro β)
        | (rename ∀ st, Tri _ _ _ st _ → _ => hK; apply hK; clear hK))
      refine ⟨m - 1, by omega, R, O, run, outs, i + 1, by omega, ⟨rfl, by simp [upd, s3], by simp [upd, s4], by simp [upd, s13], by simp [upd, s12, I1], by simp [upd, s11, runsC, runC], by simp [upd], ?_, ?_, ?_, ?_, ?_⟩⟩
      · simpa [GC] using gR
      · simpa [GC] using gO
      · omega
      · omega
      · exact eq
    cases e2 : (l[i].to == to)
    case false =>
      rw [if_neg (fun h => by simp [h.2] at e2)] at eq
      repeat (first
        | (refine Tri.seq fun K hK => ?_)
        | (refine Tri.region ?_; simp [upd, hn, s3, s4, s13, s12, s11, s14, hi, hw, e1, e2, bne])
        | (refine Tri.draw (by kernel_rfl) (by decide +kernel) ?_; simp [upd, hn, s3, s4, s13, s12, s11, s14, hi, hw, e1, e2, bne])
        | (refine Tri.cond_true ?_ ?_; (focus simp [upd, hn, s3, s4, s13, s12, s11, s14, hi, hw, e1, e2, bne]; done))
        | (refine Tri.cond_false ?_ ?_; (focus simp [upd, hn, s3, s4, s13, s12, s11, s14, hi, hw, e1, e2, bne]; done))
        | (refine Tri.skip ?_; simp only [thenS, blockS])
        | (refine Tri.block_seq ?_)
        | (refine Tri.block_region ?_)
        | (refine Tri.block_cond ?_)
        | (refine Tri.exit ?_; simp [upd, hn, s3, s4, s13, s12, s11, s14, hi, hw, e1, e2, bne]; first | (rename ∀ st, Tri _ _ _ st _ → _ => hK; first | (apply hK; clear hK) | (clear hK; rename ∀ st, Tri _ _ _ st _ → _ => hK; first | (apply hK; clear hK) | (clear hK; rename ∀ st, Tri _ _ _ st _ → _ => hK; first | (apply hK; clear hK) | (clear hK; rename ∀ st, Tri _ _ _ st _ → _ => hK; first | (apply hK; clear hK) | (clear hK; rename ∀ st, Tri _ _ _ st _ → _ => hK; first | (apply hK; clear hK) | (clear hK; rename ∀ st, Tri _ _ _ st _ → _ => hK; apply hK; clear hK)))))) | skip)
        | (intro β)
        | (rename ∀ st, Tri _ _ _ st _ → _ => hK; apply hK; clear hK))
      refine ⟨m - 1, by omega, R, O, run, outs, i + 1, by omega, ⟨rfl, by simp [upd, s3], by simp [upd, s4], by simp [upd, s13], by simp [upd, s12, I1], by simp [upd, s11, runsC, runC], by simp [upd], ?_, ?_, ?_, ?_, ?_⟩⟩
      · simpa [GC] using gR
      · simpa [GC] using gO
      · omega
      · omega
      · exact eq
    rw [if_pos ⟨by simpa using e1, by simpa using e2⟩] at eq
    cases e3 : (l[i].out == 1)
    case false =>
      rw [if_neg (by simpa using e3)] at eq
      rcases gR with ⟨hnil, k0, own, rfl⟩ | ⟨b, hne, rfl, hrw⟩
      · have hrun : run = [] := by simpa [I1] using hnil
        subst hrun
        repeat (first
          | (refine Tri.seq fun K hK => ?_)
          | (refine Tri.region ?_; simp [upd, hn, s3, s4, s13, s12, s11, s14, hi, hw, e1, e2, e3, bne])
          | (refine Tri.draw (by kernel_rfl) (by decide +kernel) ?_; simp [upd, hn, s3, s4, s13, s12, s11, s14, hi, hw, e1, e2, e3, bne])
          | (refine Tri.cond_true ?_ ?_; (focus simp [upd, hn, s3, s4, s13, s12, s11, s14, hi, hw, e1, e2, e3, bne]; done))
          | (refine Tri.cond_false ?_ ?_; (focus simp [upd, hn, s3, s4, s13, s12, s11, s14, hi, hw, e1, e2, e3, bne]; done))
          | (refine Tri.skip ?_; simp only [thenS, blockS])
          | (refine Tri.block_seq ?_)
          | (refine Tri.block_region ?_)
          | (refine Tri.block_cond ?_)
          | (refine Tri.exit ?_; simp [upd, hn, s3, s4, s13, s12, s11, s14, hi, hw, e1, e2, e3, bne]; first | (rename ∀ st, Tri _ _ _ st _ → _ => hK; first | (apply hK; clear hK) | (clear hK; rename ∀ st, Tri _ _ _ st _ → _ => hK; first | (apply hK; clear hK) | (clear hK; rename ∀ st, Tri _ _ _ st _ → _ => hK; first | (apply hK; clear hK) | (clear hK; rename ∀ st, Tri _ _ _ st _ → _ => hK; first | (apply hK; clear hK) | (clear hK; rename ∀ st, Tri _ _ _ st _ → _ => hK; first | (apply hK; clear hK) | (clear hK; rename ∀ st, Tri _ _ _ st _ → _ => hK; apply hK; clear hK)))))) | skip)
          | (intro β)
          | (rename ∀ st, Tri _ _ _ st _ → _ => hK; apply hK; clear hK))
        refine ⟨m - 1, by omega, .sl false 1 (some (56, β)) (I1 [l[i].slot]), O, [l[i].slot], outs, i + 1, by omega, ⟨rfl, by simp [upd, s3], by simp [upd, s4], by simp [upd, s13], by simp [upd, s12, I1], by simp [upd, s11, runsC, runC], by simp [upd], ?_, ?_, ?_, ?_, ?_⟩⟩
        · exact .inr ⟨β, by simp [I1], rfl, by simp [upd, I1]⟩
        · simpa [GC, upd] using gO
        · simp
        · omega
        · simpa using eq
      · have hb : ((I1 run).length + 1) * 8 ≤ 140737488355328 := by simp [I1]; omega
        have hb2 : (I1 run).length = run.length := by simp [I1]
        repeat (first
          | (refine Tri.seq fun K hK => ?_)
          | (refine Tri.region ?_; simp [upd, hn, s3, s4, s13, s12, s11, s14, hi, hw, e1, e2, e3, hrw, hb, bne])
          | (refine Tri.draw (by kernel_rfl) (by decide +kernel) ?_; simp [upd, hn, s3, s4, s13, s12, s11, s14, hi, hw, e1, e2, e3, hrw, hb, bne])
          | (refine Tri.cond_true ?_ ?_; (focus simp [upd, hn, s3, s4, s13, s12, s11, s14, hi, hw, e1, e2, e3, hrw, hb, bne]; done))
          | (refine Tri.cond_false ?_ ?_; (focus simp [upd, hn, s3, s4, s13, s12, s11, s14, hi, hw, e1, e2, e3, hrw, hb, bne]; done))
          | (refine Tri.skip ?_; simp only [thenS, blockS])
          | (refine Tri.block_seq ?_)
          | (refine Tri.block_region ?_)
          | (refine Tri.block_cond ?_)
          | (refine Tri.exit ?_; simp [upd, hn, s3, s4, s13, s12, s11, s14, hi, hw, e1, e2, e3, hrw, hb, bne]; first | (rename ∀ st, Tri _ _ _ st _ → _ => hK; first | (apply hK; clear hK) | (clear hK; rename ∀ st, Tri _ _ _ st _ → _ => hK; first | (apply hK; clear hK) | (clear hK; rename ∀ st, Tri _ _ _ st _ → _ => hK; first | (apply hK; clear hK) | (clear hK; rename ∀ st, Tri _ _ _ st _ → _ => hK; first | (apply hK; clear hK) | (clear hK; rename ∀ st, Tri _ _ _ st _ → _ => hK; first | (apply hK; clear hK) | (clear hK; rename ∀ st, Tri _ _ _ st _ → _ => hK; apply hK; clear hK)))))) | skip)
          | (intro β)
          | (rename ∀ st, Tri _ _ _ st _ → _ => hK; apply hK; clear hK))
        refine ⟨m - 1, by omega, .sl false 1 (some (56, β)) (I1 run ++ [[.int .i64 l[i].slot]]), O, run ++ [l[i].slot], outs, i + 1, by omega, ⟨rfl, by simp [upd, s3], by simp [upd, s4], by simp [upd, s13], by simp [upd, s12, I1], by simp [upd, s11, runsC, runC], by simp [upd], ?_, ?_, ?_, ?_, ?_⟩⟩
        · exact .inr ⟨β, by simp [I1], by simp [I1], by simp [upd, I1]⟩
        · simpa [GC, upd] using gO
        · simp; omega
        · omega
        · simpa using eq
    rw [if_pos (by simpa using e3)] at eq
    rcases gR with ⟨hnil, k0, own, rfl⟩ | ⟨b, hne, rfl, hrw⟩
    · have hrun : run = [] := by simpa [I1] using hnil
      subst hrun
      rw [if_pos rfl] at eq
      repeat (first
        | (refine Tri.seq fun K hK => ?_)
        | (refine Tri.region ?_; simp [upd, hn, s3, s4, s13, s12, s11, s14, hi, hw, e1, e2, e3, bne])
        | (refine Tri.draw (by kernel_rfl) (by decide +kernel) ?_; simp [upd, hn, s3, s4, s13, s12, s11, s14, hi, hw, e1, e2, e3, bne])
        | (refine Tri.cond_true ?_ ?_; (focus simp [upd, hn, s3, s4, s13, s12, s11, s14, hi, hw, e1, e2, e3, bne]; done))
        | (refine Tri.cond_false ?_ ?_; (focus simp [upd, hn, s3, s4, s13, s12, s11, s14, hi, hw, e1, e2, e3, bne]; done))
        | (refine Tri.skip ?_; simp only [thenS, blockS])
        | (refine Tri.block_seq ?_)
        | (refine Tri.block_region ?_)
        | (refine Tri.block_cond ?_)
        | (refine Tri.exit ?_; simp [upd, hn, s3, s4, s13, s12, s11, s14, hi, hw, e1, e2, e3, bne]; first | (rename ∀ st, Tri _ _ _ st _ → _ => hK; first | (apply hK; clear hK) | (clear hK; rename ∀ st, Tri _ _ _ st _ → _ => hK; first | (apply hK; clear hK) | (clear hK; rename ∀ st, Tri _ _ _ st _ → _ => hK; first | (apply hK; clear hK) | (clear hK; rename ∀ st, Tri _ _ _ st _ → _ => hK; first | (apply hK; clear hK) | (clear hK; rename ∀ st, Tri _ _ _ st _ → _ => hK; first | (apply hK; clear hK) | (clear hK; rename ∀ st, Tri _ _ _ st _ → _ => hK; apply hK; clear hK)))))) | skip)
        | (intro β)
        | (rename ∀ st, Tri _ _ _ st _ → _ => hK; apply hK; clear hK))
      refine ⟨m - 1, by omega, .sl true 0 none [], O, [], outs, i + 1, by omega, ⟨rfl, by simp [upd, s3], by simp [upd, s4], by simp [upd, s13], by simp [upd, s12, I1], by simp [upd, s11, runsC, runC], by simp [upd], ?_, ?_, ?_, ?_, ?_⟩⟩
      · exact .inl ⟨rfl, _, _, rfl⟩
      · simpa [GC, upd] using gO
      · simp
      · omega
      · exact eq
    · have hrun : run ≠ [] := by rintro rfl; simp [I1] at hne
      rw [if_neg hrun] at eq
      have hr1 : 0 < (I1 run).length := List.length_pos_iff.2 hne
      have hr2 : ¬ I1 run = [] := hne
      have hr3 : 0 < ((I1 run).length : Int) := by omega
      rcases gO with ⟨hnil, k0, own, rfl⟩ | ⟨b', hne', rfl, hrw'⟩
      · have hout : outs = [] := by simpa [runsC] using hnil
        subst hout
        repeat (first
          | (refine Tri.seq fun K hK => ?_)
          | (refine Tri.region ?_; simp [upd, hn, s3, s4, s13, s12, s11, s14, hi, hw, e1, e2, e3, hr1, hr2, hr3, bne])
          | (refine Tri.draw (by kernel_rfl) (by decide +kernel) ?_; simp [upd, hn, s3, s4, s13, s12, s11, s14, hi, hw, e1, e2, e3, hr1, hr2, hr3, bne])
          | (refine Tri.cond_true ?_ ?_; (focus simp [upd, hn, s3, s4, s13, s12, s11, s14, hi, hw, e1, e2, e3, hr1, hr2, hr3, bne]; done))
          | (refine Tri.cond_false ?_ ?_; (focus simp [upd, hn, s3, s4, s13, s12, s11, s14, hi, hw, e1, e2, e3, hr1, hr2, hr3, bne]; done))
          | (refine Tri.skip ?_; simp only [thenS, blockS])
          | (refine Tri.block_seq ?_)
          | (refine Tri.block_region ?_)
          | (refine Tri.block_cond ?_)
          | (refine Tri.exit ?_; simp [upd, hn, s3, s4, s13, s12, s11, s14, hi, hw, e1, e2, e3, hr1, hr2, hr3, bne]; first | (rename ∀ st, Tri _ _ _ st _ → _ => hK; first | (apply hK; clear hK) | (clear hK; rename ∀ st, Tri _ _ _ st _ → _ => hK; first | (apply hK; clear hK) | (clear hK; rename ∀ st, Tri _ _ _ st _ → _ => hK; first | (apply hK; clear hK) | (clear hK; rename ∀ st, Tri _ _ _ st _ → _ => hK; first | (apply hK; clear hK) | (clear hK; rename ∀ st, Tri _ _ _ st _ → _ => hK; first | (apply hK; clear hK) | (clear hK; rename ∀ st, Tri _ _ _ st _ → _ => hK; apply hK; clear hK)))))) | skip)
          | (intro β)
          | (rename ∀ st, Tri _ _ _ st _ → _ => hK; apply hK; clear hK))
        refine ⟨m - 1, by omega, .sl true 0 none [], .sl false 1 (some (63, β)) (runsC [run]), [], [run], i + 1, by omega, ⟨rfl, by simp [upd, s3], by simp [upd, s4], by simp [upd, s13], by simp [upd, s12, I1], by simp [upd, s11, runsC, runC], by simp [upd], ?_, ?_, ?_, ?_, ?_⟩⟩
        · exact .inl ⟨rfl, _, _, rfl⟩
        · exact .inr ⟨β, by simp [runsC], rfl, by simp [upd, runsC]⟩
        · simp
        · simp
        · simpa using eq
      · have hb : ((runsC outs).length + 1) * 24 ≤ 140737488355328 := by simp [runsC]; omega
        repeat (first
          | (refine Tri.seq fun K hK => ?_)
          | (refine Tri.region ?_; simp [upd, hn, s3, s4, s13, s12, s11, s14, hi, hw, e1, e2, e3, hr1, hr2, hr3, hb, hrw', bne])
          | (refine Tri.draw (by kernel_rfl) (by decide +kernel) ?_; simp [upd, hn, s3, s4, s13, s12, s11, s14, hi, hw, e1, e2, e3, hr1, hr2, hr3, hb, hrw', bne])
          | (refine Tri.cond_true ?_ ?_; (focus simp [upd, hn, s3, s4, s13, s12, s11, s14, hi, hw, e1, e2, e3, hr1, hr2, hr3, hb, hrw', bne]; done))
          | (refine Tri.cond_false ?_ ?_; (focus simp [upd, hn, s3, s4, s13, s12, s11, s14, hi, hw, e1, e2, e3, hr1, hr2, hr3, hb, hrw', bne]; done))
          | (refine Tri.skip ?_; simp only [thenS, blockS])
          | (refine Tri.block_seq ?_)
          | (refine Tri.block_region ?_)
          | (refine Tri.block_cond ?_)
          | (refine Tri.exit ?_; simp [upd, hn, s3, s4, s13, s12, s11, s14, hi, hw, e1, e2, e3, hr1, hr2, hr3, hb, hrw', bne]; first | (rename ∀ st, Tri _ _ _ st _ → _ => hK; first | (apply hK; clear hK) | (clear hK; rename ∀ st, Tri _ _ _ st _ → _ => hK; first | (apply hK; clear hK) | (clear hK; rename ∀ st, Tri _ _ _ st _ → _ => hK; first | (apply hK; clear hK) | (clear hK; rename ∀ st, Tri _ _ _ st _ → _ => hK; first | (apply hK; clear hK) | (clear hK; rename ∀ st, Tri _ _ _ st _ → _ => hK; first | (apply hK; clear hK) | (clear hK; rename ∀ st, Tri _ _ _ st _ → _ => hK; apply hK; clear hK)))))) | skip)
          | (intro β)
          | (rename ∀ st, Tri _ _ _ st _ → _ => hK; apply hK; clear hK))
        refine ⟨m - 1, by omega, .sl true 0 none [], .sl false 1 (some (63, β)) (runsC (outs ++ [run])), [], outs ++ [run], i + 1, by omega, ⟨rfl, by simp [upd, s3], by simp [upd, s4], by simp [upd, s13], by simp [upd, s12, I1], by simp [upd, s11, runsC, runC], by simp [upd], ?_, ?_, ?_, ?_, ?_⟩⟩
        · exact .inl ⟨rfl, _, _, rfl⟩
        · exact .inr ⟨β, by simp [runsC], rfl, by simp [upd, runsC]⟩
        · simp
        · simp; omega
        · simpa using eq
end Go.Proofs.Ytcohdlochpjnjaa
end
section
open Go Go.Vm
namespace Go.Proofs.Ytcohdlochpjnjaa
set_option maxRecDepth 100000
set_option maxHeartbeats 4000000
set_option linter.unusedSimpArgs false
theorem attempts_does2 (r : Rec) (flow frame : Int) (hl : r.atts.length ≤ 1099511627776) : Does Try.prog 20 [.agg (recC r), .c (.int .i64 flow), .c (.int .i64 frame)] (.c (.sl (attsOf r flow frame).isEmpty 8 none ((attsOf r flow frame).map attC))) := attempts_does r flow frame hl
theorem runsC_len (l : List (List Int)) : (runsC l).length = l.length := by simp [runsC]
theorem runsC_get (l : List (List Int)) (k : Nat) (hk : k < l.length) : (runsC l)[k]? = some [runC l[k]] := by simp [runsC, hk]
theorem lossGo_lens (frm to : Int) (l : List Att) : (lossGo frm to [] l).length ≤ l.length + 1 ∧ ∀ x ∈ lossGo frm to [] l, x.length ≤ l.length := by
  have : ∀ (l : List Att) (q : List Int), (lossGo frm to q l).length ≤ l.length + 1 ∧ ∀ x ∈ lossGo frm to q l, x.length ≤ q.length + l.length := by
    intro l
    induction l with
    | nil => intro q; rw [lossGo]; split <;> simp
    | cons a l ih =>
      intro q
      have h1 := ih []
      have h2 := ih (q ++ [a.slot])
      have h3 := ih q
      rw [lossGo]
      split
      · split
        · split
          · refine ⟨by simp; omega, fun x hx => by have := h1.2 x hx; simp at this ⊢; omega⟩
          · refine ⟨by simp; omega, fun x hx => ?_⟩
            rcases List.mem_cons.1 hx with rfl | hx
            · simp
            · have := h1.2 x hx; simp at this ⊢; omega
        · refine ⟨by simp; omega, fun x hx => by have := h2.2 x hx; simp at this ⊢; omega⟩
      · refine ⟨by simp; omega, fun x hx => by have := h3.2 x hx; simp at this ⊢; omega⟩
  have h := this l []
  exact ⟨h.1, fun x hx => by have := h.2 x hx; simpa using this⟩
theorem losses_lens (r : Rec) (flow frame frm to : Int) : (losses r flow frame frm to).length ≤ r.atts.length + 1 ∧ ∀ x ∈ losses r flow frame frm to, x.length ≤ r.atts.length := by
  have h := lossGo_lens frm to (attsOf r flow frame)
  have := attsOf_le r flow frame
  rw [losses_def]
  exact ⟨by omega, fun x hx => by have := h.2 x hx; omega⟩
theorem equalR_does (x : List Int) (hl : x.length ≤ 1073741824) : Does Try.prog 23 [.c (runC x), .c (runC x)] (.c (.bool true)) := by
  have l := equalI_does x x false false hl
  rw [beq_self_eq_true] at l
  exact l
attribute [local irreducible] Tri Does DoesB Rounds losses attsOf counts runsC runC
theorem same_eq (x : List Int) (hl : x.length ≤ 1073741824) : Does Try.prog 22 [.c (runC x), .c (runC x)] (.c (.bool true)) := by
  have l := equalR_does x hl
  refine Does.of_body Try.func22 rfl (by kernel_rfl) rfl rfl (by simp) ?_
  intro E
  repeat (first
    | (refine Tri.seq fun K hK => ?_)
    | (refine Tri.region ?_; simp [upd])
    | (refine Tri.draw (by kernel_rfl) (by decide +kernel) ?_; simp [upd])
    | (refine Tri.cond_true ?_ ?_; (focus simp [upd]; done))
    | (refine Tri.cond_false ?_ ?_; (focus simp [upd]; done))
    | (refine Tri.skip ?_; simp only [thenS, blockS])
    | (refine Tri.block_seq ?_)
    | (refine Tri.block_region ?_)
    | (refine Tri.block_cond ?_)
    | ((with_reducible refine CallK.pure (l) (Wks.refl _) ?_); simp [upd])
    | (refine Tri.exit ?_; simp [upd]; first | (rename ∀ st, Tri _ _ _ st _ → _ => hK; first | (apply hK; clear hK) | (clear hK; rename ∀ st, Tri _ _ _ st _ → _ => hK; first | (apply hK; clear hK) | (clear hK; rename ∀ st, Tri _ _ _ st _ → _ => hK; first | (apply hK; clear hK) | (clear hK; rename ∀ st, Tri _ _ _ st _ → _ => hK; first | (apply hK; clear hK) | (clear hK; rename ∀ st, Tri _ _ _ st _ → _ => hK; first | (apply hK; clear hK) | (clear hK; rename ∀ st, Tri _ _ _ st _ → _ => hK; apply hK; clear hK)))))) | skip)
    | (intro β)
    | (rename ∀ st, Tri _ _ _ st _ → _ => hK; apply hK; clear hK))
  refine Tri.ret ⟨_, rfl, ?_⟩
  simp [upd]
  exact Wk.refl _
theorem equalF_does (x : List (List Int)) (n1 n2 : Bool) (hl : x.length ≤ 1073741824) (hx : ∀ y ∈ x, y.length ≤ 1073741824) : Does Try.prog 26 [.c (.sl n1 1 none (runsC x)), .c (.sl n2 1 none (runsC x)), .c (.fn 22 [])] (.c (.bool true)) := by
  refine Does.of_body Try.func26 rfl (by kernel_rfl) rfl rfl (by simp) ?_
  intro E
  repeat (first
    | (refine Tri.seq fun K hK => ?_)
    | (refine Tri.region ?_; simp [upd, runsC_len, bne])
    | (refine Tri.draw (by kernel_rfl) (by decide +kernel) ?_; simp [upd, runsC_len, bne])
    | (refine Tri.cond_true ?_ ?_; (focus simp [upd, runsC_len, bne]; done))
    | (refine Tri.cond_false ?_ ?_; (focus simp [upd, runsC_len, bne]; done))
    | (refine Tri.skip ?_; simp only [thenS, blockS])
    | (refine Tri.block_seq ?_)
    | (refine Tri.block_region ?_)
    | (refine Tri.block_cond ?_)
    | (refine Tri.exit ?_; simp [upd, runsC_len, bne]; first | (rename ∀ st, Tri _ _ _ st _ → _ => hK; first | (apply hK; clear hK) | (clear hK; rename ∀ st, Tri _ _ _ st _ → _ => hK; first | (apply hK; clear hK) | (clear hK; rename ∀ st, Tri _ _ _ st _ → _ => hK; first | (apply hK; clear hK) | (clear hK; rename ∀ st, Tri _ _ _ st _ → _ => hK; first | (apply hK; clear hK) | (clear hK; rename ∀ st, Tri _ _ _ st _ → _ => hK; first | (apply hK; clear hK) | (clear hK; rename ∀ st, Tri _ _ _ st _ → _ => hK; apply hK; clear hK)))))) | skip)
    | (intro β)
    | (rename ∀ st, Tri _ _ _ st _ → _ => hK; apply hK; clear hK))
  refine Tri.range 17 16 18 31 32 rfl rfl x.length (fun k st => st.sl 15 = .c (.sl n1 1 none (runsC x)) ∧ st.sl 1 = .c (.sl n2 1 none (runsC x)) ∧ st.sl 2 = .c (.fn 22 [])) (by simp) (by omega) ?_ rfl (by simp [upd]) (by simp [upd, runsC_len]) ?_ ?_ ?_
  · rintro k st t v ht ⟨a1, a2, a3⟩
    rcases ht with rfl | rfl | rfl <;> exact ⟨by simpa [upd] using a1, by simpa [upd] using a2, by simpa [upd] using a3⟩
  · exact ⟨by simp [upd], by simp [upd], by simp [upd]⟩
  · rintro k st hk ⟨a1, a2, a3⟩ hn h17 h16
    have hk' : k < (runsC x).length := by rw [runsC_len]; exact hk
    have g : (runsC x)[k] = [runC x[k]] := by simp [runsC]
    have l := same_eq x[k] (hx _ (List.getElem_mem hk))
    repeat (first
      | (refine Tri.seq fun K hK => ?_)
      | (refine Tri.region ?_; simp [upd, hn, a1, a2, a3, h17, h16, hk, runsC_len, g])
      | (refine Tri.draw (by kernel_rfl) (by decide +kernel) ?_; simp [upd, hn, a1, a2, a3, h17, h16, hk, runsC_len, g])
      | (refine Tri.cond_true ?_ ?_; (focus simp [upd, hn, a1, a2, a3, h17, h16, hk, runsC_len, g]; done))
      | (refine Tri.cond_false ?_ ?_; (focus simp [upd, hn, a1, a2, a3, h17, h16, hk, runsC_len, g]; done))
      | (refine Tri.skip ?_; simp only [thenS, blockS])
      | (refine Tri.block_seq ?_)
      | (refine Tri.block_region ?_)
      | (refine Tri.block_cond ?_)
      | ((with_reducible refine CallK.pure (l) (Wks.refl _) ?_); simp [upd, hn, a1, a2, a3, h17, h16, hk, runsC_len, g])
      | (refine Tri.exit ?_; simp [upd, hn, a1, a2, a3, h17, h16, hk, runsC_len, g]; first | (rename ∀ st, Tri _ _ _ st _ → _ => hK; first | (apply hK; clear hK) | (clear hK; rename ∀ st, Tri _ _ _ st _ → _ => hK; first | (apply hK; clear hK) | (clear hK; rename ∀ st, Tri _ _ _ st _ → _ => hK; first | (apply hK; clear hK) | (clear hK; rename ∀ st, Tri _ _ _ st _ → _ => hK; first | (apply hK; clear hK) | (clear hK; rename ∀ st, Tri _ _ _ st _ → _ => hK; first | (apply hK; clear hK) | (clear hK; rename ∀ st, Tri _ _ _ st _ → _ => hK; apply hK; clear hK)))))) | skip)
      | (intro β)
      | (rename ∀ st, Tri _ _ _ st _ → _ => hK; apply hK; clear hK))
    try simp [upd, h17, h16, a1, a2, a3]
  · rintro st ⟨a1, a2, a3⟩ hn
    rename ∀ st, Tri _ _ _ st _ → _ => hK
    apply hK
    repeat (first
      | (refine Tri.seq fun K hK => ?_)
      | (refine Tri.region ?_; simp [upd, hn])
      | (refine Tri.draw (by kernel_rfl) (by decide +kernel) ?_; simp [upd, hn])
      | (refine Tri.cond_true ?_ ?_; (focus simp [upd, hn]; done))
      | (refine Tri.cond_false ?_ ?_; (focus simp [upd, hn]; done))
      | (refine Tri.skip ?_; simp only [thenS, blockS])
      | (refine Tri.block_seq ?_)
      | (refine Tri.block_region ?_)
      | (refine Tri.block_cond ?_)
      | (refine Tri.exit ?_; simp [upd, hn]; first | (rename ∀ st, Tri _ _ _ st _ → _ => hK; first | (apply hK; clear hK) | (clear hK; rename ∀ st, Tri _ _ _ st _ → _ => hK; first | (apply hK; clear hK) | (clear hK; rename ∀ st, Tri _ _ _ st _ → _ => hK; first | (apply hK; clear hK) | (clear hK; rename ∀ st, Tri _ _ _ st _ → _ => hK; first | (apply hK; clear hK) | (clear hK; rename ∀ st, Tri _ _ _ st _ → _ => hK; first | (apply hK; clear hK) | (clear hK; rename ∀ st, Tri _ _ _ st _ → _ => hK; apply hK; clear hK)))))) | skip)
      | (intro β)
      | (rename ∀ st, Tri _ _ _ st _ → _ => hK; apply hK; clear hK))
    refine Tri.ret ⟨_, rfl, ?_⟩
    simp [upd]
    exact Wk.refl _
theorem counts_cells (r : Rec) : ∃ a b c d e, counts r = [.int .i64 a, .int .i64 b, .int .i64 c, .int .i64 d, .int .i64 e] := by
  unfold counts
  exact ⟨_, _, _, _, _, rfl⟩
theorem asks_does (r : Rec) (flow frame frm to : Int) (h1 : r.an = true → r.atts = []) (h2 : r.dn = true → r.dels = []) : Does Try.prog 7 [.agg (recC r), .c (.int .i64 flow), .c (.int .i64 frame), .c (.int .i64 frm), .c (.int .i64 to)] (.c (.bool true)) := by
  have l0 := awake_does
  have l1 := few_does r
  refine Does.of_body Try.func7 rfl (by kernel_rfl) rfl rfl (by simp) ?_
  intro E
  cases hf : (decide (r.atts.length ≤ 150) && decide (r.dels.length ≤ 100))
  case false =>
    rw [hf] at l1
    simp only [recC] at l1 ⊢
    repeat (first
      | (refine Tri.seq fun K hK => ?_)
      | (refine Tri.region ?_; simp [upd])
      | (refine Tri.draw (by kernel_rfl) (by decide +kernel) ?_; simp [upd])
      | (refine Tri.cond_true ?_ ?_; (focus simp [upd]; done))
      | (refine Tri.cond_false ?_ ?_; (focus simp [upd]; done))
      | (refine Tri.skip ?_; simp only [thenS, blockS])
      | (refine Tri.block_seq ?_)
      | (refine Tri.block_region ?_)
      | (refine Tri.block_cond ?_)
      | ((with_reducible refine CallK.pure (l0) (Wks.refl _) ?_); simp [upd])
      | ((with_reducible refine CallK.pure (l1) (Wks.refl _) ?_); simp [upd])
      | (refine Tri.exit ?_; simp [upd]; first | (rename ∀ st, Tri _ _ _ st _ → _ => hK; first | (apply hK; clear hK) | (clear hK; rename ∀ st, Tri _ _ _ st _ → _ => hK; first | (apply hK; clear hK) | (clear hK; rename ∀ st, Tri _ _ _ st _ → _ => hK; first | (apply hK; clear hK) | (clear hK; rename ∀ st, Tri _ _ _ st _ → _ => hK; first | (apply hK; clear hK) | (clear hK; rename ∀ st, Tri _ _ _ st _ → _ => hK; first | (apply hK; clear hK) | (clear hK; rename ∀ st, Tri _ _ _ st _ → _ => hK; apply hK; clear hK)))))) | skip)
      | (intro β)
      | (rename ∀ st, Tri _ _ _ st _ → _ => hK; apply hK; clear hK))
    refine Tri.ret ⟨_, rfl, ?_⟩
    simp [upd]
    exact Wk.refl _
  rw [hf] at l1
  simp only [Bool.and_eq_true, decide_eq_true_eq] at hf
  have hok : RecOk r := ⟨h1, h2, by omega, by omega⟩
  have l2 := cp_does r hok
  have l3 := attempts_does2 r flow frame (by omega)
  have l4 := attemptsR_does r flow frame (by omega)
  have l5 := equalA_does (attsOf r flow frame) (attsOf r flow frame).isEmpty (attsOf r flow frame).isEmpty (by have := attsOf_le r flow frame; omega)
  have l6 := losses_does r flow frame frm to (by omega)
  have l7 := lossesR_does r flow frame frm to (by omega)
  have hl := losses_lens r flow frame frm to
  have l8 := equalF_does (losses r flow frame frm to) (losses r flow frame frm to).isEmpty (losses r flow frame frm to).isEmpty (by omega) (fun y hy => by have := hl.2 y hy; omega)
  have l9 := counts_does r (by omega)
  have l10 := countsR_does r (by omega)
  obtain ⟨ca, cb, cc, cd, ce, hcs⟩ := counts_cells r
  rw [hcs] at l9 l10
  generalize attsOf r flow frame = ats at *
  generalize losses r flow frame frm to = lss at *
  simp only [recC] at l1 l2 l3 l4 l5 l6 l7 l8 l9 l10 ⊢
  repeat (first
    | (refine Tri.seq fun K hK => ?_)
    | (refine Tri.region ?_; simp [upd])
    | (refine Tri.draw (by kernel_rfl) (by decide +kernel) ?_; simp [upd])
    | (refine Tri.cond_true ?_ ?_; (focus simp [upd]; done))
    | (refine Tri.cond_false ?_ ?_; (focus simp [upd]; done))
    | (refine Tri.skip ?_; simp only [thenS, blockS])
    | (refine Tri.block_seq ?_)
    | (refine Tri.block_region ?_)
    | (refine Tri.block_cond ?_)
    | ((with_reducible refine CallK.pure (l0) (Wks.refl _) ?_); simp [upd])
    | ((with_reducible refine CallK.pure (l1) (Wks.refl _) ?_); simp [upd])
    | ((with_reducible refine CallK.pure (l2) (Wks.refl _) ?_); simp [upd])
    | ((with_reducible refine CallK.pure (l3) (Wks.refl _) ?_); simp [upd])
    | ((with_reducible refine CallK.pure (l4) (Wks.refl _) ?_); simp [upd])
    | ((with_reducible refine CallK.pure (l5) (Wks.refl _) ?_); simp [upd])
    | ((with_reducible refine CallK.pure (l6) (Wks.refl _) ?_); simp [upd])
    | ((with_reducible refine CallK.pure (l7) (Wks.refl _) ?_); simp [upd])
    | ((with_reducible refine CallK.pure (l8) (Wks.refl _) ?_); simp [upd])
    | ((with_reducible refine CallK.pure (l9) (Wks.refl _) ?_); simp [upd])
    | ((with_reducible refine CallK.pure (l10) (Wks.refl _) ?_); simp [upd])
    | (refine Tri.exit ?_; simp [upd]; first | (rename ∀ st, Tri _ _ _ st _ → _ => hK; first | (apply hK; clear hK) | (clear hK; rename ∀ st, Tri _ _ _ st _ → _ => hK; first | (apply hK; clear hK) | (clear hK; rename ∀ st, Tri _ _ _ st _ → _ => hK; first | (apply hK; clear hK) | (clear hK; rename ∀ st, Tri _ _ _ st _ → _ => hK; first | (apply hK; clear hK) | (clear hK; rename ∀ st, Tri _ _ _ st _ → _ => hK; first | (apply hK; clear hK) | (clear hK; rename ∀ st, Tri _ _ _ st _ → _ => hK; apply hK; clear hK)))))) | skip)
    | (intro β)
    | (rename ∀ st, Tri _ _ _ st _ → _ => hK; apply hK; clear hK))
  refine Tri.ret ⟨_, rfl, ?_⟩
  simp [upd]
  exact Wk.refl _
end Go.Proofs.Ytcohdlochpjnjaa
end
section
open Go Go.Vm
open Go.ChangeShapes Go.WideShapes Go.ChangeAt Go.RowKit
namespace Go.Proofs.Ytcohdlochpjnjaa.recordAsks
set_option linter.unusedVariables false
theorem own : ownKnob Try.prog.godebug = none := by kernel_rfl
set_option maxRecDepth 100000 in
theorem lifted (os : Os) (started : os.Started) (H : Type) (enc : TypeId × Value → H) :
    ReturnsInHanded {} Try.checked os 7 .any (Rows.recordAsksSpec.pre6 enc Try.prog Try.f7 Rows.recordAsksRow.domain false) (Rows.recordAsksSpec.post enc Try.prog Try.f7 false true false false) := by
  refine returnsInHanded_of_change (C := Try.checked) own started (by kernel_rfl) Try.func7
    (ChangeSpec.witness6 (enc := enc) (C := Try.checked) false ⟨#[], #[.agg #[.int .i64 0, .slice none 0 0, .slice none 0 0], .int .i64 0, .int .i64 0, .int .i64 0, .int .i64 0], []⟩ 8 (by kernel_rfl) (by kernel_rfl) (by kernel_rfl) (by kernel_rfl)) ?_
  intro W base args ds gs before hval0 hW hcnd _
  have hval : ∀ (j : Nat) t v, Try.f7.params[j]? = some t → args[j]? = some v → Value.okWide Try.prog W .any base t v := hval0
  have hW' := hW
  obtain ⟨p, q, hA0, hV, rfl, hfz, hnd⟩ := hW
  have hA : DataW.TrodAll enc Try.prog W 0 (fun _ => true) true Try.f7.params.toList args.toList ds p := hA0
  rw [Try.params7] at hA hval
  obtain ⟨v0, vs0, d0, ds0, p0, q0, hargs0, rfl, rfl, h0, r0⟩ := trodAll_cons hA
  obtain ⟨v1, vs1, d1, ds1, p1, q1, hargs1, rfl, rfl, h1, r1⟩ := trodAll_cons r0
  subst hargs1
  obtain ⟨v2, vs2, d2, ds2, p2, q2, hargs2, rfl, rfl, h2, r2⟩ := trodAll_cons r1
  subst hargs2
  obtain ⟨v3, vs3, d3, ds3, p3, q3, hargs3, rfl, rfl, h3, r3⟩ := trodAll_cons r2
  subst hargs3
  obtain ⟨v4, vs4, d4, ds4, p4, q4, hargs4, rfl, rfl, h4, r4⟩ := trodAll_cons r3
  subst hargs4
  obtain ⟨rfl, rfl, rfl⟩ := trodAll_nil r4
  obtain rfl : args = #[v0, v1, v2, v3, v4] := by cases args; simp_all
  obtain ⟨rfl, rfl⟩ := trodVars_none hV
  obtain ⟨r, hra, hrd, hrl, hrm, hv0⟩ := open_rec (hval 0 28 v0 rfl rfl) h0
  obtain ⟨a, rfl, rfl, rfl, w1⟩ := open_int (k := .i64) (by kernel_rfl) (hval 1 3 v1 rfl rfl) h1
  have ha : -9223372036854775808 ≤ a ∧ a < 9223372036854775808 := by
    have := w1
    simp [Lit.wf, IntKind.min, IntKind.max, IntKind.signed, IntKind.bits] at this
    omega
  obtain ⟨b, rfl, rfl, rfl, w2⟩ := open_int (k := .i64) (by kernel_rfl) (hval 2 3 v2 rfl rfl) h2
  have hb : -9223372036854775808 ≤ b ∧ b < 9223372036854775808 := by
    have := w2
    simp [Lit.wf, IntKind.min, IntKind.max, IntKind.signed, IntKind.bits] at this
    omega
  obtain ⟨c, rfl, rfl, rfl, w3⟩ := open_int (k := .i64) (by kernel_rfl) (hval 3 3 v3 rfl rfl) h3
  have hc : -9223372036854775808 ≤ c ∧ c < 9223372036854775808 := by
    have := w3
    simp [Lit.wf, IntKind.min, IntKind.max, IntKind.signed, IntKind.bits] at this
    omega
  obtain ⟨d, rfl, rfl, rfl, w4⟩ := open_int (k := .i64) (by kernel_rfl) (hval 4 3 v4 rfl rfl) h4
  have hd : -9223372036854775808 ≤ d ∧ d < 9223372036854775808 := by
    have := w4
    simp [Lit.wf, IntKind.min, IntKind.max, IntKind.signed, IntKind.bits] at this
    omega
  clear hA0 hval0
  simp only [List.append_nil] at hW'
  have hlt := hW'.lt
  have hD := (asks_does r a b c d hra hrd).2 (fun b _ => b < W.heap.size) W [v0, .int .i64 a, .int .i64 b, .int .i64 c, .int .i64 d] ⟨rfl, fun k hk => match k, hk with
    | 0, _ => hv0
    | 1, _ => .c (.int _ _)
    | 2, _ => .c (.int _ _)
    | 3, _ => .c (.int _ _)
    | 4, _ => .c (.int _ _)⟩ (fun b _ h => h)
  refine hD.mono fun e W' ⟨u, F', he, hu, hl⟩ => ?_
  subst he
  have hb : Below W.heap.size W W' := ⟨hl.os, hl.tape, hl.output, hl.size, hl.block⟩
  have hu' := hu.inv
  cases hu'
  have hsame0 : ∀ p ∈ p0, W.sameAt W' p := fun p hp => hb.same (hlt p (by simp [hp]))
  exact ⟨_, rfl, post_below (pa := (p0 ++ ([] ++ ([] ++ ([] ++ ([] ++ [])))))) (pv := []) hW' hb (by simp) (fun _ _ _ => (trodAll_cons_mk (shut_bool Try.underlying4 _) trodAll_mk0))
    (fun sp hsp => (trodAll_cons_mk (WideElems.Trod_stays (by kernel_rfl) (by kernel_rfl) (by decide +kernel) h0 hsame0 fun p hp => hsp p (by simp [hp])) (trodAll_cons_mk (shut_int (by kernel_rfl) w1) (trodAll_cons_mk (shut_int (by kernel_rfl) w2) (trodAll_cons_mk (shut_int (by kernel_rfl) w3) (trodAll_cons_mk (shut_int (by kernel_rfl) w4) trodAll_mk0))))))
    (fun _ _ => rfl) (ok_one (by kernel_rfl) rfl (okWide_bool_mk Try.underlying4 _))⟩
theorem over : Rows.recordAsksRow.holds Try.pinned (OpenSpec.ofChange Rows.recordAsksSpec) :=
  OpenClaim.holds_of_wide 7 Try.f7 rfl rfl rfl rfl rfl rfl rfl ⟨rfl, rfl, rfl, rfl, rfl⟩ rfl rfl rfl rfl rfl (by kernel_rfl) Try.func7 (by kernel_rfl)
    (of_decide_eq_true (by kernel_rfl)) (by unfold Func.isWrapper; first | (rw [if_pos (by decide +kernel)]; kernel_rfl) | (rw [if_neg (by decide +kernel)]; exact ⟨rfl, rfl⟩))
    (fun os started H enc _ => lifted os started H enc)
theorem proved : Rows.RecordAsksSaid :=
  over
end Go.Proofs.Ytcohdlochpjnjaa.recordAsks
end
