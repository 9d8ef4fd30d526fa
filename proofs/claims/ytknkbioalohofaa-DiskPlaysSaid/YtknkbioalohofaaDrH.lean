/- The walk of the document's disk's Crash. -/
import Derived.Test.YtknkbioalohofaaDrE
import Derived.Test.YtknkbioalohofaaDkH
import Derived.Test.YtknkbioalohofaaDkL
namespace Go.Proofs.Ytknkbioalohofaa
open Go.RowKit

namespace D
theorem rem_keep (a : Int) (n : Nat) (hn : 0 < n) : (a.tmod (n : Int) < 0 ∧ a.tmod (n : Int) + (n : Int) = a % (n : Int)) ∨ (0 ≤ a.tmod (n : Int) ∧ a.tmod (n : Int) = a % (n : Int)) := by
  have h0 := Int.emod_nonneg a (by omega : (n : Int) ≠ 0)
  have h1 := Int.emod_lt_of_pos a (by omega : (0 : Int) < (n : Int))
  rw [Int.tmod_eq_emod (a := a)]
  split
  · right; simp only [Int.natCast_zero]; omega
  · left
    rw [Int.natAbs_natCast]
    omega
end D
theorem barr_upto (b : List UInt8) (S : Nat) : (⟨b.toArray⟩ : ByteArray).extract 0 S = ⟨(b.take S).toArray⟩ := by
  apply ByteArray.ext
  rw [ByteArray.data_extract]
  simp
set_option maxRecDepth 100000 in
set_option maxHeartbeats 4000000 in
theorem rcrash_any (M : D.Dk) (keeps : List Int) (kv : Value) (v : Value) (w : World) (h : RDk w v M) (hM : Tame M) (hki : IntsAt w kv keeps) (hkl : keeps.length ≤ 1000000) (hwf : ∀ a ∈ keeps, -9223372036854775808 ≤ a ∧ a < 9223372036854775808) :
    Calls Try.prog 86 #[v, kv] w fun e w' => ∃ v', e = .returned v' ∧ RDk w' v' (D.crash M keeps) ∧ Below w.heap.size w w' := by
  obtain ⟨A, c, rfl, hrow⟩ := h
  obtain ⟨Ak, ck, rfl, hkc, hcells⟩ := hki
  rw [List.length_map] at hkc ⊢
  have hlen := hM.len
  have hus := hM.used
  have hgd := hM.good
  obtain ⟨room, fuse, dead, l⟩ := M
  dsimp only at hlen hus hgd hrow
  have h := fread_row hrow
  obtain ⟨B0, B2, hB0⟩ := two_new w #[.int .i64 room, .int .i64 fuse, .bool dead, .slice A l.length c] #[.int .i64 0, .int .i64 0, .bool false, .slice none 0 0] 76 76
  obtain ⟨W0, hW0⟩ : ∃ W, W = (w.alloc (.cells #[.int .i64 room, .int .i64 fuse, .bool dead, .slice A l.length c] 76)).alloc (.cells #[.int .i64 0, .int .i64 0, .bool false, .slice none 0 0] 76) := ⟨_, rfl⟩
  have hsz0 : W0.heap.size = w.heap.size + 2 := by rw [hW0]; simp only [World.size_alloc]
  rw [← hW0] at B0 B2 hB0
  have r0 : FRow (W0.alloc (.cells #[] 81)) (.slice (some ⟨W0.heap.size, 0, none⟩) 0 0) [] := RowN.build W0 _ 3 [] #[] 0 rfl (by simp) rfl (by omega)
  have hb0 := (Below.refl W0.heap.size W0).alloc (Nat.le_refl _) (.cells #[] 81)
  rw [hsz0] at r0
  have ho0 : (Value.slice (some ⟨w.heap.size + 2, 0, none⟩) 0 0).ownBlock = none ∨ ∃ k, W0.heap.size ≤ k ∧ (Value.slice (some ⟨w.heap.size + 2, 0, none⟩) 0 0).ownBlock = some k := .inr ⟨_, Nat.le_of_eq hsz0, rfl⟩
  have hW0' := Lib.hid hW0
  change Calls Try.prog _ #[.agg #[.int .i64 room, .int .i64 fuse, .bool dead, .slice A l.length c], _] w _
  go_enter Try.func86, Try.ntmps86
  go_wp2
  rw [← hW0]
  clear hW0
  go_loopw [5, 14] (fun u i wr => ∃ (k : Nat) (acc : List D.Fl), k ≤ l.length ∧ acc.length ≤ k ∧ i = .int .i64 (k : Int) ∧ D.crashL keeps 0 l = acc ++ D.crashL keeps k (l.drop k) ∧ FRow wr u acc ∧ (u.ownBlock = none ∨ ∃ k, W0.heap.size ≤ k ∧ u.ownBlock = some k) ∧ Below W0.heap.size W0 wr) (fun _ i _ => l.length - (intOf i).toNat)
  case atStart => exact ⟨0, [], Nat.zero_le _, by simp, rfl, by rw [List.drop_zero, List.nil_append], r0, ho0, hb0⟩
  case round =>
    clear r0 hb0 ho0
    obtain ⟨k, acc, hk, hacc, rfl, hgo, hrow9, hown, hB⟩ := hrel
    obtain ⟨A9, m9, c9, rfl, hm9, hrow9⟩ := rowN_open' hrow9
    have Hm9 := Lib.hid hm9
    clear hm9
    have hBw : Below w.heap.size w wr := hB0.trans (hB.mono hB0.size)
    have q0 : (0 : Int) ≤ (k : Int) := by omega
    have C0 := B0.below hB (by omega)
    have C2 := B2.below hB (by omega)
    have hwz : w.heap.size + 2 ≤ wr.heap.size := by have := hB.size; omega
    by_cases hm : k < l.length
    · have d1 : decide ((k : Int) < (l.length : Int)) = true := decide_eq_true (by omega)
      have q1 : (k : Int) < (l.length : Int) := by omega
      obtain ⟨x, hx⟩ : ∃ f, l[k]? = some f := ⟨_, List.getElem?_eq_getElem hm⟩
      obtain ⟨g, o, rfl, hg, cR⟩ := fread_at (h.at_ (hBw.mono (Nat.le_refl _))) hx
      have hxg := hgd x (List.mem_of_getElem? hx)
      have hxu := D.used_mem (List.mem_of_getElem? hx)
      have hdr : l.drop k = x :: l.drop (k + 1) := by
        rw [List.drop_eq_getElem_cons hm]
        rw [List.getElem?_eq_getElem hm] at hx
        injection hx with hx
        rw [hx]
      rw [hdr] at hgo
      change _ = acc ++ (D.crashF keeps k x :: D.crashL keeps (k + 1) (l.drop (k + 1))) at hgo
      obtain ⟨nm, b, s⟩ := x
      have cR' : wr.rangeAt g (o + k * 3) [.string ⟨nm.toArray⟩, .string ⟨b.toArray⟩, .int .i64 (s : Int)] := cR
      have hsz : (Try.prog.info? 81).map (·.size) = some [Value.string ⟨nm.toArray⟩, .string ⟨b.toArray⟩, .int .i64 (s : Int)].length := size_file
      have hw1 : IntKind.i64.wrap ((k : Int) + 1) = ((k + 1 : Nat) : Int) := by rw [IntWalk.i64_in _ (by omega)]; omega
      dsimp only at hxg hxu
      have hz : (⟨b.toArray⟩ : ByteArray).size = b.length := by simp [ByteArray.size]
      obtain ⟨q, hq⟩ : ∃ q, q = b.length - s := ⟨_, rfl⟩
      obtain ⟨N, hN⟩ : ∃ N, N = q + 1 := ⟨_, rfl⟩
      have hw2 : IntKind.i64.wrap ((b.length : Int) - (s : Int)) = (q : Int) := by rw [IntWalk.i64_in _ (by omega)]; omega
      have hw3 : IntKind.i64.wrap ((q : Int) + 1) = (N : Int) := by rw [IntWalk.i64_in _ (by omega)]; omega
      obtain ⟨K, hK⟩ : ∃ K, K = D.kOf keeps k (b.length - s + 1) := ⟨_, rfl⟩
      have hKl := D.kOf_lt keeps k (b.length - s + 1) (by omega)
      rw [← hK] at hKl
      obtain ⟨S, hS⟩ : ∃ S, S = s + K := ⟨_, rfl⟩
      have hw4 : IntKind.i64.wrap ((s : Int) + (K : Int)) = (S : Int) := by rw [IntWalk.i64_in _ (by omega)]; omega
      have hSb : S ≤ b.length := by omega
      have hSb' : (S : Int) ≤ (b.length : Int) := by omega
      have hSb0 : (0 : Int) ≤ (S : Int) := by omega
      have hext := barr_upto b S
      have hcf : D.crashF keeps k ⟨nm, b, s⟩ = ⟨nm, b.take S, S⟩ := by
        unfold D.crashF
        dsimp only
        rw [← hK, ← hS]
      rw [hcf] at hgo
      have Hgo := Lib.hid (show D.crashL keeps 0 l = (acc ++ [⟨nm, b.take S, S⟩]) ++ D.crashL keeps (k + 1) (l.drop (k + 1)) by rw [hgo, List.append_assoc]; rfl)
      have hKn : b.length - s + 1 = N := by omega
      rw [hKn] at hK hKl
      clear hdr hx cR hgo hcf hgd
      have hBa := hB.alloc hB.size (.cells #[Value.string ⟨nm.toArray⟩, .string ⟨(b.take S).toArray⟩, .int .i64 (S : Int)] 81)
      have hrowa := hrow9.alloc (.cells #[Value.string ⟨nm.toArray⟩, .string ⟨(b.take S).toArray⟩, .int .i64 (S : Int)] 81)
      by_cases hke : keeps.length = 0
      · have d3 : decide ((0 : Int) < (keeps.length : Int)) = false := decide_eq_false (by omega)
        have d4 : decide (0 < keeps.length) = false := decide_eq_false (by omega)
        obtain rfl : K = 0 := by rw [hK]; unfold D.kOf; rw [if_pos hke]
        have hSs : s = S := by omega
        subst hSs
        clear hK hKl hS hN hq hKn hw4 hcells hke
        generalize b.take s = bt at *
        go_wp2_with (first | (refine wpList_load_mid rfl 81 (.tmp 17) rfl g (o + k * 3) rfl _ _ cR' Try.underlying81 rfl hsz ?_; go_frame) | (at_builtin; go_loud (refine wpList_append_rowN rfl info_file (.tmp 54) (.tmp 56) 74 rfl Try.underlying74 rfl (hrowa.alloc _) ⟨wr.heap.size + 1, 0, none⟩ 1 1 [filC ⟨nm, bt, s⟩] rfl rfl (len_filC _) (new2 wr _ _ _ rfl _) (one_filC _) (by rw [List.length_map]; omega) ?_; intro v3 w3 hrow3 hg3 hr3; have hBb := hBa.alloc hBa.size (.cells #[Value.string ⟨nm.toArray⟩, .string ⟨bt.toArray⟩, .int .i64 (s : Int)] 81); have hB3 := below_grown_own hBb hBb.size hg3 hown; have hown3 := own_later hown hBb.size hr3)))
        go_roundw
        case rel => exact ⟨k + 1, acc ++ [⟨nm, bt, s⟩], by omega, by rw [List.length_append, List.length_singleton]; omega, by rfl, Hgo.out, frow_snoc hrow3, hown3, hB3⟩
        case measure => simp [intOf]; omega
      · obtain ⟨gk, ok, hAk, hgk, hcl⟩ : ∃ gk ok, Ak = some ⟨gk, ok, none⟩ ∧ gk < w.heap.size ∧ ∀ j u, (keeps.map fun a => Value.int .i64 a)[j]? = some u → w.cell? ⟨gk, ok + j, none⟩ = some u := by
          rcases hcells with h0 | h0
          · exact absurd (by have := congrArg List.length h0; simpa using this) hke
          · exact h0
        subst hAk
        have hL0 : 0 < keeps.length := by omega
        have hm : k % keeps.length < keeps.length := Nat.mod_lt _ hL0
        obtain ⟨m, hmm⟩ : ∃ m, m = k % keeps.length := ⟨_, rfl⟩
        rw [← hmm] at hm
        obtain ⟨a, ha⟩ : ∃ a, keeps[m]? = some a := ⟨_, List.getElem?_eq_getElem hm⟩
        have ca0 : w.cell? ⟨gk, ok + m, none⟩ = some (.int .i64 a) := hcl m _ (by rw [List.getElem?_map, ha]; rfl)
        have ca : wr.cell? ⟨gk, ok + m, none⟩ = some (.int .i64 a) := (hBw.cell (p := ⟨gk, ok + m, none⟩) hgk).trans ca0
        have hgk2 : gk < wr.heap.size := by omega
        have har := hwf a (List.mem_of_getElem? ha)
        have t1 : Int.tmod (k : Int) (keeps.length : Int) = (m : Int) := by rw [Int.tmod_eq_emod_of_nonneg (by omega), hmm]; rfl
        have hKa : (K : Int) = a % (N : Int) := by
          have h1 := Int.emod_nonneg a (by omega : (N : Int) ≠ 0)
          rw [hK]; unfold D.kOf; rw [if_neg hke, List.getD, ← hmm, ha]; simp only [Option.getD_some]; omega
        have hrk := D.rem_keep a N (by omega)
        rw [← hKa] at hrk
        obtain ⟨r, hr⟩ : ∃ r, r = a.tmod (N : Int) := ⟨_, rfl⟩
        rw [← hr] at hrk
        have hr' := hr.symm
        have d3 : decide ((0 : Int) < (keeps.length : Int)) = true := decide_eq_true (by omega)
        have d4 : decide (0 < keeps.length) = true := decide_eq_true (by omega)
        have t4 : (0 : Int) < (keeps.length : Int) := by omega
        have t5 : ((keeps.length : Int) == 0) = false := by rw [beq_eq_false_iff_ne]; omega
        have t8 : 0 < N := by omega
        have t9 : ¬ N = 0 := by omega
        have t10 : ¬ (N : Int) = 0 := by omega
        have t7 : ((N : Int) == 0) = false := by rw [beq_eq_false_iff_ne]; omega
        have t6 : (m : Int) < (keeps.length : Int) := by omega
        have t11 : (0 : Int) ≤ (m : Int) := by omega
        have X9 := Blk.new wr #[Value.string ⟨nm.toArray⟩, .string ⟨b.toArray⟩, .int .i64 (s : Int)] 81
        rcases hrk with ⟨hr0, hrK⟩ | ⟨hr0, hrK⟩
        · have e5 : decide (r < 0) = true := decide_eq_true hr0
          have t3 : IntKind.i64.wrap (r + (N : Int)) = (K : Int) := by rw [hrK]; exact IntWalk.i64_in _ (by omega)
          clear hmm ha har hcells hcl hK hr hKa hS hm hke hKl hN hq hKn hxu hr0 hrK
          generalize b.take S = bt at *
          go_wp2_with (first | (refine wpList_load_mid rfl 81 (.tmp 17) rfl g (o + k * 3) rfl _ _ cR' Try.underlying81 rfl hsz ?_; go_frame) | (at_builtin; go_loud (refine wpList_append_rowN rfl info_file (.tmp 54) (.tmp 56) 74 rfl Try.underlying74 rfl (hrowa.alloc _) ⟨wr.heap.size + 1, 0, none⟩ 1 1 [filC ⟨nm, bt, S⟩] rfl rfl (len_filC _) (new2 wr _ _ _ rfl _) (one_filC _) (by rw [List.length_map]; omega) ?_; intro v3 w3 hrow3 hg3 hr3; have hBb := hBa.alloc hBa.size (.cells #[Value.string ⟨nm.toArray⟩, .string ⟨bt.toArray⟩, .int .i64 (S : Int)] 81); have hB3 := below_grown_own hBb hBb.size hg3 hown; have hown3 := own_later hown hBb.size hr3)))
          go_roundw
          case rel => exact ⟨k + 1, acc ++ [⟨nm, bt, S⟩], by omega, by rw [List.length_append, List.length_singleton]; omega, by rfl, Hgo.out, frow_snoc hrow3, hown3, hB3⟩
          case measure => simp [intOf]; omega
        · have e5 : decide (r < 0) = false := decide_eq_false (by omega)
          have t3 : r = (K : Int) := hrK
          rw [t3] at hr' e5
          clear hmm ha har hcells hcl hK hr hKa hS hm hke hKl hN hq hKn hxu hr0 hrK t3
          generalize b.take S = bt at *
          go_wp2_with (first | (refine wpList_load_mid rfl 81 (.tmp 17) rfl g (o + k * 3) rfl _ _ cR' Try.underlying81 rfl hsz ?_; go_frame) | (at_builtin; go_loud (refine wpList_append_rowN rfl info_file (.tmp 54) (.tmp 56) 74 rfl Try.underlying74 rfl (hrowa.alloc _) ⟨wr.heap.size + 1, 0, none⟩ 1 1 [filC ⟨nm, bt, S⟩] rfl rfl (len_filC _) (new2 wr _ _ _ rfl _) (one_filC _) (by rw [List.length_map]; omega) ?_; intro v3 w3 hrow3 hg3 hr3; have hBb := hBa.alloc hBa.size (.cells #[Value.string ⟨nm.toArray⟩, .string ⟨bt.toArray⟩, .int .i64 (S : Int)] 81); have hB3 := below_grown_own hBb hBb.size hg3 hown; have hown3 := own_later hown hBb.size hr3)))
          go_roundw
          case rel => exact ⟨k + 1, acc ++ [⟨nm, bt, S⟩], by omega, by rw [List.length_append, List.length_singleton]; omega, by rfl, Hgo.out, frow_snoc hrow3, hown3, hB3⟩
          case measure => simp [intOf]; omega
    · have d1 : decide ((k : Int) < (l.length : Int)) = false := decide_eq_false (by omega)
      have d2 : decide (k < l.length) = false := decide_eq_false hm
      rw [List.drop_of_length_le (by omega)] at hgo
      have hgo' : D.crashL keeps 0 l = acc := by rw [hgo]; exact List.append_nil _
      have Hgo := Lib.hid hgo'
      clear hgo hgo'
      obtain ⟨c00, c01, c02, c03, f00, f01, f02, f03⟩ := free4 C0
      obtain ⟨c20, c21, c22, c23, f20, f21, f22, f23⟩ := free4 C2
      go_wp2
      obtain ⟨b2, o2⟩ := blk4 C2 (.int .i64 room) (.int .i64 (-1)) (.bool false) (.slice A9 m9 c9)
      refine bodyPost_ret (v := .agg #[.int .i64 room, .int .i64 (-1), .bool false, .slice A9 m9 c9]) (results_blk (by rfl) _ b2 _ (by rfl) Try.underlying76 (by rfl) (size_dskC _ _ _ _)) rfl ?_
      have hcr : D.crash ⟨room, fuse, dead, l⟩ keeps = ⟨room, -1, false, acc⟩ := by rw [← Hgo.out]; rfl
      rw [hcr]
      have hml : m9 = acc.length := by rw [Hm9.out, List.length_map]
      refine ⟨_, rfl, ⟨A9, c9, by rw [hml]; rfl, ?_⟩, o2.below hBw (by omega)⟩
      show FRow _ (.slice A9 acc.length c9) acc
      rw [← hml]
      exact RowN.only hrow9 C2 (by decide) o2
end Go.Proofs.Ytknkbioalohofaa
