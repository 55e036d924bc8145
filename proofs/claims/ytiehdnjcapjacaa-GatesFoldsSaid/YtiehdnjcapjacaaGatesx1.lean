/- The walks through the functions on times. -/
import Derived.Test.YtiehdnjcapjacaaGatesx0
import Derived.Test.YtiehdnjcapjacaaAWx1
import Derived.Test.YtiehdnjcapjacaaProg
import Derived.Test.YtiehdnjcapjacaaAWx2
namespace Go.Proofs.Ytiehdnjcapjacaa
open Go Go.AW Go.Proofs



set_option maxHeartbeats 1000000 in
theorem depths_spec {l : List Gate} {ins : List Int} (hl : l.length ≤ 1073741824) (hins : Small 65535 ins) : ACalls Try.prog 19 [.fz 3 (l.map Gate.row), .fz 1 (ins.map irow)] [] [] (fun r o => r = retX 1 ((depthR l ins).1.map irow) (depthR l ins).2 ∧ o = []) := by
  refine ACalls.of Try.func19 rfl rfl rfl (n := 71) (by decide) (Nat.le_of_ble_eq_true rfl) ?_
  refine AWp.seq ?_
  refine AWp.region ?_
  refine AOps.val (Y.assign rfl rfl) (by decide) ?_
  refine AOps.val (Y.assign rfl rfl) (by decide) ?_
  refine AOps.nil ?_
  refine AWp.seq ?_
  refine AWp.seq ?_
  refine AWp.region ?_
  first | refine AOps.val (Y.move rfl rfl) (by decide) ?_ | refine AOps.moveU rfl (by decide) ?_
  refine AOps.callP ok12 (check_spec (by omega)) rfl (.keep rfl rfl .nil) (by decide) rfl ?_
  refine AOps.val (Y.neq rfl rfl) (by decide) ?_
  refine AOps.nil ?_
  refine AWp.condD rfl (fun c11 => ?_) (fun c11 => ?_)
  · have hb : ¬ Good l := fun h => c11 (check_good h)
    refine AWp.seq ?_
    refine AWp.region ?_
    refine AOps.val (Y.assign rfl rfl) (by decide) ?_
    refine AOps.sh (Sh.nilU (d := 4) 1 rfl) ?_
    refine AOps.val (Y.assign rfl rfl) (by decide) ?_
    refine AOps.nil ?_
    refine AWp.ret ?_
    exact ⟨_, _, rfl, rfl, by rw [depthR_form ins hb]; rfl, rfl⟩
  · have hb : Good l := by
      refine Classical.byContradiction fun h => c11 ?_
      simp [check, h] at c11
    refine AWp.skip ?_
    refine AWp.seq ?_
    refine AWp.seq ?_
    refine AWp.region ?_
    first | refine AOps.val (Y.move rfl rfl) (by decide) ?_ | refine AOps.moveU rfl (by decide) ?_
    refine AOps.val (Y.len sl42 rfl (n := ins.length) (congrArg some (List.length_map ..))) (by decide) ?_
    first | refine AOps.val (Y.move rfl rfl) (by decide) ?_ | refine AOps.moveU rfl (by decide) ?_
    refine AOps.callP ok24 (inputs_spec (by omega)) rfl (.keep rfl rfl .nil) (by decide) rfl ?_
    refine AOps.val (Y.neq rfl rfl) (by decide) ?_
    refine AOps.nil ?_
    refine AWp.condD rfl (fun c16 => ?_) (fun c16 => ?_)
    · refine AWp.seq ?_
      refine AWp.region ?_
      refine AOps.val (Y.assign rfl rfl) (by decide) ?_
      refine AOps.sh (Sh.nilU (d := 4) 1 rfl) ?_
      refine AOps.val (Y.assign rfl rfl) (by decide) ?_
      refine AOps.nil ?_
      refine AWp.ret ?_
      exact ⟨_, _, rfl, rfl, by rw [depthR_arg hb (by omega)]; rfl, rfl⟩
    · have hin : ins.length = nin l := by omega
      refine AWp.skip ?_
      refine AWp.seq ?_
      refine AWp.region ?_
      first | refine AOps.val (Y.move rfl rfl) (by decide) ?_ | refine AOps.moveU rfl (by decide) ?_
      refine AOps.val (Y.len sl22 rfl (n := l.length) (congrArg some (List.length_map ..))) (by decide) ?_
      refine AOps.makeSlice sl42 ze3 rfl rfl rfl rfl (by omega) (by omega) (by decide) ?_
      first | refine AOps.val (Y.assign rfl rfl) (by decide) ?_ | refine AOps.assignU rfl (by decide) ?_
      refine AOps.nil ?_
      refine AWp.seq ?_
      refine AWp.seq ?_
      refine AWp.region ?_
      refine AOps.sh (Sh.adoptN (d := 6) (n := l.length) 106 rfl (by simp) (by decide)) ?_
      first | refine AOps.val (Y.move rfl rfl) (by decide) ?_ | refine AOps.moveU rfl (by decide) ?_
      refine AOps.val (Y.len sl22 rfl (n := l.length) (congrArg some (List.length_map ..))) (by decide) ?_
      refine AOps.val (Y.move rfl rfl) (by decide) ?_
      refine AOps.nil ?_
      refine AWp.block ?_
      refine AWp.loop (fun (ix : Nat) => ⟨[(22, .v (.int .i64 ((ix : Int)))), (20, .fz 3 (l.map Gate.row)), (21, .v (.int .i64 ((l.length : Int)))), (6, .slc 106 1 0 l.length), (1, .fz 1 ((ins.drop (nin (l.take ix))).map irow))], [(106, .rows 1 (ifill l.length (touts l ins ix)))]⟩) (fun ix => ix ≤ l.length) (fun ix => l.length - ix) (0) (by omega) (Le.mk (by repeat (first | exact SubL.nil | refine SubL.cons (by first | rfl | (rw [nin_zero]; rfl)) ?_)) (SubL.cons (by rw [touts, ifill_nil]; rfl) SubL.nil)) (fun ix hI => ?_)
      refine AWp.seq ?_
      refine AWp.region ?_
      refine AOps.val (Y.lss rfl rfl) (by decide) ?_
      refine AOps.nil ?_
      refine AWp.seq ?_
      refine AWp.condD rfl (fun c23 => ?_) (fun c23 => ?_)
      · obtain ⟨q, hg⟩ : ∃ q, l[ix]? = some q := ⟨_, List.getElem?_eq_getElem (by omega)⟩
        have hol : (touts l ins ix).length = ix := touts_length (by omega)
        have hok := hb ix q hg
        simp only [okGate, okArg, operands] at hok
        have hsm := touts_small (l := l) hins ix
        have hva := hsm.get (by omega) q.a.toNat
        have hvb := hsm.get (by omega) q.b.toNat
        refine AWp.skip ?_
        refine AWp.seq ?_
        refine AWp.block ?_
        refine AWp.seq ?_
        refine AWp.region ?_
        first | refine AOps.val (Y.move rfl rfl) (by decide) ?_ | refine AOps.moveU rfl (by decide) ?_
        refine AOps.val (Y.indexF sl22 rfl rfl rfl (getElem?_map' hg)) (by decide) ?_
        refine AOps.val (Y.loadA sh38 rfl rfl (Nat.le_of_ble_eq_true rfl) rfl rfl) (by decide) ?_
        refine AOps.alloc 108 ze38 rfl rfl (by decide) ?_
        first | refine AOps.val (Y.assign rfl rfl) (by decide) ?_ | refine AOps.assignU rfl (by decide) ?_
        first | refine AOps.storeC si38 rfl rfl rfl rfl rfl rfl (Nat.le_of_ble_eq_true rfl) rfl ?_ | refine AOps.storeR si38 rfl rfl rfl rfl rfl rfl rfl (by first | assumption | exact getElem?_map' (by assumption)) (Nat.le_of_ble_eq_true rfl) ?_
        refine AOps.nil ?_
        refine AWp.seq ?_
        refine AWp.region ?_
        refine AOps.val (Y.fieldAddr fl38_0 rfl rfl) (by decide) ?_
        refine AOps.val (Y.load sh3 rfl rfl rfl rfl) (by decide) ?_
        refine AOps.callP ok23 (operands_spec _) rfl (.keep rfl rfl .nil) (by decide) rfl ?_
        refine AOps.nil ?_
        refine AWp.block ?_
        refine AWp.seq ?_
        refine AWp.region ?_
        refine AOps.val (Y.eql rfl rfl) (by decide) ?_
        first | refine AOps.val (Y.assign rfl rfl) (by decide) ?_ | refine AOps.assignU rfl (by decide) ?_
        refine AOps.nil ?_
        refine AWp.condD rfl (fun c41 => ?_) (fun c41 => ?_)
        · have k4 : q.kind = 4 := by simp only [operands] at c41; omega
          refine AWp.region ?_
          first | refine AOps.val (Y.move rfl rfl) (by decide) ?_ | refine AOps.moveU rfl (by decide) ?_
          first | refine AOps.val (Y.move rfl rfl) (by decide) ?_ | refine AOps.moveU rfl (by decide) ?_
          first | refine AOps.val (Y.move rfl rfl) (by decide) ?_ | refine AOps.moveU rfl (by decide) ?_
          refine AOps.val (Y.fieldAddr fl38_1 rfl rfl) (by decide) ?_
          refine AOps.val (Y.load sh3 rfl rfl rfl rfl) (by decide) ?_
          refine AOps.val (Y.indexO (m := q.a.toNat) sl42 rfl rfl (by omega) (by omega)) (by decide) ?_
          refine AOps.val (Y.load sh3 rfl (ifill_get (n := l.length) (out := touts l ins ix) (i := q.a.toNat) (by omega)) rfl rfl) (by decide) ?_
          first | refine AOps.val (Y.addI rfl rfl (by omega)) (by decide) ?_ | refine AOps.val (Y.add rfl rfl rfl) (by decide) ?_
          refine AOps.val (Y.indexO (m := ix) sl42 rfl rfl (by omega) (by omega)) (by decide) ?_
          refine AOps.storeE (ifill l.length (touts l ins (ix + 1))) si3 rfl rfl rfl rfl rfl rfl rfl (ifill_row hol (by omega)) (Nat.le_of_ble_eq_true rfl) (by rw [touts_succ hg]; exact (ifill_set (n := l.length) (out := touts l ins ix) (i := ix) _ hol (by omega)).trans (congrArg (fun b => ifill l.length (touts l ins ix ++ [b])) (by rw [tOf_not k4]))) ?_
          refine AOps.nil ?_
          refine AWp.region ?_
          first | refine AOps.val (Y.addI rfl rfl (by omega)) (by decide) ?_ | refine AOps.val (Y.add rfl rfl rfl) (by decide) ?_
          first | refine AOps.val (Y.move rfl rfl) (by decide) ?_ | refine AOps.moveU rfl (by decide) ?_
          refine AOps.nil ?_
          exact ⟨ix + 1, by omega, by omega, Le.mk (by repeat (first | exact SubL.nil | refine SubL.cons (by first | rfl | (rw [nin_succ hg, if_neg (by omega)]; rfl) | (rw [nin_succ hg, if_pos (by omega)]; rfl)) ?_)) (SubL.cons (by first | rfl | (rw [touts_succ hg, tOf_none (by omega) (by omega) (by omega), ← ifill_same (by omega)]; rfl)) SubL.nil)⟩
        · have k4 : ¬ q.kind = 4 := by simp only [operands] at c41; omega
          refine AWp.seq ?_
          refine AWp.region ?_
          refine AOps.val (Y.eql rfl rfl) (by decide) ?_
          first | refine AOps.val (Y.assign rfl rfl) (by decide) ?_ | refine AOps.assignU rfl (by decide) ?_
          refine AOps.nil ?_
          refine AWp.condD rfl (fun c52 => ?_) (fun c52 => ?_)
          · have k5 : q.kind = 5 ∨ q.kind = 6 ∨ q.kind = 7 := by simp only [operands] at c52; omega
            have hmx : 0 ≤ mx ((touts l ins ix).getD q.a.toNat 0) ((touts l ins ix).getD q.b.toNat 0) ∧ mx ((touts l ins ix).getD q.a.toNat 0) ((touts l ins ix).getD q.b.toNat 0) ≤ 65535 + 20 * (ix : Int) := by simp only [mx]; omega
            refine AWp.regionT 15 rfl (by kernel_rfl) ?_
            first | refine AHead.val (Y.move rfl rfl) (by decide) ?_ | refine AHead.moveU rfl (by decide) ?_
            first | refine AHead.val (Y.move rfl rfl) (by decide) ?_ | refine AHead.moveU rfl (by decide) ?_
            first | refine AHead.val (Y.move rfl rfl) (by decide) ?_ | refine AHead.moveU rfl (by decide) ?_
            refine AHead.val (Y.fieldAddr fl38_1 rfl rfl) (by decide) ?_
            refine AHead.val (Y.load sh3 rfl rfl rfl rfl) (by decide) ?_
            refine AHead.val (Y.indexO (m := q.a.toNat) sl42 rfl rfl (by omega) (by omega)) (by decide) ?_
            refine AHead.val (Y.load sh3 rfl (ifill_get (n := l.length) (out := touts l ins ix) (i := q.a.toNat) (by omega)) rfl rfl) (by decide) ?_
            first | refine AHead.val (Y.move rfl rfl) (by decide) ?_ | refine AHead.moveU rfl (by decide) ?_
            refine AHead.val (Y.fieldAddr fl38_2 rfl rfl) (by decide) ?_
            refine AHead.val (Y.load sh3 rfl rfl rfl rfl) (by decide) ?_
            refine AHead.val (Y.indexO (m := q.b.toNat) sl42 rfl rfl (by omega) (by omega)) (by decide) ?_
            refine AHead.val (Y.load sh3 rfl (ifill_get (n := l.length) (out := touts l ins ix) (i := q.b.toNat) (by omega)) rfl rfl) (by decide) ?_
            refine AHead.val (Y.max (r := mx ((touts l ins ix).getD q.a.toNat 0) ((touts l ins ix).getD q.b.toNat 0)) rfl rfl rfl) (by decide) ?_
            first | refine AHead.val (Y.addI rfl rfl (by omega)) (by decide) ?_ | refine AHead.val (Y.add rfl rfl rfl) (by decide) ?_
            refine AHead.val (Y.indexO (m := ix) sl42 rfl rfl (by omega) (by omega)) (by decide) ?_
            refine AHead.nil ?_
            refine AOps.storeE (ifill l.length (touts l ins (ix + 1))) si3 rfl rfl rfl rfl rfl rfl rfl (ifill_row hol (by omega)) (Nat.le_of_ble_eq_true rfl) (by rw [touts_succ hg]; exact (ifill_set (n := l.length) (out := touts l ins ix) (i := ix) _ hol (by omega)).trans (congrArg (fun b => ifill l.length (touts l ins ix ++ [b])) (by rw [tOf_two k5]))) ?_
            refine AOps.nil ?_
            refine AWp.region ?_
            first | refine AOps.val (Y.addI rfl rfl (by omega)) (by decide) ?_ | refine AOps.val (Y.add rfl rfl rfl) (by decide) ?_
            first | refine AOps.val (Y.move rfl rfl) (by decide) ?_ | refine AOps.moveU rfl (by decide) ?_
            refine AOps.nil ?_
            exact ⟨ix + 1, by omega, by omega, Le.mk (by repeat (first | exact SubL.nil | refine SubL.cons (by first | rfl | (rw [nin_succ hg, if_neg (by omega)]; rfl) | (rw [nin_succ hg, if_pos (by omega)]; rfl)) ?_)) (SubL.cons (by first | rfl | (rw [touts_succ hg, tOf_none (by omega) (by omega) (by omega), ← ifill_same (by omega)]; rfl)) SubL.nil)⟩
          · have k5 : ¬ (q.kind = 5 ∨ q.kind = 6 ∨ q.kind = 7) := by simp only [operands] at c52; omega
            refine AWp.seq ?_
            refine AWp.region ?_
            refine AOps.val (Y.fieldAddr fl38_0 rfl rfl) (by decide) ?_
            refine AOps.val (Y.load sh3 rfl rfl rfl rfl) (by decide) ?_
            refine AOps.val (Y.eql rfl rfl) (by decide) ?_
            refine AOps.nil ?_
            refine AWp.condD rfl (fun c32 => ?_) (fun c32 => ?_)
            · have hlt := nin_lt hg c32
              refine AWp.regionAny rfl ?_
              refine AAny.blind 0 rfl (by kernel_rfl) (Blind.move rfl rfl) (by decide) ?_
              refine AAny.blind 1 rfl (by kernel_rfl) (Blind.move rfl rfl) (by decide) ?_
              refine AAny.blind 2 rfl (by kernel_rfl) (Blind.move rfl rfl) (by decide) ?_
              refine AAny.blind 5 rfl (by kernel_rfl) (Blind.move rfl rfl) (by decide) ?_
              refine AAny.blind 6 rfl (by kernel_rfl) (Blind.sliceF sl42 rfl (.some rfl) (.none _) (by simp; omega) (Nat.le_refl _) (tail_drop irow _ _)) (by decide) ?_
              refine AAny.one 3 rfl (by kernel_rfl) ?_
              refine AOps.val (Y.indexF sl42 rfl rfl (m := 0) rfl (head_drop (f := irow) 0 (by omega))) (by decide) ?_
              refine AOps.nil ⟨rfl, ?_⟩
              refine AAny.one 4 rfl (by kernel_rfl) ?_
              refine AOps.val (Y.load sh3 rfl rfl rfl rfl) (by decide) ?_
              refine AOps.nil ⟨rfl, ?_⟩
              refine AAny.one 7 rfl (by kernel_rfl) ?_
              refine AOps.val (Y.indexO (m := ix) sl42 rfl rfl (by omega) (by omega)) (by decide) ?_
              refine AOps.nil ⟨rfl, ?_⟩
              refine AAny.one 8 rfl (by kernel_rfl) ?_
              refine AOps.storeE (ifill l.length (touts l ins (ix + 1))) si3 rfl rfl rfl rfl rfl rfl rfl (ifill_row hol (by omega)) (Nat.le_of_ble_eq_true rfl) (by rw [touts_succ hg]; exact (ifill_set (n := l.length) (out := touts l ins ix) (i := ix) _ hol (by omega)).trans (congrArg (fun b => ifill l.length (touts l ins ix ++ [b])) (by rw [tOf_in c32]))) ?_
              refine AOps.nil ⟨rfl, ?_⟩
              refine AAny.one 9 rfl (by kernel_rfl) ?_
              first | refine AOps.val (Y.assign rfl rfl) (by decide) ?_ | refine AOps.assignU rfl (by decide) ?_
              refine AOps.nil ⟨rfl, ?_⟩
              refine AAny.done (by kernel_rfl) ?_
              refine AWp.region ?_
              first | refine AOps.val (Y.addI rfl rfl (by omega)) (by decide) ?_ | refine AOps.val (Y.add rfl rfl rfl) (by decide) ?_
              first | refine AOps.val (Y.move rfl rfl) (by decide) ?_ | refine AOps.moveU rfl (by decide) ?_
              refine AOps.nil ?_
              exact ⟨ix + 1, by omega, by omega, Le.mk (by repeat (first | exact SubL.nil | refine SubL.cons (by first | rfl | (rw [nin_succ hg, if_neg (by omega)]; rfl) | (rw [nin_succ hg, if_pos (by omega)]; rfl)) ?_)) (SubL.cons (by first | rfl | (rw [touts_succ hg, tOf_none (by omega) (by omega) (by omega), ← ifill_same (by omega)]; rfl)) SubL.nil)⟩
            · refine AWp.skip ?_
              refine AWp.region ?_
              first | refine AOps.val (Y.addI rfl rfl (by omega)) (by decide) ?_ | refine AOps.val (Y.add rfl rfl rfl) (by decide) ?_
              first | refine AOps.val (Y.move rfl rfl) (by decide) ?_ | refine AOps.moveU rfl (by decide) ?_
              refine AOps.nil ?_
              exact ⟨ix + 1, by omega, by omega, Le.mk (by repeat (first | exact SubL.nil | refine SubL.cons (by first | rfl | (rw [nin_succ hg, if_neg (by omega)]; rfl) | (rw [nin_succ hg, if_pos (by omega)]; rfl)) ?_)) (SubL.cons (by first | rfl | (rw [touts_succ hg, tOf_none (by omega) (by omega) (by omega), ← ifill_same (by omega)]; rfl)) SubL.nil)⟩
      · refine AWp.exit ?_
        refine AWp.seq ?_
        refine AWp.region ?_
        first | refine AOps.val (Y.move rfl rfl) (by decide) ?_ | refine AOps.moveU rfl (by decide) ?_
        first | refine AOps.val (Y.assign rfl rfl) (by decide) ?_ | refine AOps.assignU rfl (by decide) ?_
        refine AOps.sh (Sh.detach (d := 4) (o := 106) rfl rfl (by rw [ifill_length (by rw [touts_length hI]; omega)]) (by decide)) ?_
        refine AOps.val (Y.assign rfl rfl) (by decide) ?_
        refine AOps.nil ?_
        refine AWp.ret ?_
        exact ⟨_, _, rfl, rfl, by rw [depthR_ok hb hin, show l.length = ix by omega, ifill_full (touts_length (by omega))]; rfl, rfl⟩

set_option maxHeartbeats 1000000 in
theorem depths_form {l : List Gate} (hl : l.length ≤ 1073741824) (hb : ¬ Good l) : ACalls Try.prog 19 [.fz 3 (l.map Gate.row), .no] [] [] (fun r o => r = retX 1 [] 3 ∧ o = []) := by
  refine ACalls.of Try.func19 rfl rfl rfl (n := 71) (by decide) (Nat.le_of_ble_eq_true rfl) ?_
  refine AWp.seq ?_
  refine AWp.region ?_
  refine AOps.val (Y.assign rfl rfl) (by decide) ?_
  refine AOps.val (Y.assign rfl rfl) (by decide) ?_
  refine AOps.nil ?_
  refine AWp.seq ?_
  refine AWp.seq ?_
  refine AWp.region ?_
  first | refine AOps.val (Y.move rfl rfl) (by decide) ?_ | refine AOps.moveU rfl (by decide) ?_
  refine AOps.callP ok12 (check_spec (by omega)) rfl (.keep rfl rfl .nil) (by decide) rfl ?_
  refine AOps.val (Y.neq rfl rfl) (by decide) ?_
  refine AOps.nil ?_
  refine AWp.condD rfl (fun c11 => ?_) (fun c11 => ?_)
  · refine AWp.seq ?_
    refine AWp.region ?_
    refine AOps.val (Y.assign rfl rfl) (by decide) ?_
    refine AOps.sh (Sh.nilU (d := 4) 1 rfl) ?_
    refine AOps.val (Y.assign rfl rfl) (by decide) ?_
    refine AOps.nil ?_
    refine AWp.ret ?_
    exact ⟨_, _, rfl, rfl, rfl, rfl⟩
  · exact absurd (by rw [show check l = 3 from if_neg hb]; decide) c11

set_option maxHeartbeats 1000000 in
theorem refDepths_spec {l : List Gate} {ins : List Int} (hl : l.length ≤ 1073741824) (hb : Good l) (hin : ins.length = nin l) (hins : Small 65535 ins) : ACalls Try.prog 20 [.fz 3 (l.map Gate.row), .fz 1 (ins.map irow)] [] [] (fun r o => r = .uni 1 ((touts l ins l.length).map irow) ∧ o = []) := by
  refine ACalls.of Try.func20 rfl rfl rfl (n := 59) (by decide) (Nat.le_of_ble_eq_true rfl) ?_
  refine AWp.seq ?_
  refine AWp.region ?_
  refine AOps.val (Y.assign rfl rfl) (by decide) ?_
  refine AOps.nil ?_
  refine AWp.seq ?_
  refine AWp.region ?_
  refine AOps.val (Y.assign rfl rfl) (by decide) ?_
  refine AOps.nil ?_
  refine AWp.seq ?_
  refine AWp.region ?_
  refine AOps.val (Y.assign rfl rfl) (by decide) ?_
  refine AOps.nil ?_
  refine AWp.seq ?_
  refine AWp.seq ?_
  refine AWp.sh (Sh.nil (d := 5) 105 1 rfl (by decide)) ?_
  refine AWp.region ?_
  refine AOps.val (Y.assign rfl rfl) (by decide) ?_
  refine AOps.nil ?_
  refine AWp.block ?_
  refine AWp.loop (fun (ix : Nat) => ⟨[(6, .v (.int .i64 ((nin (l.take ix) : Nat)))), (7, .v (.int .i64 ((ix : Int)))), (5, .slc 105 1 0 ix), (0, .fz 3 (l.map Gate.row)), (1, .fz 1 (ins.map irow))], [(105, .rows 1 ((touts l ins ix).map irow))]⟩) (fun ix => ix ≤ l.length) (fun ix => l.length - ix) (0) (by omega) (Le.mk (by repeat (first | exact SubL.nil | refine SubL.cons (by first | rfl | (rw [nin_zero]; rfl)) ?_)) (SubL.cons rfl SubL.nil)) (fun ix hI => ?_)
  refine AWp.seq ?_
  refine AWp.seq ?_
  refine AWp.region ?_
  first | refine AOps.val (Y.move rfl rfl) (by decide) ?_ | refine AOps.moveU rfl (by decide) ?_
  first | refine AOps.val (Y.move rfl rfl) (by decide) ?_ | refine AOps.moveU rfl (by decide) ?_
  refine AOps.val (Y.len sl22 rfl (n := l.length) (congrArg some (List.length_map ..))) (by decide) ?_
  refine AOps.val (Y.lss rfl rfl) (by decide) ?_
  refine AOps.nil ?_
  refine AWp.condD rfl (fun c13 => ?_) (fun c13 => ?_)
  · obtain ⟨q, hg⟩ : ∃ q, l[ix]? = some q := ⟨_, List.getElem?_eq_getElem (by omega)⟩
    have hol : (touts l ins ix).length = ix := touts_length (by omega)
    have hok := hb ix q hg
    simp only [okGate, okArg, operands] at hok
    have hnl := nin_take_le l ix
    have hnl2 := nin_le l
    have hsm := touts_small (l := l) hins ix
    have hva := hsm.get (by omega) q.a.toNat
    have hvb := hsm.get (by omega) q.b.toNat
    have hmx : 0 ≤ mx ((touts l ins ix).getD q.a.toNat 0) ((touts l ins ix).getD q.b.toNat 0) ∧ mx ((touts l ins ix).getD q.a.toNat 0) ((touts l ins ix).getD q.b.toNat 0) ≤ 65535 + 20 * (ix : Int) := by simp only [mx]; omega
    refine AWp.skip ?_
    refine AWp.seq ?_
    refine AWp.block ?_
    refine AWp.seq ?_
    refine AWp.region ?_
    first | refine AOps.val (Y.move rfl rfl) (by decide) ?_ | refine AOps.moveU rfl (by decide) ?_
    first | refine AOps.val (Y.move rfl rfl) (by decide) ?_ | refine AOps.moveU rfl (by decide) ?_
    refine AOps.val (Y.indexF sl22 rfl rfl rfl (getElem?_map' hg)) (by decide) ?_
    refine AOps.val (Y.loadA sh38 rfl rfl (Nat.le_of_ble_eq_true rfl) rfl rfl) (by decide) ?_
    refine AOps.alloc 108 ze38 rfl rfl (by decide) ?_
    first | refine AOps.storeC si38 rfl rfl rfl rfl rfl rfl (Nat.le_of_ble_eq_true rfl) rfl ?_ | refine AOps.storeR si38 rfl rfl rfl rfl rfl rfl rfl (by first | assumption | exact getElem?_map' (by assumption)) (Nat.le_of_ble_eq_true rfl) ?_
    refine AOps.nil ?_
    refine AWp.seq ?_
    refine AWp.region ?_
    refine AOps.val (Y.assign rfl rfl) (by decide) ?_
    refine AOps.nil ?_
    refine AWp.join (fun (u : Int × Int) => ⟨[(9, .v (.int .i64 u.1)), (6, .v (.int .i64 u.2)), (7, .v (.int .i64 ((ix : Int)))), (5, .slc 105 1 0 ix), (0, .fz 3 (l.map Gate.row)), (1, .fz 1 (ins.map irow))], [(105, .rows 1 ((touts l ins ix).map irow))]⟩) (fun u => u.1 = tOf (touts l ins ix) ins (nin (l.take ix)) q ∧ u.2 = (nin (l.take (ix + 1)) : Nat)) ?_ (fun u hJ => ?_)
    · refine AWp.seq ?_
      refine AWp.region ?_
      refine AOps.val (Y.fieldAddr fl38_0 rfl rfl) (by decide) ?_
      refine AOps.val (Y.load sh3 rfl rfl rfl rfl) (by decide) ?_
      refine AOps.nil ?_
      refine AWp.block ?_
      refine AWp.seq ?_
      refine AWp.region ?_
      refine AOps.val (Y.eql rfl rfl) (by decide) ?_
      first | refine AOps.val (Y.assign rfl rfl) (by decide) ?_ | refine AOps.assignU rfl (by decide) ?_
      refine AOps.nil ?_
      refine AWp.condD rfl (fun c22 => ?_) (fun c22 => ?_)
      · have hlt := nin_lt hg c22
        refine AWp.seq ?_
        refine AWp.region ?_
        first | refine AOps.val (Y.move rfl rfl) (by decide) ?_ | refine AOps.moveU rfl (by decide) ?_
        first | refine AOps.val (Y.move rfl rfl) (by decide) ?_ | refine AOps.moveU rfl (by decide) ?_
        refine AOps.val (Y.indexF sl42 rfl rfl rfl (map_row (f := irow) 0 (by omega))) (by decide) ?_
        refine AOps.val (Y.load sh3 rfl rfl rfl rfl) (by decide) ?_
        first | refine AOps.val (Y.assign rfl rfl) (by decide) ?_ | refine AOps.assignU rfl (by decide) ?_
        refine AOps.nil ?_
        refine AWp.region ?_
        first | refine AOps.val (Y.move rfl rfl) (by decide) ?_ | refine AOps.moveU rfl (by decide) ?_
        first | refine AOps.val (Y.addI rfl rfl (by omega)) (by decide) ?_ | refine AOps.val (Y.add rfl rfl rfl) (by decide) ?_
        first | refine AOps.val (Y.assign rfl rfl) (by decide) ?_ | refine AOps.assignU rfl (by decide) ?_
        refine AOps.nil ?_
        refine ⟨(_, _), ?_, Le.mk (SubL.cons rfl (SubL.cons rfl (SubL.cons rfl (SubL.cons rfl (SubL.cons rfl (SubL.cons rfl (SubL.nil))))))) (SubL.cons rfl (SubL.nil))⟩
        refine ⟨by first | (rw [tOf_in (by omega)]; done) | (rw [tOf_in (by omega)]; rfl) | (rw [tOf_not (by omega)]; done) | (rw [tOf_two (by omega)]; done) | (rw [tOf_none (by omega) (by omega) (by omega)]; done), by rw [nin_succ hg]; first | (rw [if_pos (by omega)]; rfl) | (rw [if_neg (by omega)]; rfl)⟩
      · refine AWp.seq ?_
        refine AWp.region ?_
        refine AOps.val (Y.eql rfl rfl) (by decide) ?_
        first | refine AOps.val (Y.assign rfl rfl) (by decide) ?_ | refine AOps.assignU rfl (by decide) ?_
        refine AOps.nil ?_
        refine AWp.condD rfl (fun c30 => ?_) (fun c30 => ?_)
        · refine AWp.region ?_
          first | refine AOps.val (Y.move rfl rfl) (by decide) ?_ | refine AOps.moveU rfl (by decide) ?_
          refine AOps.val (Y.fieldAddr fl38_1 rfl rfl) (by decide) ?_
          refine AOps.val (Y.load sh3 rfl rfl rfl rfl) (by decide) ?_
          refine AOps.val (Y.indexO (m := q.a.toNat) sl42 rfl rfl (by omega) (by omega)) (by decide) ?_
          refine AOps.val (Y.load sh3 rfl (irow0 (out := touts l ins ix) (k := q.a.toNat) (by rw [hol]; omega)) rfl rfl) (by decide) ?_
          first | refine AOps.val (Y.addI rfl rfl (by omega)) (by decide) ?_ | refine AOps.val (Y.add rfl rfl rfl) (by decide) ?_
          first | refine AOps.val (Y.assign rfl rfl) (by decide) ?_ | refine AOps.assignU rfl (by decide) ?_
          refine AOps.nil ?_
          refine ⟨(_, _), ?_, Le.mk (SubL.cons rfl (SubL.cons rfl (SubL.cons rfl (SubL.cons rfl (SubL.cons rfl (SubL.cons rfl (SubL.nil))))))) (SubL.cons rfl (SubL.nil))⟩
          refine ⟨by first | (rw [tOf_in (by omega)]; done) | (rw [tOf_in (by omega)]; rfl) | (rw [tOf_not (by omega)]; done) | (rw [tOf_two (by omega)]; done) | (rw [tOf_none (by omega) (by omega) (by omega)]; done), by rw [nin_succ hg]; first | (rw [if_pos (by omega)]; rfl) | (rw [if_neg (by omega)]; rfl)⟩
        · refine AWp.seq ?_
          refine AWp.seq ?_
          refine AWp.region ?_
          refine AOps.val (Y.eql rfl rfl) (by decide) ?_
          first | refine AOps.val (Y.assign rfl rfl) (by decide) ?_ | refine AOps.assignU rfl (by decide) ?_
          refine AOps.nil ?_
          refine AWp.condKD rfl (fun c38 => ?_) (fun c38 => ?_)
          · refine AWp.skip ?_
            refine AWp.condT rfl ?_
            refine AWp.regionS rfl (by kernel_rfl) ?_
            first | refine AHead.val (Y.move rfl rfl) (by decide) ?_ | refine AHead.moveU rfl (by decide) ?_
            refine AHead.val (Y.fieldAddr fl38_1 rfl rfl) (by decide) ?_
            refine AHead.val (Y.load sh3 rfl rfl rfl rfl) (by decide) ?_
            refine AHead.val (Y.indexO (m := q.a.toNat) sl42 rfl rfl (by omega) (by omega)) (by decide) ?_
            refine AHead.val (Y.load sh3 rfl (irow0 (out := touts l ins ix) (k := q.a.toNat) (by rw [hol]; omega)) rfl rfl) (by decide) ?_
            first | refine AHead.val (Y.move rfl rfl) (by decide) ?_ | refine AHead.moveU rfl (by decide) ?_
            refine AHead.val (Y.fieldAddr fl38_2 rfl rfl) (by decide) ?_
            refine AHead.val (Y.load sh3 rfl rfl rfl rfl) (by decide) ?_
            refine AHead.val (Y.indexO (m := q.b.toNat) sl42 rfl rfl (by omega) (by omega)) (by decide) ?_
            refine AHead.val (Y.load sh3 rfl (irow0 (out := touts l ins ix) (k := q.b.toNat) (by rw [hol]; omega)) rfl rfl) (by decide) ?_
            refine AHead.val (Y.max (r := mx ((touts l ins ix).getD q.a.toNat 0) ((touts l ins ix).getD q.b.toNat 0)) rfl rfl rfl) (by decide) ?_
            first | refine AHead.val (Y.addI rfl rfl (by omega)) (by decide) ?_ | refine AHead.val (Y.add rfl rfl rfl) (by decide) ?_
            first | refine AHead.val (Y.assign rfl rfl) (by decide) ?_ | refine AHead.assignU rfl (by decide) ?_
            refine AHead.nil ?_
            refine ⟨(_, _), ?_, Le.mk (SubL.cons rfl (SubL.cons rfl (SubL.cons rfl (SubL.cons rfl (SubL.cons rfl (SubL.cons rfl (SubL.nil))))))) (SubL.cons rfl (SubL.nil))⟩
            refine ⟨by first | (rw [tOf_in (by omega)]; done) | (rw [tOf_in (by omega)]; rfl) | (rw [tOf_not (by omega)]; done) | (rw [tOf_two (by omega)]; done) | (rw [tOf_none (by omega) (by omega) (by omega)]; done), by rw [nin_succ hg]; first | (rw [if_pos (by omega)]; rfl) | (rw [if_neg (by omega)]; rfl)⟩
          · refine AWp.seq ?_
            refine AWp.region ?_
            refine AOps.val (Y.eql rfl rfl) (by decide) ?_
            first | refine AOps.val (Y.assign rfl rfl) (by decide) ?_ | refine AOps.assignU rfl (by decide) ?_
            refine AOps.nil ?_
            refine AWp.condKD rfl (fun c38 => ?_) (fun c38 => ?_)
            · refine AWp.skip ?_
              refine AWp.condT rfl ?_
              refine AWp.regionS rfl (by kernel_rfl) ?_
              first | refine AHead.val (Y.move rfl rfl) (by decide) ?_ | refine AHead.moveU rfl (by decide) ?_
              refine AHead.val (Y.fieldAddr fl38_1 rfl rfl) (by decide) ?_
              refine AHead.val (Y.load sh3 rfl rfl rfl rfl) (by decide) ?_
              refine AHead.val (Y.indexO (m := q.a.toNat) sl42 rfl rfl (by omega) (by omega)) (by decide) ?_
              refine AHead.val (Y.load sh3 rfl (irow0 (out := touts l ins ix) (k := q.a.toNat) (by rw [hol]; omega)) rfl rfl) (by decide) ?_
              first | refine AHead.val (Y.move rfl rfl) (by decide) ?_ | refine AHead.moveU rfl (by decide) ?_
              refine AHead.val (Y.fieldAddr fl38_2 rfl rfl) (by decide) ?_
              refine AHead.val (Y.load sh3 rfl rfl rfl rfl) (by decide) ?_
              refine AHead.val (Y.indexO (m := q.b.toNat) sl42 rfl rfl (by omega) (by omega)) (by decide) ?_
              refine AHead.val (Y.load sh3 rfl (irow0 (out := touts l ins ix) (k := q.b.toNat) (by rw [hol]; omega)) rfl rfl) (by decide) ?_
              refine AHead.val (Y.max (r := mx ((touts l ins ix).getD q.a.toNat 0) ((touts l ins ix).getD q.b.toNat 0)) rfl rfl rfl) (by decide) ?_
              first | refine AHead.val (Y.addI rfl rfl (by omega)) (by decide) ?_ | refine AHead.val (Y.add rfl rfl rfl) (by decide) ?_
              first | refine AHead.val (Y.assign rfl rfl) (by decide) ?_ | refine AHead.assignU rfl (by decide) ?_
              refine AHead.nil ?_
              refine ⟨(_, _), ?_, Le.mk (SubL.cons rfl (SubL.cons rfl (SubL.cons rfl (SubL.cons rfl (SubL.cons rfl (SubL.cons rfl (SubL.nil))))))) (SubL.cons rfl (SubL.nil))⟩
              refine ⟨by first | (rw [tOf_in (by omega)]; done) | (rw [tOf_in (by omega)]; rfl) | (rw [tOf_not (by omega)]; done) | (rw [tOf_two (by omega)]; done) | (rw [tOf_none (by omega) (by omega) (by omega)]; done), by rw [nin_succ hg]; first | (rw [if_pos (by omega)]; rfl) | (rw [if_neg (by omega)]; rfl)⟩
            · refine AWp.region ?_
              refine AOps.val (Y.eql rfl rfl) (by decide) ?_
              first | refine AOps.val (Y.assign rfl rfl) (by decide) ?_ | refine AOps.assignU rfl (by decide) ?_
              refine AOps.nil ?_
              refine AWp.condKD rfl (fun c38 => ?_) (fun c38 => ?_)
              · refine AWp.regionS rfl (by kernel_rfl) ?_
                first | refine AHead.val (Y.move rfl rfl) (by decide) ?_ | refine AHead.moveU rfl (by decide) ?_
                refine AHead.val (Y.fieldAddr fl38_1 rfl rfl) (by decide) ?_
                refine AHead.val (Y.load sh3 rfl rfl rfl rfl) (by decide) ?_
                refine AHead.val (Y.indexO (m := q.a.toNat) sl42 rfl rfl (by omega) (by omega)) (by decide) ?_
                refine AHead.val (Y.load sh3 rfl (irow0 (out := touts l ins ix) (k := q.a.toNat) (by rw [hol]; omega)) rfl rfl) (by decide) ?_
                first | refine AHead.val (Y.move rfl rfl) (by decide) ?_ | refine AHead.moveU rfl (by decide) ?_
                refine AHead.val (Y.fieldAddr fl38_2 rfl rfl) (by decide) ?_
                refine AHead.val (Y.load sh3 rfl rfl rfl rfl) (by decide) ?_
                refine AHead.val (Y.indexO (m := q.b.toNat) sl42 rfl rfl (by omega) (by omega)) (by decide) ?_
                refine AHead.val (Y.load sh3 rfl (irow0 (out := touts l ins ix) (k := q.b.toNat) (by rw [hol]; omega)) rfl rfl) (by decide) ?_
                refine AHead.val (Y.max (r := mx ((touts l ins ix).getD q.a.toNat 0) ((touts l ins ix).getD q.b.toNat 0)) rfl rfl rfl) (by decide) ?_
                first | refine AHead.val (Y.addI rfl rfl (by omega)) (by decide) ?_ | refine AHead.val (Y.add rfl rfl rfl) (by decide) ?_
                first | refine AHead.val (Y.assign rfl rfl) (by decide) ?_ | refine AHead.assignU rfl (by decide) ?_
                refine AHead.nil ?_
                refine ⟨(_, _), ?_, Le.mk (SubL.cons rfl (SubL.cons rfl (SubL.cons rfl (SubL.cons rfl (SubL.cons rfl (SubL.cons rfl (SubL.nil))))))) (SubL.cons rfl (SubL.nil))⟩
                refine ⟨by first | (rw [tOf_in (by omega)]; done) | (rw [tOf_in (by omega)]; rfl) | (rw [tOf_not (by omega)]; done) | (rw [tOf_two (by omega)]; done) | (rw [tOf_none (by omega) (by omega) (by omega)]; done), by rw [nin_succ hg]; first | (rw [if_pos (by omega)]; rfl) | (rw [if_neg (by omega)]; rfl)⟩
              · refine AWp.skip ?_
                refine ⟨(_, _), ?_, Le.mk (SubL.cons rfl (SubL.cons rfl (SubL.cons rfl (SubL.cons rfl (SubL.cons rfl (SubL.cons rfl (SubL.nil))))))) (SubL.cons rfl (SubL.nil))⟩
                refine ⟨by first | (rw [tOf_in (by omega)]; done) | (rw [tOf_in (by omega)]; rfl) | (rw [tOf_not (by omega)]; done) | (rw [tOf_two (by omega)]; done) | (rw [tOf_none (by omega) (by omega) (by omega)]; done), by rw [nin_succ hg]; first | (rw [if_pos (by omega)]; rfl) | (rw [if_neg (by omega)]; rfl)⟩
    · obtain ⟨b, m⟩ := u
      obtain ⟨hb1, rfl⟩ := hJ
      refine AWp.region ?_
      first | refine AOps.val (Y.move rfl rfl) (by decide) ?_ | refine AOps.moveU rfl (by decide) ?_
      first | refine AOps.val (Y.move rfl rfl) (by decide) ?_ | refine AOps.moveU rfl (by decide) ?_
      refine AOps.buildSlice ([[.v (.int .i64 b)]]) sl42 ze3 rfl rfl rfl rfl rfl (by intro r hr; simp at hr; (first | subst hr | (rcases hr with rfl | rfl)) <;> rfl) rfl rfl rfl (by decide) ?_
      refine AOps.appendE ((touts l ins (ix + 1)).map irow) (ix + 1) sl42 ze3 rfl rfl rfl rfl (by rw [List.length_map, hol]; omega) (touts_app hg (by omega) hb1) rfl (by omega) (by omega) (by decide) (by decide) ?_
      first | refine AOps.val (Y.assign rfl rfl) (by decide) ?_ | refine AOps.assignU rfl (by decide) ?_
      refine AOps.nil ?_
      refine AWp.region ?_
      first | refine AOps.val (Y.move rfl rfl) (by decide) ?_ | refine AOps.moveU rfl (by decide) ?_
      first | refine AOps.val (Y.addI rfl rfl (by omega)) (by decide) ?_ | refine AOps.val (Y.add rfl rfl rfl) (by decide) ?_
      first | refine AOps.val (Y.assign rfl rfl) (by decide) ?_ | refine AOps.assignU rfl (by decide) ?_
      refine AOps.nil ?_
      exact ⟨ix + 1, by omega, by omega, Le.mk (by repeat (first | exact SubL.nil | refine SubL.cons rfl ?_)) (by repeat (first | exact SubL.nil | refine SubL.cons rfl ?_))⟩
  · refine AWp.exit ?_
    refine AWp.seq ?_
    refine AWp.region ?_
    first | refine AOps.val (Y.move rfl rfl) (by decide) ?_ | refine AOps.moveU rfl (by decide) ?_
    first | refine AOps.val (Y.assign rfl rfl) (by decide) ?_ | refine AOps.assignU rfl (by decide) ?_
    refine AOps.sh (Sh.detach (d := 4) (o := 105) rfl rfl (by rw [List.length_map, touts_length hI]) (by decide)) ?_
    refine AOps.nil ?_
    refine AWp.ret ?_
    exact ⟨_, _, rfl, rfl, (by have h : ix = l.length := (by omega); subst h; rfl), rfl⟩

end Go.Proofs.Ytiehdnjcapjacaa
/- Times for the inputs; the contracts on times in the forms that the law uses. -/
namespace Go.Proofs.Ytiehdnjcapjacaa
open Go Go.AW

def u16row (z : Int) : List X := [.v (.int .u16 z)]
def timeAt (xs : List Int) (i : Nat) : Int := if 0 < xs.length then xs.getD (i % xs.length) 0 else 0
def timed (xs : List Int) (n : Nat) : List Int := (List.range n).map (timeAt xs)
theorem timed_length (xs : List Int) (n : Nat) : (timed xs n).length = n := by simp [timed]
theorem timed_app {xs : List Int} {i : Nat} {t : Int} (ht : t = timeAt xs i) : ((((timed xs i).map irow).drop 0).take i) ++ [[.v (.int .i64 t)]] = (timed xs (i + 1)).map irow := by
  rw [List.drop_zero, List.take_of_length_le (by simp [timed_length]), ht]
  simp [timed, List.range_succ, irow]
theorem small_of {xs : List Int} (h : ∀ z ∈ xs, (Lit.int .u16 z).wf = true) : Small 65535 xs := fun z hz => wf_u16 (h z hz)
theorem timed_small {xs : List Int} (h : Small 65535 xs) (n : Nat) : Small 65535 (timed xs n) := by
  intro z hz
  simp only [timed, List.mem_map] at hz
  obtain ⟨i, _, rfl⟩ := hz
  unfold timeAt
  split
  · exact h.get (by omega) _
  · omega
theorem plains_irow (z : Int) : X.plains (irow z) := by simp [irow, X.plains, X.plain]
theorem retX_plain (out : List Int) (e : Int) : (retX 1 (out.map irow) e).plain := by
  simp only [retX, X.plain, X.plains, and_true]
  exact plainr_map plains_irow out
theorem uni_plain (out : List Int) : (X.uni 1 (out.map irow)).plain := by
  simp only [X.plain]
  exact plainr_map plains_irow out
theorem retXi_ffz (out : List Int) (e : Int) : (retX 1 (out.map irow) e).ffz = .tup [.fz 1 (out.map irow), .v (.int .i64 e)] := by
  simp only [retX, X.ffz, X.ffzs]
  rw [X.ffzr_frees (Frees.map irow_frees)]
theorem depthOk_spec {l : List Gate} {ins : List Int} (hl : l.length ≤ 1073741824) (hins : Small 65535 ins) (hb : Good l) (hin : ins.length = nin l) :
    ACalls Try.prog 19 [.fz 3 (l.map Gate.row), .fz 1 (ins.map irow)] [] [] (fun r o => r = retX 1 ((touts l ins l.length).map irow) 0 ∧ o = []) := by
  have h := depths_spec hl hins
  rw [depthR_ok hb hin] at h
  exact h
theorem depthArg_spec {l : List Gate} {ins : List Int} (hl : l.length ≤ 1073741824) (hins : Small 65535 ins) (hb : Good l) (hin : ins.length ≠ nin l) :
    ACalls Try.prog 19 [.fz 3 (l.map Gate.row), .fz 1 (ins.map irow)] [] [] (fun r o => r = retX 1 (([] : List Int).map irow) 1 ∧ o = []) := by
  have h := depths_spec hl hins
  rw [depthR_arg hb hin] at h
  exact h
theorem depthForm_spec {l : List Gate} (hl : l.length ≤ 1073741824) (hb : ¬ Good l) :
    ACalls Try.prog 19 [.fz 3 (l.map Gate.row), .no] [] [] (fun r o => r = retX 1 (([] : List Int).map irow) 3 ∧ o = []) := depths_form hl hb
def loop (l : List Gate) : List Gate := l ++ [⟨4, l.length, 0⟩]
theorem loop_length (l : List Gate) : (loop l).length = l.length + 1 := by simp [loop]
theorem loop_bad (l : List Gate) : ¬ Good (loop l) := by
  intro h
  have := h l.length ⟨4, l.length, 0⟩ (by simp [loop])
  simp [okGate, okArg, operands] at this
theorem timed_one {xs : List Int} {n : Nat} (h : Small 65535 xs) : Small 65535 (timed xs n ++ [1]) := by
  intro z hz
  rcases List.mem_append.1 hz with hz | hz
  · exact timed_small h n z hz
  · simp only [List.mem_singleton] at hz; omega
end Go.Proofs.Ytiehdnjcapjacaa
/- The gates of a folder and its map, in plain Lean. -/
namespace Go.Proofs.Ytiehdnjcapjacaa
open Go Go.AW Go.Maps

def Gate.key (g : Gate) : Value := .agg #[.int .i64 g.kind, .int .i64 g.a, .int .i64 g.b]
def Gate.wf (g : Gate) : Prop := (Lit.int .i64 g.kind).wf = true ∧ (Lit.int .i64 g.a).wf = true ∧ (Lit.int .i64 g.b).wf = true
theorem Gate.key_inj {g h : Gate} (e : g.key = h.key) : g = h := by
  cases g; cases h
  simp [Gate.key] at e
  simp [e]
theorem Gate.key_word (g : Gate) : (X.agg g.row).word = some g.key := rfl
theorem keyed38 : Keyed Try.prog 38 := Keyed.of_law (deep_law_laid (m := 3) (by kernel_rfl) (by omega) (of_decide_eq_true (by kernel_rfl)) (by kernel_rfl) (by kernel_rfl))
theorem keyLits_int {d : Nat} {n : Int} (h : (Lit.int .i64 n).wf = true) : Try.prog.keyLits (d + 1) 3 [.int .i64 n] = some [.int .i64 n] := by
  unfold Program.keyLits
  rw [Try.underlying3]
  simp [h]
theorem keyOf_gate {g : Gate} (h : g.wf) : ∃ l, keyOf Try.prog 38 g.key = some l := by
  have h1 : Try.prog.keyType 38 = true := by kernel_rfl
  have h2 : Try.prog.cellsOf 38 = 3 := by kernel_rfl
  have h3 : Try.prog.cellsOf 3 = 1 := by kernel_rfl
  obtain ⟨m, hm⟩ : ∃ m, Try.prog.types.size = m + 1 := ⟨Try.prog.types.size - 1, by have : 0 < Try.prog.types.size := of_decide_eq_true (by kernel_rfl); omega⟩
  obtain ⟨ha, hb, hc⟩ := h
  have hf : g.key.formed Try.prog 38 = true := by simp [Gate.key, Value.formed, Try.underlying38, h2]
  have hl : Try.prog.keyLits (Try.prog.types.size + 1) 38 g.key.cells.toList = some [.int .i64 g.kind, .int .i64 g.a, .int .i64 g.b] := by
    rw [hm]
    unfold Program.keyLits
    rw [Try.underlying38]
    simp [Gate.key, Value.cells, h2, h3, keyLits_int, ha, hb, hc]
  unfold keyOf
  rw [Try.underlying38]
  simp only [h1, hf, Bool.true_and, if_true, hl]
  exact ⟨_, rfl⟩

/-- The gate with its arguments in order. -/
def swp (g : Gate) : Gate := if operands g.kind = 2 ∧ g.b < g.a then ⟨g.kind, g.b, g.a⟩ else g
theorem swp_wf {g : Gate} (h : g.wf) : (swp g).wf := by
  unfold swp
  split
  · exact ⟨h.1, h.2.2, h.2.1⟩
  · exact h
def ent (p : Gate × Nat) : Value × Value := (p.1.key, .int .i64 (p.2 : Int))
theorem ent_get {T : List (Gate × Nat)} {j : Nat} {q : Gate} {v : Value} (h : (T.map ent)[j]? = some (q.key, v)) : ∃ i : Nat, T[j]? = some (q, i) ∧ v = .int .i64 (i : Int) := by
  rw [List.getElem?_map, Option.map_eq_some_iff] at h
  obtain ⟨⟨g, i⟩, h1, h2⟩ := h
  simp only [ent, Prod.mk.injEq] at h2
  have := Gate.key_inj h2.1
  subst this
  exact ⟨i, h1, h2.2.symm⟩
theorem ent_none {T : List (Gate × Nat)} {q : Gate} (h : ∀ p ∈ T.map ent, p.1 ≠ q.key) : ∀ (j : Nat) (i : Nat), T[j]? ≠ some (q, i) := by
  intro j i hj
  exact h (ent (q, i)) (List.mem_map.2 ⟨_, List.mem_of_getElem? hj, rfl⟩) rfl
/-- The list of a folder, and its map. -/
structure FOk (L : List Gate) (T : List (Gate × Nat)) : Prop where
  at_ : ∀ (j : Nat) (g : Gate) (i : Nat), T[j]? = some (g, i) → L[i]? = some g
  all : ∀ (i : Nat) (g : Gate), L[i]? = some g → ∃ (j : Nat) (i' : Nat), T[j]? = some (g, i')
  wf : ∀ g ∈ L, g.wf
theorem FOk.keys {L : List Gate} {T : List (Gate × Nat)} (h : FOk L T) : KeysOk Try.prog 38 (T.map ent) := by
  intro p hp
  obtain ⟨⟨g, i⟩, hx, rfl⟩ := List.mem_map.1 hp
  obtain ⟨j, hj⟩ := List.getElem?_of_mem hx
  exact keyOf_gate (h.wf g (List.mem_of_getElem? (h.at_ j g i hj)))
theorem FOk.nil : FOk [] [] := ⟨fun _ _ _ h => by simp at h, fun _ _ h => by simp at h, fun _ h => by cases h⟩
theorem FOk.push {L : List Gate} {T : List (Gate × Nat)} (h : FOk L T) {q : Gate} (hq : q.wf) : FOk (L ++ [q]) (T ++ [(q, L.length)]) := by
  refine ⟨fun j g i hj => ?_, fun i g hi => ?_, fun g hg => ?_⟩
  · rcases Nat.lt_or_ge j T.length with hl | hl
    · rw [List.getElem?_append_left hl] at hj
      have := h.at_ j g i hj
      rw [List.getElem?_append_left (List.getElem?_eq_some_iff.1 this).1]; exact this
    · rw [List.getElem?_append_right hl] at hj
      rcases hk : j - T.length with _ | k
      · rw [hk] at hj
        simp at hj
        obtain ⟨rfl, rfl⟩ := hj
        simp
      · rw [hk] at hj; simp at hj
  · rcases Nat.lt_or_ge i L.length with hl | hl
    · rw [List.getElem?_append_left hl] at hi
      obtain ⟨j, i', hj⟩ := h.all i g hi
      exact ⟨j, i', by rw [List.getElem?_append_left (List.getElem?_eq_some_iff.1 hj).1]; exact hj⟩
    · rw [List.getElem?_append_right hl] at hi
      rcases hk : i - L.length with _ | k
      · rw [hk] at hi
        simp at hi
        subst hi
        exact ⟨T.length, L.length, by simp⟩
      · rw [hk] at hi; simp at hi
  · rcases List.mem_append.1 hg with hg | hg
    · exact h.wf g hg
    · simp only [List.mem_singleton] at hg; subst hg; exact hq
theorem FOk.over {L : List Gate} {T : List (Gate × Nat)} (h : FOk L T) {q : Gate} {j0 i0 : Nat} (hq : q.wf) (hj0 : T[j0]? = some (q, i0)) : FOk (L ++ [q]) (T.set j0 (q, L.length)) := by
  have hjl := (List.getElem?_eq_some_iff.1 hj0).1
  refine ⟨fun j g i hj => ?_, fun i g hi => ?_, fun g hg => ?_⟩
  · rw [List.getElem?_set] at hj
    split at hj
    · simp only [Option.some.injEq, Prod.mk.injEq] at hj
      obtain ⟨rfl, rfl⟩ := hj
      simp
    · have := h.at_ j g i hj
      rw [List.getElem?_append_left (List.getElem?_eq_some_iff.1 this).1]; exact this
  · have hex : ∀ g, (∃ (j : Nat) (i' : Nat), T[j]? = some (g, i')) → ∃ (j : Nat) (i' : Nat), (T.set j0 (q, L.length))[j]? = some (g, i') := by
      rintro g ⟨j, i', hj⟩
      by_cases he : j0 = j
      · subst he
        rw [hj0] at hj
        simp only [Option.some.injEq, Prod.mk.injEq] at hj
        obtain ⟨rfl, _⟩ := hj
        exact ⟨j0, L.length, by rw [List.getElem?_set_self hjl]⟩
      · exact ⟨j, i', by rw [List.getElem?_set_ne he]; exact hj⟩
    rcases Nat.lt_or_ge i L.length with hl | hl
    · rw [List.getElem?_append_left hl] at hi
      exact hex g (h.all i g hi)
    · rw [List.getElem?_append_right hl] at hi
      rcases hk : i - L.length with _ | k
      · rw [hk] at hi
        simp at hi
        subst hi
        exact ⟨j0, L.length, by rw [List.getElem?_set_self hjl]⟩
      · rw [hk] at hi; simp at hi
  · rcases List.mem_append.1 hg with hg | hg
    · exact h.wf g hg
    · simp only [List.mem_singleton] at hg; subst hg; exact hq
theorem FOk.notin {L : List Gate} {T : List (Gate × Nat)} (h : FOk L T) {q : Gate} (hn : ∀ (j : Nat) (i : Nat), T[j]? ≠ some (q, i)) : q ∉ L := by
  intro hq
  obtain ⟨i, hi⟩ := List.getElem?_of_mem hq
  obtain ⟨j, i', hj⟩ := h.all i q hi
  exact hn j i' hj
def fobjs (L : List Gate) (T : List (Gate × Nat)) : List Go.AW.Obj := [.cells [.slc 1 3 0 L.length, .mref 2], .rows 3 (L.map Gate.row), .tab (T.map ent)]
/-- What put does. -/
def PutQ (L : List Gate) (g : Gate) (r : X) (objs : List Go.AW.Obj) : Prop :=
  ∃ (L' : List Gate) (T' : List (Gate × Nat)) (i : Nat), r = .v (.int .i64 (i : Int)) ∧ objs = fobjs L' T' ∧ FOk L' T' ∧ L'[i]? = some (swp g) ∧
    ((L' = L ∧ (swp g).kind ≠ 3) ∨ (L' = L ++ [swp g] ∧ i = L.length ∧ ((swp g).kind = 3 ∨ swp g ∉ L)))
theorem put_why {L : List Gate} {q g : Gate} (hq : q = swp g) (h : q.kind = 3 ∨ q ∉ L) : (swp g).kind = 3 ∨ swp g ∉ L := hq ▸ h
theorem put_set {L : List Gate} {T : List (Gate × Nat)} {q : Gate} {j : Nat} {o : List Go.AW.Obj} (h : o = [.cells [.slc 1 3 0 (L.length + 1), .mref 2], .rows 3 ((L ++ [q]).map Gate.row), .tab ((T.map ent).set j (q.key, .int .i64 (L.length : Int)))]) :
    o = fobjs (L ++ [q]) (T.set j (q, L.length)) := by
  rw [h, fobjs, List.map_set, List.length_append]; rfl
theorem put_push {L : List Gate} {T : List (Gate × Nat)} {q : Gate} {o : List Go.AW.Obj} (h : o = [.cells [.slc 1 3 0 (L.length + 1), .mref 2], .rows 3 ((L ++ [q]).map Gate.row), .tab (T.map ent ++ [(q.key, .int .i64 (L.length : Int))])]) :
    o = fobjs (L ++ [q]) (T ++ [(q, L.length)]) := by
  rw [h, fobjs, List.length_append, List.map_append (f := ent)]; rfl
theorem fobjs_lt (L : List Gate) (T : List (Gate × Nat)) : ∀ ob ∈ fobjs L T, ob.lt 3 = true := by
  intro ob h
  simp only [fobjs, List.mem_cons, List.not_mem_nil, or_false] at h
  rcases h with rfl | rfl | rfl <;> rfl
theorem wf_small {k : Int} (h : 0 ≤ k ∧ k ≤ 100) : (Lit.int .i64 k).wf = true := by
  simp only [Lit.wf, IntKind.min, IntKind.max, IntKind.signed, IntKind.bits]
  simp
  omega
def cstG (b : Bool) : Gate := ⟨if b then 2 else 1, 0, 0⟩
theorem cstG_wf (b : Bool) : (cstG b).wf := by cases b <;> exact ⟨wf_small (by decide), wf_small (by decide), wf_small (by decide)⟩
theorem notG_wf {a : Nat} (h : a ≤ 1048576) : (⟨4, (a : Int), 0⟩ : Gate).wf := by
  refine ⟨wf_small (k := 4) (by decide), ?_, wf_small (k := 0) (by decide)⟩
  simp only [Lit.wf, IntKind.min, IntKind.max, IntKind.signed, IntKind.bits]
  simp
  omega
theorem row_at {L : List Gate} {a : Nat} {g : Gate} (h : L[a]? = some g) : (L.map Gate.row)[0 + a]? = some g.row := by
  rw [Nat.zero_add]; exact getElem?_map' h
/-- What not does: a is the index of g. -/
def NotQ (L : List Gate) (T : List (Gate × Nat)) (a : Nat) (g : Gate) (r : X) (objs : List Go.AW.Obj) : Prop :=
  (g.kind = 1 ∧ PutQ L (cstG true) r objs) ∨ (g.kind = 2 ∧ PutQ L (cstG false) r objs) ∨ (g.kind = 4 ∧ r = .v (.int .i64 g.a) ∧ objs = fobjs L T) ∨
    ((g.kind ≠ 1 ∧ g.kind ≠ 2 ∧ g.kind ≠ 4) ∧ PutQ L ⟨4, a, 0⟩ r objs)
/-- A constant. -/
def Cst (g : Gate) : Prop := g.kind = 1 ∨ g.kind = 2
/-- What binary does if gx, at x, is a constant. -/
def Out (L : List Gate) (T : List (Gate × Nat)) (k : Int) (x : Nat) (gx : Gate) (y : Nat) (gy : Gate) (r : X) (objs : List Go.AW.Obj) : Prop :=
  (((k = 5 ∧ gx.kind = 1) ∨ (k = 6 ∧ gx.kind = 2)) ∧ r = .v (.int .i64 (x : Int)) ∧ objs = fobjs L T) ∨
  (((k = 5 ∧ gx.kind = 2) ∨ (k = 6 ∧ gx.kind = 1) ∨ (k = 7 ∧ gx.kind = 1)) ∧ r = .v (.int .i64 (y : Int)) ∧ objs = fobjs L T) ∨
  ((k = 7 ∧ gx.kind = 2) ∧ NotQ L T y gy r objs)
/-- What binary does. -/
def BinQ (L : List Gate) (T : List (Gate × Nat)) (k : Int) (a : Nat) (ga : Gate) (b : Nat) (gb : Gate) (r : X) (objs : List Go.AW.Obj) : Prop :=
  (a = b ∧ k = 7 ∧ PutQ L (cstG false) r objs) ∨ (a = b ∧ k ≠ 7 ∧ r = .v (.int .i64 (a : Int)) ∧ objs = fobjs L T) ∨
  (a ≠ b ∧ (Out L T k a ga b gb r objs ∨ (¬ Cst ga ∧ Out L T k b gb a ga r objs) ∨ ((¬ Cst ga ∧ ¬ Cst gb) ∧ PutQ L ⟨k, a, b⟩ r objs)))
/-- Where the rounds of binary stand. -/
structure BinI (L : List Gate) (a : Nat) (ga : Gate) (b : Nat) (gb : Gate) (n x : Nat) (gx : Gate) (y : Nat) (gy : Gate) : Prop where
  hx : L[x]? = some gx
  hy : L[y]? = some gy
  ne : a ≠ b
  at_ : (n = 0 ∧ x = a ∧ gx = ga ∧ y = b ∧ gy = gb) ∨ (n = 1 ∧ x = b ∧ gx = gb ∧ y = a ∧ gy = ga ∧ ¬ Cst ga) ∨ (n = 2 ∧ x = a ∧ gx = ga ∧ y = b ∧ gy = gb ∧ ¬ Cst ga ∧ ¬ Cst gb)
section
variable {L : List Gate} {T : List (Gate × Nat)} {k : Int} {a b n x y : Nat} {ga gb gx gy : Gate} {r : X} {objs : List Go.AW.Obj}
theorem BinI.out (h : BinI L a ga b gb n x gx y gy) (hn : n < 2) (ho : Out L T k x gx y gy r objs) : BinQ L T k a ga b gb r objs := by
  obtain ⟨_, _, hne, h1 | h1 | h1⟩ := h
  · obtain ⟨_, rfl, rfl, rfl, rfl⟩ := h1
    exact .inr (.inr ⟨hne, .inl ho⟩)
  · obtain ⟨_, rfl, rfl, rfl, rfl, hc⟩ := h1
    exact .inr (.inr ⟨hne, .inr (.inl ⟨hc, ho⟩)⟩)
  · omega
theorem BinI.last (h : BinI L a ga b gb n x gx y gy) (hn : ¬ n < 2) : n = 2 ∧ x = a ∧ gx = ga ∧ y = b ∧ gy = gb ∧ ¬ Cst ga ∧ ¬ Cst gb := by
  obtain ⟨_, _, _, h1 | h1 | h1⟩ := h
  · omega
  · omega
  · exact h1
theorem BinI.next (h : BinI L a ga b gb n x gx y gy) (hn : n < 2) (hc : ¬ Cst gx) : BinI L a ga b gb (n + 1) y gy x gx := by
  obtain ⟨hx, hy, hne, h1 | h1 | h1⟩ := h
  · obtain ⟨rfl, rfl, rfl, rfl, rfl⟩ := h1
    exact ⟨hy, hx, hne, .inr (.inl ⟨rfl, rfl, rfl, rfl, rfl, hc⟩)⟩
  · obtain ⟨rfl, rfl, rfl, rfl, rfl, hc'⟩ := h1
    exact ⟨hy, hx, hne, .inr (.inr ⟨rfl, rfl, rfl, rfl, rfl, hc', hc⟩)⟩
  · omega
theorem binG_wf (hk : 5 ≤ k ∧ k ≤ 7) (ha : a ≤ 1048576) (hb : b ≤ 1048576) : (⟨k, (a : Int), (b : Int)⟩ : Gate).wf := by
  refine ⟨wf_small (k := k) (by omega), ?_, ?_⟩ <;>
  · simp only [Lit.wf, IntKind.min, IntKind.max, IntKind.signed, IntKind.bits]
    simp
    omega
end
theorem putQ_lt {L : List Gate} {g : Gate} {r : X} {objs : List Go.AW.Obj} (h : PutQ L g r objs) : r.lt 3 = true ∧ ∀ ob ∈ objs, ob.lt 3 = true := by
  obtain ⟨L2, T2, i2, rfl, rfl, _⟩ := h
  exact ⟨rfl, fobjs_lt _ _⟩
theorem notQ_both {L : List Gate} {T : List (Gate × Nat)} {a : Nat} {g : Gate} {r : X} {objs : List Go.AW.Obj} (h : NotQ L T a g r objs) : r.lt 3 = true ∧ ∀ ob ∈ objs, ob.lt 3 = true := by
  rcases h with ⟨_, h⟩ | ⟨_, h⟩ | ⟨_, rfl, rfl⟩ | ⟨_, h⟩
  · exact putQ_lt h
  · exact putQ_lt h
  · exact ⟨rfl, fobjs_lt _ _⟩
  · exact putQ_lt h
theorem notQ_lt {L : List Gate} {T : List (Gate × Nat)} {a : Nat} {g : Gate} {r : X} {objs : List Go.AW.Obj} (h : NotQ L T a g r objs) : r.lt 3 = true := (notQ_both h).1
theorem notQ_objs {L : List Gate} {T : List (Gate × Nat)} {a : Nat} {g : Gate} {r : X} {objs : List Go.AW.Obj} (h : NotQ L T a g r objs) : ∀ ob ∈ objs, ob.lt 3 = true := (notQ_both h).2
theorem notQ_form {L : List Gate} {T : List (Gate × Nat)} {a : Nat} {g : Gate} {r : X} {objs : List Go.AW.Obj} (h : NotQ L T a g r objs) : ∃ (m : Int) (L2 : List Gate) (T2 : List (Gate × Nat)), r = .v (.int .i64 m) ∧ objs = fobjs L2 T2 := by
  rcases h with ⟨_, L2, T2, i2, h1, h2, _⟩ | ⟨_, L2, T2, i2, h1, h2, _⟩ | ⟨_, h1, h2⟩ | ⟨_, L2, T2, i2, h1, h2, _⟩
  · exact ⟨_, L2, T2, h1, h2⟩
  · exact ⟨_, L2, T2, h1, h2⟩
  · exact ⟨_, L, T, h1, h2⟩
  · exact ⟨_, L2, T2, h1, h2⟩
end Go.Proofs.Ytiehdnjcapjacaa
/- Folding as a relation, in plain Lean. -/
namespace Go.Proofs.Ytiehdnjcapjacaa
open Go Go.AW

def PutRel (L : List Gate) (g : Gate) (L' : List Gate) (x : Nat) : Prop :=
  L'[x]? = some (swp g) ∧ ((L' = L ∧ (swp g).kind ≠ 3) ∨ (L' = L ++ [swp g] ∧ x = L.length ∧ ((swp g).kind = 3 ∨ swp g ∉ L)))
def NotRel (L : List Gate) (a : Nat) (L' : List Gate) (x : Nat) : Prop :=
  ∃ g, L[a]? = some g ∧ ((g.kind = 1 ∧ PutRel L (cstG true) L' x) ∨ (g.kind = 2 ∧ PutRel L (cstG false) L' x) ∨ (g.kind = 4 ∧ g.a = (x : Int) ∧ L' = L) ∨ ((g.kind ≠ 1 ∧ g.kind ≠ 2 ∧ g.kind ≠ 4) ∧ PutRel L ⟨4, a, 0⟩ L' x))
def OutRel (L : List Gate) (k : Int) (x : Nat) (gx : Gate) (y : Nat) (L' : List Gate) (z : Nat) : Prop :=
  (((k = 5 ∧ gx.kind = 1) ∨ (k = 6 ∧ gx.kind = 2)) ∧ z = x ∧ L' = L) ∨ (((k = 5 ∧ gx.kind = 2) ∨ (k = 6 ∧ gx.kind = 1) ∨ (k = 7 ∧ gx.kind = 1)) ∧ z = y ∧ L' = L) ∨ ((k = 7 ∧ gx.kind = 2) ∧ NotRel L y L' z)
def BinRel (L : List Gate) (k : Int) (a b : Nat) (L' : List Gate) (z : Nat) : Prop :=
  ∃ ga gb, L[a]? = some ga ∧ L[b]? = some gb ∧ ((a = b ∧ k = 7 ∧ PutRel L (cstG false) L' z) ∨ (a = b ∧ k ≠ 7 ∧ z = a ∧ L' = L) ∨
    (a ≠ b ∧ (OutRel L k a ga b L' z ∨ (¬ Cst ga ∧ OutRel L k b gb a L' z) ∨ ((¬ Cst ga ∧ ¬ Cst gb) ∧ PutRel L ⟨k, a, b⟩ L' z))))

/-- What the folder holds, and the index that was given back. -/
def Held (R : List Gate → Nat → Prop) (r : X) (objs : List Go.AW.Obj) : Prop :=
  ∃ (L' : List Gate) (T' : List (Gate × Nat)) (x : Nat), r = .v (.int .i64 (x : Int)) ∧ objs = fobjs L' T' ∧ FOk L' T' ∧ x < L'.length ∧ R L' x
section
variable {L : List Gate} {T : List (Gate × Nat)} {r : X} {objs : List Go.AW.Obj}
theorem PutQ.held {g : Gate} (h : PutQ L g r objs) : Held (PutRel L g) r objs := by
  obtain ⟨L', T', i, h1, h2, h3, h4, h5⟩ := h
  exact ⟨L', T', i, h1, h2, h3, (List.getElem?_eq_some_iff.1 h4).1, h4, h5⟩
theorem Held.mono {R R' : List Gate → Nat → Prop} (h : Held R r objs) (hm : ∀ L' x, R L' x → R' L' x) : Held R' r objs := by
  obtain ⟨L', T', x, h1, h2, h3, h4, h5⟩ := h
  exact ⟨L', T', x, h1, h2, h3, h4, hm _ _ h5⟩
theorem NotQ.held {a : Nat} {g : Gate} (hf : FOk L T) (hgood : Good L) (hg : L[a]? = some g) (h : NotQ L T a g r objs) : Held (NotRel L a) r objs := by
  rcases h with ⟨h1, h⟩ | ⟨h1, h⟩ | ⟨h1, h2, h3⟩ | ⟨h1, h⟩
  · exact h.held.mono fun L' x h' => ⟨g, hg, .inl ⟨h1, h'⟩⟩
  · exact h.held.mono fun L' x h' => ⟨g, hg, .inr (.inl ⟨h1, h'⟩)⟩
  · have hok := hgood a g hg
    have hal := (List.getElem?_eq_some_iff.1 hg).1
    simp only [okGate, okArg, operands] at hok
    refine ⟨L, T, g.a.toNat, ?_, h3, hf, by omega, g, hg, .inr (.inr (.inl ⟨h1, by omega, rfl⟩))⟩
    rw [h2, Int.toNat_of_nonneg (by omega)]
  · exact h.held.mono fun L' x h' => ⟨g, hg, .inr (.inr (.inr ⟨h1, h'⟩))⟩
theorem Out.held {k : Int} {x y : Nat} {gx gy : Gate} (hf : FOk L T) (hgood : Good L) (hx : L[x]? = some gx) (hy : L[y]? = some gy) (h : Out L T k x gx y gy r objs) : Held (OutRel L k x gx y) r objs := by
  rcases h with ⟨h1, h2, h3⟩ | ⟨h1, h2, h3⟩ | ⟨h1, h⟩
  · exact ⟨L, T, x, h2, h3, hf, (List.getElem?_eq_some_iff.1 hx).1, .inl ⟨h1, rfl, rfl⟩⟩
  · exact ⟨L, T, y, h2, h3, hf, (List.getElem?_eq_some_iff.1 hy).1, .inr (.inl ⟨h1, rfl, rfl⟩)⟩
  · exact (h.held hf hgood hy).mono fun L' z h' => .inr (.inr ⟨h1, h'⟩)
theorem BinQ.held {k : Int} {a b : Nat} {ga gb : Gate} (hf : FOk L T) (hgood : Good L) (ha : L[a]? = some ga) (hb : L[b]? = some gb) (h : BinQ L T k a ga b gb r objs) : Held (BinRel L k a b) r objs := by
  rcases h with ⟨h1, h2, h⟩ | ⟨h1, h2, h3, h4⟩ | ⟨h1, h | ⟨h2, h⟩ | ⟨h2, h⟩⟩
  · exact h.held.mono fun L' x h' => ⟨ga, gb, ha, hb, .inl ⟨h1, h2, h'⟩⟩
  · exact ⟨L, T, a, h3, h4, hf, (List.getElem?_eq_some_iff.1 ha).1, ga, gb, ha, hb, .inr (.inl ⟨h1, h2, rfl, rfl⟩)⟩
  · exact (h.held hf hgood ha hb).mono fun L' x h' => ⟨ga, gb, ha, hb, .inr (.inr ⟨h1, .inl h'⟩)⟩
  · exact (h.held hf hgood hb ha).mono fun L' x h' => ⟨ga, gb, ha, hb, .inr (.inr ⟨h1, .inr (.inl ⟨h2, h'⟩)⟩)⟩
  · exact h.held.mono fun L' x h' => ⟨ga, gb, ha, hb, .inr (.inr ⟨h1, .inr (.inr ⟨h2, h'⟩)⟩)⟩
end

/-- One round of Fold. -/
def StepRel (g : Gate) (L : List Gate) (idx : List Nat) (L' : List Gate) (x : Nat) : Prop :=
  if g.kind = 4 then NotRel L (idx.getD g.a.toNat 0) L' x
  else if g.kind = 5 ∨ g.kind = 6 ∨ g.kind = 7 then BinRel L g.kind (idx.getD g.a.toNat 0) (idx.getD g.b.toNat 0) L' x
  else PutRel L g L' x
/-- The first rounds of Fold: the folder's list and the indices. -/
inductive FoldRel (l : List Gate) : Nat → List Gate → List Nat → Prop where
  | zero : FoldRel l 0 [] []
  | step {i : Nat} {L : List Gate} {idx : List Nat} {g : Gate} {L' : List Gate} {x : Nat} (h : FoldRel l i L idx) (hg : l[i]? = some g) (hs : StepRel g L idx L' x) : FoldRel l (i + 1) L' (idx ++ [x])
end Go.Proofs.Ytiehdnjcapjacaa
/- What folding keeps: the folder's gates are well formed, and the indices lie in the list. -/
namespace Go.Proofs.Ytiehdnjcapjacaa
open Go Go.AW

def Ext (L L' : List Gate) : Prop := ∃ M, L' = L ++ M
theorem Ext.refl (L : List Gate) : Ext L L := ⟨[], by simp⟩
theorem Ext.get {L L' : List Gate} (h : Ext L L') {i : Nat} {g : Gate} (hg : L[i]? = some g) : L'[i]? = some g := by
  obtain ⟨M, rfl⟩ := h
  rw [List.getElem?_append_left (List.getElem?_eq_some_iff.1 hg).1]; exact hg
theorem Ext.len {L L' : List Gate} (h : Ext L L') : L.length ≤ L'.length := by
  obtain ⟨M, rfl⟩ := h
  simp
theorem swp_ok {n : Nat} {g : Gate} (h : okGate n g) : okGate n (swp g) := by
  unfold swp
  split
  · rename_i hs
    simp only [okGate, okArg, operands] at h hs ⊢
    omega
  · exact h
theorem Good.push {L : List Gate} {q : Gate} (h : Good L) (hq : okGate L.length q) : Good (L ++ [q]) := by
  intro i g hg
  rcases Nat.lt_or_ge i L.length with hl | hl
  · rw [List.getElem?_append_left hl] at hg
    exact h i g hg
  · rw [List.getElem?_append_right hl] at hg
    rcases hk : i - L.length with _ | k
    · rw [hk] at hg
      simp at hg
      subst hg
      rw [show i = L.length by omega]; exact hq
    · rw [hk] at hg; simp at hg
/-- A round keeps what holds: the list grows, is well formed, and has the index. -/
structure Keeps (L L' : List Gate) (x : Nat) : Prop where
  ext : Ext L L'
  good : Good L'
  lt : x < L'.length
  small : L'.length ≤ L.length + 1
theorem PutRel.keeps {L L' : List Gate} {g : Gate} {x : Nat} (h : PutRel L g L' x) (hL : Good L) (hg : okGate L.length g) : Keeps L L' x := by
  obtain ⟨h1, ⟨rfl, _⟩ | ⟨rfl, rfl, _⟩⟩ := h
  · exact ⟨Ext.refl _, hL, (List.getElem?_eq_some_iff.1 h1).1, by omega⟩
  · exact ⟨⟨_, rfl⟩, hL.push (swp_ok hg), by simp, by simp⟩
theorem cstG_ok (n : Nat) (b : Bool) : okGate n (cstG b) := by cases b <;> simp [okGate, okArg, operands, cstG]
theorem NotRel.keeps {L L' : List Gate} {a x : Nat} (h : NotRel L a L' x) (hL : Good L) : Keeps L L' x := by
  obtain ⟨g, hg, h⟩ := h
  have hal := (List.getElem?_eq_some_iff.1 hg).1
  rcases h with ⟨_, h⟩ | ⟨_, h⟩ | ⟨h1, h2, rfl⟩ | ⟨_, h⟩
  · exact h.keeps hL (cstG_ok _ _)
  · exact h.keeps hL (cstG_ok _ _)
  · have hok := hL a g hg
    simp only [okGate, okArg, operands] at hok
    exact ⟨Ext.refl _, hL, by omega, by omega⟩
  · exact h.keeps hL (by simp [okGate, okArg, operands]; omega)
theorem OutRel.keeps {L L' : List Gate} {k : Int} {x y z : Nat} {gx : Gate} (h : OutRel L k x gx y L' z) (hL : Good L) (hx : x < L.length) (hy : y < L.length) : Keeps L L' z := by
  rcases h with ⟨_, rfl, rfl⟩ | ⟨_, rfl, rfl⟩ | ⟨_, h⟩
  · exact ⟨Ext.refl _, hL, hx, by omega⟩
  · exact ⟨Ext.refl _, hL, hy, by omega⟩
  · exact h.keeps hL
theorem BinRel.keeps {L L' : List Gate} {k : Int} {a b z : Nat} (h : BinRel L k a b L' z) (hk : k = 5 ∨ k = 6 ∨ k = 7) (hL : Good L) : Keeps L L' z := by
  obtain ⟨ga, gb, ha, hb, h⟩ := h
  have hal := (List.getElem?_eq_some_iff.1 ha).1
  have hbl := (List.getElem?_eq_some_iff.1 hb).1
  rcases h with ⟨_, _, h⟩ | ⟨_, _, rfl, rfl⟩ | ⟨_, h | ⟨_, h⟩ | ⟨_, h⟩⟩
  · exact h.keeps hL (cstG_ok _ _)
  · exact ⟨Ext.refl _, hL, hal, by omega⟩
  · exact h.keeps hL hal hbl
  · exact h.keeps hL hbl hal
  · exact h.keeps hL (by simp only [okGate, okArg, operands]; omega)
theorem StepRel.keeps {L L' : List Gate} {g : Gate} {idx : List Nat} {x i : Nat} (h : StepRel g L idx L' x) (hL : Good L) (hg : okGate i g) : Keeps L L' x := by
  unfold StepRel at h
  split at h
  · exact h.keeps hL
  · split at h
    · rename_i hk
      exact h.keeps hk hL
    · refine h.keeps hL ?_
      simp only [okGate, okArg, operands] at hg ⊢
      omega
structure FoldOk (i : Nat) (L : List Gate) (idx : List Nat) : Prop where
  len : idx.length = i
  lt : ∀ x ∈ idx, x < L.length
  good : Good L
  small : L.length ≤ i
theorem FoldRel.ok {l : List Gate} (hl : Good l) : ∀ {i : Nat} {L : List Gate} {idx : List Nat}, FoldRel l i L idx → FoldOk i L idx := by
  intro i L idx h
  induction h with
  | zero => exact ⟨rfl, (fun _ h => by cases h), (fun _ _ h => by simp at h), Nat.le_refl _⟩
  | step _ hg hs ih =>
    have hk := hs.keeps ih.good (hl _ _ hg)
    refine ⟨by simp [ih.len], fun y hy => ?_, hk.good, by have h1 := hk.small; have h2 := ih.small; omega⟩
    rcases List.mem_append.1 hy with hy | hy
    · exact Nat.lt_of_lt_of_le (ih.lt y hy) hk.ext.len
    · simp only [List.mem_singleton] at hy; subst hy; exact hk.lt
theorem FoldRel.bound {l : List Gate} : ∀ {i : Nat} {L : List Gate} {idx : List Nat}, FoldRel l i L idx → i ≤ l.length := by
  intro i L idx h
  induction h with
  | zero => exact Nat.zero_le _
  | step _ hg _ _ => exact (List.getElem?_eq_some_iff.1 hg).1
end Go.Proofs.Ytiehdnjcapjacaa
/- Values of gates in a list that grows. -/
namespace Go.Proofs.Ytiehdnjcapjacaa
open Go Go.AW

theorem outs_prefix {L M : List Gate} {ins : List Bool} : ∀ {i : Nat}, i ≤ L.length → outs (L ++ M) ins i = outs L ins i
  | 0, _ => rfl
  | i + 1, h => by
    have hg : L[i]? = some L[i] := List.getElem?_eq_getElem (show i < L.length by omega)
    have hg' : (L ++ M)[i]? = some L[i] := by rw [List.getElem?_append_left (by omega)]; exact hg
    rw [outs_succ hg, outs_succ hg', outs_prefix (by omega), List.take_append_of_le_length (by omega)]
/-- The value of the gate x. -/
def vAt (L : List Gate) (ins : List Bool) (x : Nat) : Bool := (outs L ins L.length).getD x false
theorem vAt_at {L : List Gate} {ins : List Bool} {x j : Nat} (hx : x < j) (hj : j ≤ L.length) : (outs L ins j).getD x false = vAt L ins x := by
  unfold vAt
  rw [List.getD_eq_getElem?_getD, List.getD_eq_getElem?_getD, outs_pre' hx hj]
where
  outs_pre' {L : List Gate} {ins : List Bool} {i j : Nat} (hi : i < j) (hj : j ≤ L.length) : (outs L ins j)[i]? = (outs L ins L.length)[i]? := by
    have key : ∀ d j, j + d = L.length → i < j → (outs L ins L.length)[i]? = (outs L ins j)[i]? := by
      intro d
      induction d with
      | zero => intro j hj _; rw [show j = L.length by omega]
      | succ d ih =>
        intro j hj hi
        rw [ih (j + 1) (by omega) (by omega), outs_succ (List.getElem?_eq_getElem (show j < L.length by omega)), List.getElem?_append_left (by rw [outs_length (by omega)]; exact hi)]
    exact (key (L.length - j) j (by omega) hi).symm
theorem vAt_ext {L L' : List Gate} {ins : List Bool} {x : Nat} (h : Ext L L') (hx : x < L.length) : vAt L' ins x = vAt L ins x := by
  obtain ⟨M, rfl⟩ := h
  rw [← vAt_at (L := L ++ M) (j := L.length) hx (by simp), outs_prefix (Nat.le_refl _)]
  rfl
/-- A gate's value, by its kind. -/
theorem vAt_eq {L : List Gate} {ins : List Bool} {x : Nat} {g : Gate} (hL : Good L) (hg : L[x]? = some g) :
    vAt L ins x = (if g.kind = 2 then true else if g.kind = 3 then ins.getD (nin (L.take x)) false else if g.kind = 4 then !vAt L ins g.a.toNat
      else if g.kind = 5 then vAt L ins g.a.toNat && vAt L ins g.b.toNat else if g.kind = 6 then vAt L ins g.a.toNat || vAt L ins g.b.toNat
      else if g.kind = 7 then vAt L ins g.a.toNat != vAt L ins g.b.toNat else false) := by
  have hx := (List.getElem?_eq_some_iff.1 hg).1
  have hok := hL x g hg
  simp only [okGate, okArg, operands] at hok
  rw [← vAt_at (j := x + 1) (by omega) (by omega), outs_succ hg]
  have h1 : (outs L ins x ++ [valOf (outs L ins x) ins (nin (L.take x)) g]).getD x false = valOf (outs L ins x) ins (nin (L.take x)) g := by
    rw [List.getD_eq_getElem?_getD, List.getElem?_append_right (by rw [outs_length (by omega)]; exact Nat.le_refl _), outs_length (by omega)]
    simp
  rw [h1, valOf]
  have ha : g.kind = 4 ∨ g.kind = 5 ∨ g.kind = 6 ∨ g.kind = 7 → (outs L ins x).getD g.a.toNat false = vAt L ins g.a.toNat := fun hk => vAt_at (by omega) (by omega)
  have hb : g.kind = 5 ∨ g.kind = 6 ∨ g.kind = 7 → (outs L ins x).getD g.b.toNat false = vAt L ins g.b.toNat := fun hk => vAt_at (by omega) (by omega)
  by_cases h4 : g.kind = 4
  · rw [ha (by omega)]; simp [h4]
  · by_cases h5 : g.kind = 5
    · rw [ha (by omega), hb (by omega)]
    · by_cases h6 : g.kind = 6
      · rw [ha (by omega), hb (by omega)]
      · by_cases h7 : g.kind = 7
        · rw [ha (by omega), hb (by omega)]
        · simp [h4, h5, h6, h7]
end Go.Proofs.Ytiehdnjcapjacaa
/- Folding keeps values. -/
namespace Go.Proofs.Ytiehdnjcapjacaa
open Go Go.AW

/-- The value of a gate whose arguments lie in L. -/
def gv (L : List Gate) (ins : List Bool) (g : Gate) : Bool :=
  if g.kind = 2 then true else if g.kind = 4 then !vAt L ins g.a.toNat
  else if g.kind = 5 then vAt L ins g.a.toNat && vAt L ins g.b.toNat else if g.kind = 6 then vAt L ins g.a.toNat || vAt L ins g.b.toNat
  else if g.kind = 7 then vAt L ins g.a.toNat != vAt L ins g.b.toNat else false
theorem gv_swp (L : List Gate) (ins : List Bool) (g : Gate) : gv L ins (swp g) = gv L ins g := by
  unfold swp
  split
  · rename_i hs
    simp only [gv]
    by_cases h5 : g.kind = 5
    · simp [h5, Bool.and_comm]
    · by_cases h6 : g.kind = 6
      · simp [h6, Bool.or_comm]
      · by_cases h7 : g.kind = 7
        · simp [h7, bne_comm]
        · exfalso; simp only [operands] at hs; omega
  · rfl
theorem swp_kind (g : Gate) : (swp g).kind = g.kind := by unfold swp; split <;> rfl
theorem vAt_gv {L : List Gate} {ins : List Bool} {x : Nat} {g : Gate} (hL : Good L) (hg : L[x]? = some g) (h3 : g.kind ≠ 3) : vAt L ins x = gv L ins g := by
  rw [vAt_eq hL hg, gv]
  by_cases h2 : g.kind = 2
  · simp [h2]
  · simp [h2, h3]
theorem gv_ext {L L' : List Gate} {ins : List Bool} {g : Gate} (h : Ext L L') (hg : okGate L.length g) : gv L' ins g = gv L ins g := by
  simp only [okGate, okArg, operands] at hg
  have ha : g.kind = 4 ∨ g.kind = 5 ∨ g.kind = 6 ∨ g.kind = 7 → vAt L' ins g.a.toNat = vAt L ins g.a.toNat := fun hk => vAt_ext h (by omega)
  have hb : g.kind = 5 ∨ g.kind = 6 ∨ g.kind = 7 → vAt L' ins g.b.toNat = vAt L ins g.b.toNat := fun hk => vAt_ext h (by omega)
  unfold gv
  by_cases h4 : g.kind = 4
  · rw [ha (by omega)]; simp [h4]
  · by_cases h5 : g.kind = 5
    · rw [ha (by omega), hb (by omega)]
    · by_cases h6 : g.kind = 6
      · rw [ha (by omega), hb (by omega)]
      · by_cases h7 : g.kind = 7
        · rw [ha (by omega), hb (by omega)]
        · simp [h4, h5, h6, h7]
theorem PutRel.val {L L' : List Gate} {ins : List Bool} {g : Gate} {x : Nat} (h : PutRel L g L' x) (hL : Good L) (hg : okGate L.length g) (h3 : g.kind ≠ 3) : vAt L' ins x = gv L ins g := by
  have hk := h.keeps hL hg
  rw [vAt_gv hk.good h.1 (by rw [swp_kind]; exact h3), gv_swp, gv_ext hk.ext hg]
theorem cst_val {L L' : List Gate} {ins : List Bool} {b : Bool} {x : Nat} (h : PutRel L (cstG b) L' x) (hL : Good L) : vAt L' ins x = b := by
  rw [h.val hL (cstG_ok _ _) (by cases b <;> decide)]
  cases b <;> rfl
theorem NotRel.val {L L' : List Gate} {ins : List Bool} {a x : Nat} (h : NotRel L a L' x) (hL : Good L) : vAt L' ins x = !vAt L ins a := by
  obtain ⟨g, hg, h⟩ := h
  have hal := (List.getElem?_eq_some_iff.1 hg).1
  rcases h with ⟨h1, h⟩ | ⟨h1, h⟩ | ⟨h1, h2, rfl⟩ | ⟨_, h⟩
  · rw [cst_val h hL, vAt_gv hL hg (by omega)]; simp [gv, h1]
  · rw [cst_val h hL, vAt_gv hL hg (by omega)]; simp [gv, h1]
  · rw [vAt_gv hL hg (by omega)]; simp [gv, h1, h2]
  · rw [h.val hL (by simp [okGate, okArg, operands]; omega) (by simp)]; simp [gv]
def opV (k : Int) (u v : Bool) : Bool := if k = 5 then u && v else if k = 6 then u || v else u != v
theorem OutRel.val {L L' : List Gate} {ins : List Bool} {k : Int} {x y z : Nat} {gx : Gate} (h : OutRel L k x gx y L' z) (hL : Good L) (hg : L[x]? = some gx) : vAt L' ins z = opV k (vAt L ins x) (vAt L ins y) := by
  rcases h with ⟨h1, rfl, rfl⟩ | ⟨h1, rfl, rfl⟩ | ⟨h1, h⟩
  · rcases h1 with ⟨rfl, h1⟩ | ⟨rfl, h1⟩ <;> simp [opV, vAt_gv hL hg (show gx.kind ≠ 3 by omega), gv, h1]
  · rcases h1 with ⟨rfl, h1⟩ | ⟨rfl, h1⟩ | ⟨rfl, h1⟩ <;> simp [opV, vAt_gv hL hg (show gx.kind ≠ 3 by omega), gv, h1]
  · obtain ⟨rfl, h1⟩ := h1
    rw [h.val hL]
    simp [opV, vAt_gv hL hg (show gx.kind ≠ 3 by omega), gv, h1]
theorem opV_comm (k : Int) (u v : Bool) : opV k u v = opV k v u := by
  unfold opV
  split
  · exact Bool.and_comm _ _
  · split
    · exact Bool.or_comm _ _
    · exact bne_comm
theorem BinRel.val {L L' : List Gate} {ins : List Bool} {k : Int} {a b z : Nat} (h : BinRel L k a b L' z) (hk : k = 5 ∨ k = 6 ∨ k = 7) (hL : Good L) : vAt L' ins z = opV k (vAt L ins a) (vAt L ins b) := by
  obtain ⟨ga, gb, ha, hb, h⟩ := h
  have hal := (List.getElem?_eq_some_iff.1 ha).1
  have hbl := (List.getElem?_eq_some_iff.1 hb).1
  rcases h with ⟨rfl, rfl, h⟩ | ⟨rfl, h7, rfl, rfl⟩ | ⟨_, h | ⟨_, h⟩ | ⟨_, h⟩⟩
  · rw [cst_val h hL]; simp [opV]
  · rcases hk with rfl | rfl | rfl
    · simp [opV]
    · simp [opV]
    · exact absurd rfl h7
  · exact h.val hL ha
  · rw [h.val hL hb, opV_comm]
  · rw [h.val hL (by simp only [okGate, okArg, operands]; omega) (by simp only; omega)]
    rcases hk with rfl | rfl | rfl <;> simp [gv, opV]
end Go.Proofs.Ytiehdnjcapjacaa
/- Folding keeps values: all rounds. -/
namespace Go.Proofs.Ytiehdnjcapjacaa
open Go Go.AW

theorem nin_app (a b : List Gate) : nin (a ++ b) = nin a + nin b := List.countP_append
theorem nin_one (g : Gate) : nin [g] = if g.kind = 3 then 1 else 0 := by simp [nin, List.countP_cons]
theorem PutRel.nin {L L' : List Gate} {g : Gate} {x : Nat} (h : PutRel L g L' x) : nin L' = nin L + if g.kind = 3 then 1 else 0 := by
  obtain ⟨_, ⟨rfl, h3⟩ | ⟨rfl, _, _⟩⟩ := h
  · rw [swp_kind] at h3
    rw [if_neg h3]; rfl
  · rw [nin_app, nin_one, swp_kind]
theorem cst_nin {L L' : List Gate} {b : Bool} {x : Nat} (h : PutRel L (cstG b) L' x) : Go.Proofs.Ytiehdnjcapjacaa.nin L' = Go.Proofs.Ytiehdnjcapjacaa.nin L := by
  rw [h.nin, if_neg (by cases b <;> decide)]; rfl
theorem NotRel.nin {L L' : List Gate} {a x : Nat} (h : NotRel L a L' x) : nin L' = nin L := by
  obtain ⟨g, _, ⟨_, h⟩ | ⟨_, h⟩ | ⟨_, _, rfl⟩ | ⟨_, h⟩⟩ := h
  · exact cst_nin h
  · exact cst_nin h
  · rfl
  · rw [h.nin]; rfl
theorem OutRel.nin {L L' : List Gate} {k : Int} {x y z : Nat} {gx : Gate} (h : OutRel L k x gx y L' z) : nin L' = nin L := by
  rcases h with ⟨_, _, rfl⟩ | ⟨_, _, rfl⟩ | ⟨_, h⟩
  · rfl
  · rfl
  · exact h.nin
theorem BinRel.nin {L L' : List Gate} {k : Int} {a b z : Nat} (h : BinRel L k a b L' z) (hk : k = 5 ∨ k = 6 ∨ k = 7) : nin L' = nin L := by
  obtain ⟨_, _, _, _, ⟨_, _, h⟩ | ⟨_, _, _, rfl⟩ | ⟨_, h | ⟨_, h⟩ | ⟨_, h⟩⟩⟩ := h
  · exact cst_nin h
  · rfl
  · exact h.nin
  · exact h.nin
  · rw [h.nin, if_neg (by simp only; omega)]; rfl
theorem PutRel.val3 {L L' : List Gate} {ins : List Bool} {g : Gate} {x : Nat} (h : PutRel L g L' x) (hL : Good L) (hg : okGate L.length g) (h3 : g.kind = 3) : vAt L' ins x = ins.getD (Go.Proofs.Ytiehdnjcapjacaa.nin L) false := by
  have hk := h.keeps hL hg
  rw [vAt_eq hk.good h.1, swp_kind]
  obtain ⟨_, ⟨_, hn⟩ | ⟨rfl, rfl, _⟩⟩ := h
  · rw [swp_kind] at hn; exact absurd h3 hn
  · rw [if_neg (by omega), if_pos h3, List.take_left]
/-- What holds of the values behind i rounds. -/
structure FoldVal (l : List Gate) (ins : List Bool) (i : Nat) (L : List Gate) (idx : List Nat) : Prop where
  nin : nin L = Go.Proofs.Ytiehdnjcapjacaa.nin (l.take i)
  val : ∀ (j : Nat) (x : Nat), idx[j]? = some x → vAt L ins x = vAt l ins j
theorem FoldRel.val {l : List Gate} {ins : List Bool} (hl : Good l) : ∀ {i : Nat} {L : List Gate} {idx : List Nat}, FoldRel l i L idx → FoldVal l ins i L idx := by
  intro i L idx h
  induction h with
  | zero => exact ⟨by simp [Go.Proofs.Ytiehdnjcapjacaa.nin], (fun _ _ h => by simp at h)⟩
  | step hr hg hs ih =>
    rename_i i L idx g L' x
    have hok := hr.ok hl
    have hgo := hl _ _ hg
    have hk := hs.keeps hok.good hgo
    have hi := (List.getElem?_eq_some_iff.1 hg).1
    have arg : ∀ a : Nat, a < i → vAt L ins (idx.getD a 0) = vAt l ins a := fun a ha => by
      have hla : a < idx.length := by rw [hok.len]; exact ha
      rw [List.getD_eq_getElem?_getD, List.getElem?_eq_getElem hla]
      exact ih.val a _ (List.getElem?_eq_getElem hla)
    have hnew : Go.Proofs.Ytiehdnjcapjacaa.nin L' = Go.Proofs.Ytiehdnjcapjacaa.nin L + (if g.kind = 3 then 1 else 0) ∧ vAt L' ins x = vAt l ins i := by
      simp only [okGate, okArg, operands] at hgo
      unfold StepRel at hs
      split at hs
      · rename_i h4
        refine ⟨by rw [hs.nin, if_neg (by omega)]; rfl, ?_⟩
        rw [hs.val hok.good, arg _ (by omega), vAt_eq hl hg]
        simp [h4]
      · split at hs
        · rename_i h4 h5
          refine ⟨by rw [hs.nin h5, if_neg (by omega)]; rfl, ?_⟩
          rw [hs.val h5 hok.good, arg _ (by omega), arg _ (by omega), vAt_eq hl hg]
          rcases h5 with h5 | h5 | h5 <;> simp [opV, h5]
        · rename_i h4 h5
          have hgL : okGate L.length g := by simp only [okGate, okArg, operands]; omega
          refine ⟨hs.nin, ?_⟩
          rw [vAt_eq hl hg]
          by_cases h3 : g.kind = 3
          · rw [hs.val3 hok.good hgL h3, if_neg (by omega), if_pos h3, ih.nin]
          · rw [hs.val hok.good hgL h3, gv]
            simp only [not_or] at h5
            simp [h3, h4, h5]
    refine ⟨by rw [hnew.1, ih.nin, nin_succ hg], fun j y hj => ?_⟩
    rcases Nat.lt_or_ge j idx.length with hjl | hjl
    · rw [List.getElem?_append_left hjl] at hj
      rw [vAt_ext hk.ext (hok.lt y (List.mem_of_getElem? hj))]
      exact ih.val j y hj
    · rw [List.getElem?_append_right hjl] at hj
      rcases hd : j - idx.length with _ | d
      · rw [hd] at hj
        simp at hj
        subst hj
        rw [show j = i by have := hok.len; omega]
        exact hnew.2
      · rw [hd] at hj; simp at hj
end Go.Proofs.Ytiehdnjcapjacaa
/- What folding leaves cannot be folded further. -/
namespace Go.Proofs.Ytiehdnjcapjacaa
open Go Go.AW

/-- A gate whose arguments are as Fold leaves them. -/
def CleanG (L : List Gate) (g : Gate) : Prop :=
  (4 ≤ g.kind → ∃ h, L[g.a.toNat]? = some h ∧ 3 ≤ h.kind ∧ (g.kind = 4 → h.kind ≠ 4)) ∧ (5 ≤ g.kind → ∃ h, L[g.b.toNat]? = some h ∧ 3 ≤ h.kind ∧ g.a < g.b)
structure Clean (L : List Gate) : Prop where
  arg : ∀ (i : Nat) (g : Gate), L[i]? = some g → CleanG L g
  one : ∀ (i j : Nat) (g : Gate), L[i]? = some g → L[j]? = some g → g.kind ≠ 3 → i = j
theorem CleanG.ext {L L' : List Gate} {g : Gate} (h : CleanG L g) (he : Ext L L') : CleanG L' g :=
  ⟨fun hk => let ⟨h0, h1, h2⟩ := h.1 hk; ⟨h0, he.get h1, h2⟩, fun hk => let ⟨h0, h1, h2⟩ := h.2 hk; ⟨h0, he.get h1, h2⟩⟩
theorem Clean.push {L : List Gate} {q : Gate} (h : Clean L) (hq : CleanG L q) (hn : q.kind = 3 ∨ q ∉ L) : Clean (L ++ [q]) := by
  have he : Ext L (L ++ [q]) := ⟨_, rfl⟩
  have cases_ : ∀ (i : Nat) (g : Gate), (L ++ [q])[i]? = some g → L[i]? = some g ∨ (i = L.length ∧ g = q) := by
    intro i g hg
    rcases Nat.lt_or_ge i L.length with hl | hl
    · rw [List.getElem?_append_left hl] at hg; exact .inl hg
    · rw [List.getElem?_append_right hl] at hg
      rcases hd : i - L.length with _ | d
      · rw [hd] at hg
        simp at hg
        exact .inr ⟨by omega, hg.symm⟩
      · rw [hd] at hg; simp at hg
  refine ⟨fun i g hg => ?_, fun i j g hi hj h3 => ?_⟩
  · rcases cases_ i g hg with h1 | ⟨_, rfl⟩
    · exact (h.arg i g h1).ext he
    · exact hq.ext he
  · rcases cases_ i g hi with h1 | ⟨h1, rfl⟩
    · rcases cases_ j g hj with h2 | ⟨h2, rfl⟩
      · exact h.one i j g h1 h2 h3
      · rcases hn with hn | hn
        · exact absurd hn h3
        · exact absurd (List.mem_of_getElem? h1) hn
    · rcases cases_ j g hj with h2 | ⟨h2, _⟩
      · rcases hn with hn | hn
        · exact absurd hn h3
        · exact absurd (List.mem_of_getElem? h2) hn
      · omega
theorem PutRel.clean {L L' : List Gate} {g : Gate} {x : Nat} (h : PutRel L g L' x) (hc : Clean L) (hg : CleanG L (swp g)) : Clean L' := by
  obtain ⟨_, ⟨rfl, _⟩ | ⟨rfl, _, hn⟩⟩ := h
  · exact hc
  · exact hc.push hg hn
theorem cst_clean {L L' : List Gate} {b : Bool} {x : Nat} (h : PutRel L (cstG b) L' x) (hc : Clean L) : Clean L' := by
  refine h.clean hc ?_
  cases b <;> exact ⟨fun hk => absurd hk (by decide), fun hk => absurd hk (by decide)⟩
theorem NotRel.clean {L L' : List Gate} {a x : Nat} (h : NotRel L a L' x) (hc : Clean L) (hL : Good L) : Clean L' := by
  obtain ⟨g, hg, ⟨_, h⟩ | ⟨_, h⟩ | ⟨_, _, rfl⟩ | ⟨hk, h⟩⟩ := h
  · exact cst_clean h hc
  · exact cst_clean h hc
  · exact hc
  · have hok := (hL a g hg).1
    refine h.clean hc ?_
    rw [show swp ⟨4, (a : Int), 0⟩ = ⟨4, (a : Int), 0⟩ by simp [swp, operands]]
    exact ⟨fun _ => ⟨g, by simpa using hg, by omega, fun _ => hk.2.2⟩, fun h5 => absurd h5 (by simp)⟩
theorem OutRel.clean {L L' : List Gate} {k : Int} {x y z : Nat} {gx : Gate} (h : OutRel L k x gx y L' z) (hc : Clean L) (hL : Good L) : Clean L' := by
  rcases h with ⟨_, _, rfl⟩ | ⟨_, _, rfl⟩ | ⟨_, h⟩
  · exact hc
  · exact hc
  · exact h.clean hc hL
theorem BinRel.clean {L L' : List Gate} {k : Int} {a b z : Nat} (h : BinRel L k a b L' z) (hk : k = 5 ∨ k = 6 ∨ k = 7) (hc : Clean L) (hL : Good L) : Clean L' := by
  obtain ⟨ga, gb, ha, hb, ⟨_, _, h⟩ | ⟨_, _, _, rfl⟩ | ⟨hne, h | ⟨_, h⟩ | ⟨⟨h1, h2⟩, h⟩⟩⟩ := h
  · exact cst_clean h hc
  · exact hc
  · exact h.clean hc hL
  · exact h.clean hc hL
  · have hoa := (hL a ga ha).1
    have hob := (hL b gb hb).1
    unfold Cst at h1 h2
    refine h.clean hc ?_
    unfold swp
    split
    · rename_i hs
      simp only at hs
      exact ⟨fun _ => ⟨gb, by simpa using hb, by omega, fun h4 => by simp only at h4; omega⟩, fun _ => ⟨ga, by simpa using ha, by omega, by simp only; omega⟩⟩
    · rename_i hs
      simp only [operands] at hs
      exact ⟨fun _ => ⟨ga, by simpa using ha, by omega, fun h4 => by simp only at h4; omega⟩, fun _ => ⟨gb, by simpa using hb, by omega, by simp only; omega⟩⟩
theorem FoldRel.clean {l : List Gate} (hl : Good l) : ∀ {i : Nat} {L : List Gate} {idx : List Nat}, FoldRel l i L idx → Clean L := by
  intro i L idx h
  induction h with
  | zero => exact ⟨(fun _ _ h => by simp at h), (fun _ _ _ h => by simp at h)⟩
  | step hr hg hs ih =>
    have hok := hr.ok hl
    have hgo := hl _ _ hg
    simp only [okGate, okArg, operands] at hgo
    unfold StepRel at hs
    split at hs
    · exact hs.clean ih hok.good
    · split at hs
      · rename_i h5
        exact hs.clean h5 ih hok.good
      · refine hs.clean ih ⟨fun hk => ?_, fun hk => ?_⟩
        · rw [swp_kind] at hk; omega
        · rw [swp_kind] at hk; omega
end Go.Proofs.Ytiehdnjcapjacaa
/- Folding makes no gate later. -/
namespace Go.Proofs.Ytiehdnjcapjacaa
open Go Go.AW

/-- All inputs come at 0. -/
def Zeros (ins : List Int) : Prop := ∀ k : Nat, ins.getD k 0 = 0
theorem zeros_rep (n : Nat) : Zeros (List.replicate n 0) := by
  intro k
  rw [List.getD_eq_getElem?_getD, List.getElem?_replicate]
  split <;> rfl
theorem touts_prefix {L M : List Gate} {ins : List Int} : ∀ {i : Nat}, i ≤ L.length → touts (L ++ M) ins i = touts L ins i
  | 0, _ => rfl
  | i + 1, h => by
    have hg : L[i]? = some L[i] := List.getElem?_eq_getElem (show i < L.length by omega)
    have hg' : (L ++ M)[i]? = some L[i] := by rw [List.getElem?_append_left (by omega)]; exact hg
    rw [touts_succ hg, touts_succ hg', touts_prefix (by omega), List.take_append_of_le_length (by omega)]
def tAt (L : List Gate) (ins : List Int) (x : Nat) : Int := (touts L ins L.length).getD x 0
theorem touts_pre {L : List Gate} {ins : List Int} {i j : Nat} (hi : i < j) (hj : j ≤ L.length) : (touts L ins j)[i]? = (touts L ins L.length)[i]? := by
  have key : ∀ d j, j + d = L.length → i < j → (touts L ins L.length)[i]? = (touts L ins j)[i]? := by
    intro d
    induction d with
    | zero => intro j hj _; rw [show j = L.length by omega]
    | succ d ih =>
      intro j hj hi
      rw [ih (j + 1) (by omega) (by omega), touts_succ (List.getElem?_eq_getElem (show j < L.length by omega)), List.getElem?_append_left (by rw [touts_length (by omega)]; exact hi)]
  exact (key (L.length - j) j (by omega) hi).symm
theorem tAt_at {L : List Gate} {ins : List Int} {x j : Nat} (hx : x < j) (hj : j ≤ L.length) : (touts L ins j).getD x 0 = tAt L ins x := by
  unfold tAt
  rw [List.getD_eq_getElem?_getD, List.getD_eq_getElem?_getD, touts_pre hx hj]
theorem tAt_ext {L L' : List Gate} {ins : List Int} {x : Nat} (h : Ext L L') (hx : x < L.length) : tAt L' ins x = tAt L ins x := by
  obtain ⟨M, rfl⟩ := h
  rw [← tAt_at (L := L ++ M) (j := L.length) hx (by simp), touts_prefix (Nat.le_refl _)]
  rfl
/-- When a gate is stable whose arguments lie in L. -/
def gt (L : List Gate) (ins : List Int) (g : Gate) : Int :=
  if g.kind = 4 then tAt L ins g.a.toNat + 10 else if g.kind = 5 ∨ g.kind = 6 ∨ g.kind = 7 then mx (tAt L ins g.a.toNat) (tAt L ins g.b.toNat) + 20 else 0
theorem tAt_gt {L : List Gate} {ins : List Int} {x : Nat} {g : Gate} (hz : Zeros ins) (hL : Good L) (hg : L[x]? = some g) : tAt L ins x = gt L ins g := by
  have hx := (List.getElem?_eq_some_iff.1 hg).1
  have hok := hL x g hg
  simp only [okGate, okArg, operands] at hok
  rw [← tAt_at (j := x + 1) (by omega) (by omega), touts_succ hg]
  have h1 : (touts L ins x ++ [tOf (touts L ins x) ins (nin (L.take x)) g]).getD x 0 = tOf (touts L ins x) ins (nin (L.take x)) g := by
    rw [List.getD_eq_getElem?_getD, List.getElem?_append_right (by rw [touts_length (by omega)]; exact Nat.le_refl _), touts_length (by omega)]
    simp
  rw [h1]
  unfold gt
  by_cases h4 : g.kind = 4
  · rw [tOf_not h4, if_pos h4, tAt_at (by omega) (by omega)]
  · by_cases h5 : g.kind = 5 ∨ g.kind = 6 ∨ g.kind = 7
    · rw [tOf_two h5, if_neg h4, if_pos h5, tAt_at (by omega) (by omega), tAt_at (by omega) (by omega)]
    · rw [if_neg h4, if_neg h5]
      by_cases h3 : g.kind = 3
      · rw [tOf_in h3]; exact hz _
      · rw [tOf_none h3 h4 h5]
theorem mx_comm (x y : Int) : mx x y = mx y x := by simp only [mx]; omega
theorem gt_swp (L : List Gate) (ins : List Int) (g : Gate) : gt L ins (swp g) = gt L ins g := by
  unfold swp
  split
  · rename_i hs
    simp only [operands] at hs
    have h4 : ¬ g.kind = 4 := by omega
    have h5 : g.kind = 5 ∨ g.kind = 6 ∨ g.kind = 7 := by omega
    simp only [gt, h4, h5, if_false, if_true]
    rw [mx_comm]
  · rfl
theorem gt_ext {L L' : List Gate} {ins : List Int} {g : Gate} (h : Ext L L') (hg : okGate L.length g) : gt L' ins g = gt L ins g := by
  simp only [okGate, okArg, operands] at hg
  unfold gt
  by_cases h4 : g.kind = 4
  · rw [if_pos h4, if_pos h4, tAt_ext h (by omega)]
  · by_cases h5 : g.kind = 5 ∨ g.kind = 6 ∨ g.kind = 7
    · rw [if_neg h4, if_neg h4, if_pos h5, if_pos h5, tAt_ext h (by omega), tAt_ext h (by omega)]
    · rw [if_neg h4, if_neg h4, if_neg h5, if_neg h5]
theorem PutRel.time {L L' : List Gate} {ins : List Int} {g : Gate} {x : Nat} (hz : Zeros ins) (h : PutRel L g L' x) (hL : Good L) (hg : okGate L.length g) : tAt L' ins x = gt L ins g := by
  have hk := h.keeps hL hg
  rw [tAt_gt hz hk.good h.1, gt_swp, gt_ext hk.ext hg]
theorem tAt_nonneg {L : List Gate} {ins : List Int} (hs : Small 65535 ins) (x : Nat) : 0 ≤ tAt L ins x := ((touts_small (l := L) hs L.length).get (by omega) x).1
theorem cst_time {L L' : List Gate} {ins : List Int} {b : Bool} {x : Nat} (hz : Zeros ins) (h : PutRel L (cstG b) L' x) (hL : Good L) : tAt L' ins x = 0 := by
  rw [h.time hz hL (cstG_ok _ _)]
  cases b <;> rfl
theorem NotRel.time {L L' : List Gate} {ins : List Int} {a x : Nat} (hz : Zeros ins) (hs : Small 65535 ins) (h : NotRel L a L' x) (hL : Good L) : tAt L' ins x ≤ tAt L ins a + 10 := by
  have h0 := tAt_nonneg (L := L) hs a
  obtain ⟨g, hg, ⟨_, h⟩ | ⟨_, h⟩ | ⟨h1, h2, rfl⟩ | ⟨_, h⟩⟩ := h
  · rw [cst_time hz h hL]; omega
  · rw [cst_time hz h hL]; omega
  · rw [tAt_gt hz hL hg, gt, if_pos h1, h2, Int.toNat_natCast]; omega
  · have hal := (List.getElem?_eq_some_iff.1 hg).1
    rw [h.time hz hL (by simp [okGate, okArg, operands]; omega)]
    simp [gt]
theorem OutRel.time {L L' : List Gate} {ins : List Int} {k : Int} {x y z : Nat} {gx : Gate} (hz : Zeros ins) (hs : Small 65535 ins) (h : OutRel L k x gx y L' z) (hL : Good L) : tAt L' ins z ≤ mx (tAt L ins x) (tAt L ins y) + 20 := by
  rcases h with ⟨_, rfl, rfl⟩ | ⟨_, rfl, rfl⟩ | ⟨_, h⟩
  · simp only [mx]; omega
  · simp only [mx]; omega
  · have := h.time hz hs hL
    simp only [mx]; omega
theorem BinRel.time {L L' : List Gate} {ins : List Int} {k : Int} {a b z : Nat} (hz : Zeros ins) (hs : Small 65535 ins) (h : BinRel L k a b L' z) (hk : k = 5 ∨ k = 6 ∨ k = 7) (hL : Good L) : tAt L' ins z ≤ mx (tAt L ins a) (tAt L ins b) + 20 := by
  have h0 := tAt_nonneg (L := L) hs a
  obtain ⟨ga, gb, ha, hb, ⟨_, _, h⟩ | ⟨rfl, _, rfl, rfl⟩ | ⟨_, h | ⟨_, h⟩ | ⟨_, h⟩⟩⟩ := h
  · rw [cst_time hz h hL]; simp only [mx]; omega
  · simp only [mx]; omega
  · exact h.time hz hs hL
  · rw [mx_comm]; exact h.time hz hs hL
  · have hal := (List.getElem?_eq_some_iff.1 ha).1
    have hbl := (List.getElem?_eq_some_iff.1 hb).1
    rw [h.time hz hL (by simp only [okGate, okArg, operands]; omega)]
    simp only [gt]
    rw [if_neg (by omega), if_pos hk]
    simp
theorem FoldRel.time {l : List Gate} {ins : List Int} (hz : Zeros ins) (hsm : Small 65535 ins) (hl : Good l) : ∀ {i : Nat} {L : List Gate} {idx : List Nat}, FoldRel l i L idx → ∀ (j x : Nat), idx[j]? = some x → tAt L ins x ≤ tAt l ins j := by
  intro i L idx h
  induction h with
  | zero => intro _ _ h; simp at h
  | step hr hg hs ih =>
    rename_i i L idx g L' x
    have hok := hr.ok hl
    have hgo := hl _ _ hg
    have hk := hs.keeps hok.good hgo
    have arg : ∀ a : Nat, a < i → tAt L ins (idx.getD a 0) ≤ tAt l ins a := fun a ha => by
      have hla : a < idx.length := by rw [hok.len]; exact ha
      rw [List.getD_eq_getElem?_getD, List.getElem?_eq_getElem hla]
      exact ih a _ (List.getElem?_eq_getElem hla)
    have hnew : tAt L' ins x ≤ tAt l ins i := by
      simp only [okGate, okArg, operands] at hgo
      rw [tAt_gt hz hl hg]
      unfold StepRel at hs
      split at hs
      · rename_i h4
        have h1 := hs.time hz hsm hok.good
        have h2 := arg g.a.toNat (by omega)
        rw [gt, if_pos h4]; omega
      · split at hs
        · rename_i h4 h5
          have h1 := hs.time hz hsm h5 hok.good
          have h2 := arg g.a.toNat (by omega)
          have h3 := arg g.b.toNat (by omega)
          rw [gt, if_neg h4, if_pos h5]
          simp only [mx] at h1 ⊢
          omega
        · rename_i h4 h5
          rw [hs.time hz hok.good (by simp only [okGate, okArg, operands]; omega), gt, if_neg h4, if_neg h5, gt, if_neg h4, if_neg h5]
          exact Int.le_refl 0
    intro j y hj
    rcases Nat.lt_or_ge j idx.length with hjl | hjl
    · rw [List.getElem?_append_left hjl] at hj
      rw [tAt_ext hk.ext (hok.lt y (List.mem_of_getElem? hj))]
      exact ih j y hj
    · rw [List.getElem?_append_right hjl] at hj
      rcases hd : j - idx.length with _ | d
      · rw [hd] at hj
        simp at hj
        subst hj
        rw [show j = i by have := hok.len; omega]
        exact hnew
      · rw [hd] at hj; simp at hj
end Go.Proofs.Ytiehdnjcapjacaa
/- What sweep computes, in plain Lean. -/
namespace Go.Proofs.Ytiehdnjcapjacaa
open Go Go.AW

/-- The gates that are kept are used. -/
def mark0 (n : Nat) (idx keep : List Nat) : Nat → List Bool
  | 0 => List.replicate n false
  | i + 1 => match keep[i]? with
    | some k => (mark0 n idx keep i).set (idx.getD k 0) true
    | none => mark0 n idx keep i
/-- One gate of the way down. -/
def markOne (L : List Gate) (u : List Bool) (i : Nat) : List Bool :=
  match L[i]? with
  | some g => if u.getD i false then
      (let u1 := if 0 < operands g.kind then u.set g.a.toNat true else u
       if 1 < operands g.kind then u1.set g.b.toNat true else u1) else u
  | none => u
/-- From the gate i - 1 down. -/
def mark1 (L : List Gate) : List Bool → Nat → List Bool
  | u, 0 => u
  | u, i + 1 => mark1 L (markOne L u i) i
/-- What is left of the first i gates, and their new numbers. -/
def swept (L : List Gate) (u : List Bool) : Nat → List Gate × List Nat
  | 0 => ([], [])
  | i + 1 => match L[i]? with
    | some g => if u.getD i false = false ∧ g.kind ≠ 3 then ((swept L u i).1, (swept L u i).2 ++ [0])
      else ((swept L u i).1 ++ [⟨g.kind, if 0 < operands g.kind then (((swept L u i).2.getD g.a.toNat 0 : Nat) : Int) else g.a, if 1 < operands g.kind then (((swept L u i).2.getD g.b.toNat 0 : Nat) : Int) else g.b⟩],
        (swept L u i).2 ++ [(swept L u i).1.length])
    | none => swept L u i
theorem mark0_length {n : Nat} {idx keep : List Nat} : ∀ i : Nat, (mark0 n idx keep i).length = n
  | 0 => by simp [mark0]
  | i + 1 => by
    unfold mark0
    split
    · rw [List.length_set, mark0_length i]
    · exact mark0_length i
theorem markOne_length (L : List Gate) (u : List Bool) (i : Nat) : (markOne L u i).length = u.length := by
  unfold markOne
  split
  · split
    · dsimp only
      split <;> split <;> simp
    · rfl
  · rfl
theorem mark1_length {L : List Gate} : ∀ (i : Nat) (u : List Bool), (mark1 L u i).length = u.length
  | 0, _ => rfl
  | i + 1, u => by rw [mark1, mark1_length i, markOne_length]
theorem swept_len {L : List Gate} {u : List Bool} : ∀ {i : Nat}, i ≤ L.length → (swept L u i).2.length = i
  | 0, _ => rfl
  | i + 1, h => by
    have hg : L[i]? = some L[i] := List.getElem?_eq_getElem (show i < L.length by omega)
    unfold swept
    rw [hg]
    dsimp only
    split
    · simp [swept_len (L := L) (u := u) (i := i) (by omega)]
    · simp [swept_len (L := L) (u := u) (i := i) (by omega)]
theorem set_get {u : List Bool} {x y : Nat} (h : u.getD y false = true) : (u.set x true).getD y false = true := by
  rw [List.getD_eq_getElem?_getD] at h ⊢
  rw [List.getElem?_set]
  split
  · split
    · rfl
    · rename_i h1 h2
      subst h1
      rw [List.getElem?_eq_none (by omega)] at h
      simp at h
  · exact h
theorem set_self {u : List Bool} {x : Nat} (h : x < u.length) : (u.set x true).getD x false = true := by
  rw [List.getD_eq_getElem?_getD, List.getElem?_set_self h]; rfl
theorem markOne_get {L : List Gate} {u : List Bool} {i y : Nat} (h : u.getD y false = true) : (markOne L u i).getD y false = true := by
  unfold markOne
  split
  · split
    · dsimp only
      split <;> split
      · exact set_get (set_get h)
      · exact set_get h
      · exact set_get h
      · exact h
    · exact h
  · exact h
theorem mark1_get {L : List Gate} {y : Nat} : ∀ (i : Nat) (u : List Bool), u.getD y false = true → (mark1 L u i).getD y false = true
  | 0, _, h => h
  | i + 1, u, h => by rw [mark1]; exact mark1_get i _ (markOne_get h)
theorem set_other {u : List Bool} {x y : Nat} (h : x ≠ y) : (u.set x true).getD y false = u.getD y false := by
  rw [List.getD_eq_getElem?_getD, List.getD_eq_getElem?_getD, List.getElem?_set_ne h]
theorem markOne_other {L : List Gate} {u : List Bool} {i y : Nat} (hL : Good L) (h : i ≤ y) : (markOne L u i).getD y false = u.getD y false := by
  unfold markOne
  split
  · rename_i g hg
    have hok := hL i g hg
    simp only [okGate, okArg] at hok
    split
    · dsimp only
      split <;> split
      · rw [set_other (by omega), set_other (by omega)]
      · rw [set_other (by omega)]
      · rw [set_other (by omega)]
      · rfl
    · rfl
  · rfl
theorem mark1_other {L : List Gate} {y : Nat} (hL : Good L) : ∀ (i : Nat) (u : List Bool), i ≤ y → (mark1 L u i).getD y false = u.getD y false
  | 0, _, _ => rfl
  | i + 1, u, h => by rw [mark1, mark1_other hL i _ (by omega), markOne_other hL (by omega)]
/-- The arguments of what is used are used. -/
theorem mark1_closed {L : List Gate} (hL : Good L) : ∀ (i : Nat) (u : List Bool), u.length = L.length → ∀ (j : Nat) (g : Gate), j < i → L[j]? = some g → (mark1 L u i).getD j false = true →
    (0 < operands g.kind → (mark1 L u i).getD g.a.toNat false = true) ∧ (1 < operands g.kind → (mark1 L u i).getD g.b.toNat false = true)
  | 0, _, _, _, _, h, _, _ => by omega
  | i + 1, u, hu, j, g, hj, hg, hm => by
    rw [mark1] at hm ⊢
    rcases Nat.lt_or_ge j i with hji | hji
    · exact mark1_closed hL i _ (by rw [markOne_length]; exact hu) j g hji hg hm
    · obtain rfl : j = i := by omega
      rw [mark1_other hL j _ (Nat.le_refl _), markOne_other hL (Nat.le_refl _)] at hm
      have hok := hL j g hg
      have hjl := (List.getElem?_eq_some_iff.1 hg).1
      simp only [okGate, okArg] at hok
      have hone : markOne L u j = (if 1 < operands g.kind then (if 0 < operands g.kind then u.set g.a.toNat true else u).set g.b.toNat true else (if 0 < operands g.kind then u.set g.a.toNat true else u)) := by
        unfold markOne
        rw [hg]
        dsimp only
        rw [if_pos hm]
      refine ⟨fun h0 => mark1_get j _ ?_, fun h1 => mark1_get j _ ?_⟩
      · rw [hone]
        split
        · exact set_get (set_self (by omega))
        · exact set_self (by omega)
      · rw [hone, if_pos h1]
        refine set_self ?_
        split
        · rw [List.length_set]; omega
        · omega
theorem swept_skip {L : List Gate} {u : List Bool} {i : Nat} {g : Gate} (hg : L[i]? = some g) (h : u.getD i false = false ∧ g.kind ≠ 3) : swept L u (i + 1) = ((swept L u i).1, (swept L u i).2 ++ [0]) := by
  rw [swept]
  rw [hg]
  dsimp only
  rw [if_pos h]
/-- A gate with its arguments' new numbers. -/
def renum (nm : List Nat) (g : Gate) : Gate := ⟨g.kind, if 0 < operands g.kind then ((nm.getD g.a.toNat 0 : Nat) : Int) else g.a, if 1 < operands g.kind then ((nm.getD g.b.toNat 0 : Nat) : Int) else g.b⟩
theorem swept_keep {L : List Gate} {u : List Bool} {i : Nat} {g : Gate} (hg : L[i]? = some g) (h : ¬ (u.getD i false = false ∧ g.kind ≠ 3)) :
    swept L u (i + 1) = ((swept L u i).1 ++ [renum (swept L u i).2 g], (swept L u i).2 ++ [(swept L u i).1.length]) := by
  rw [swept]
  rw [hg]
  dsimp only
  rw [if_neg h]
  rfl
/-- A gate that stays. -/
def Stays (L : List Gate) (u : List Bool) (i : Nat) : Prop := ∃ g, L[i]? = some g ∧ (u.getD i false = true ∨ g.kind = 3)
theorem swept_out_le {L : List Gate} {u : List Bool} : ∀ {i : Nat}, i ≤ L.length → (swept L u i).1.length ≤ i
  | 0, _ => Nat.le_refl _
  | i + 1, h => by
    have hg : L[i]? = some L[i] := List.getElem?_eq_getElem (show i < L.length by omega)
    have ih := swept_out_le (L := L) (u := u) (i := i) (by omega)
    by_cases hc : u.getD i false = false ∧ L[i].kind ≠ 3
    · rw [swept_skip hg hc]; simp only; omega
    · rw [swept_keep hg hc]; simp only [List.length_append, List.length_cons, List.length_nil]; omega
/-- Where a gate that stays lies. -/
theorem swept_at {L : List Gate} {u : List Bool} {j : Nat} {g : Gate} (hg : L[j]? = some g) (hs : ¬ (u.getD j false = false ∧ g.kind ≠ 3)) : ∀ {i : Nat}, j < i → i ≤ L.length →
    (swept L u i).2[j]? = some (swept L u j).1.length ∧ (swept L u i).1[(swept L u j).1.length]? = some (renum (swept L u j).2 g)
  | 0, h, _ => by omega
  | i + 1, h, hi => by
    have hgi : L[i]? = some L[i] := List.getElem?_eq_getElem (show i < L.length by omega)
    rcases Nat.lt_or_ge j i with hji | hji
    · obtain ⟨h1, h2⟩ := swept_at hg hs hji (by omega)
      by_cases hc : u.getD i false = false ∧ L[i].kind ≠ 3
      · rw [swept_skip hgi hc]
        exact ⟨by rw [List.getElem?_append_left (List.getElem?_eq_some_iff.1 h1).1]; exact h1, h2⟩
      · rw [swept_keep hgi hc]
        exact ⟨by rw [List.getElem?_append_left (List.getElem?_eq_some_iff.1 h1).1]; exact h1, by rw [List.getElem?_append_left (List.getElem?_eq_some_iff.1 h2).1]; exact h2⟩
    · obtain rfl : j = i := by omega
      rw [swept_keep hg hs]
      refine ⟨?_, ?_⟩
      · rw [List.getElem?_append_right (by rw [swept_len (by omega)]; exact Nat.le_refl _), swept_len (by omega)]; simp
      · simp
end Go.Proofs.Ytiehdnjcapjacaa
/- What folding leaves, by indices. -/
namespace Go.Proofs.Ytiehdnjcapjacaa
open Go Go.AW

theorem good_at {l : List Gate} (h : Good l) {i : Nat} (hi : i < l.length) : okGate i (l.getD i default) := h i _ (getD_at hi)
theorem clean_at {l : List Gate} (h : Clean l) {i : Nat} (hi : i < l.length) :
    (4 ≤ (l.getD i default).kind → 3 ≤ (l.getD (l.getD i default).a.toNat default).kind ∧ ((l.getD i default).kind = 4 → (l.getD (l.getD i default).a.toNat default).kind ≠ 4)) ∧
    (5 ≤ (l.getD i default).kind → 3 ≤ (l.getD (l.getD i default).b.toNat default).kind ∧ (l.getD i default).a < (l.getD i default).b) := by
  obtain ⟨h1, h2⟩ := h.arg i _ (getD_at (d := default) hi)
  refine ⟨fun hk => ?_, fun hk => ?_⟩
  · obtain ⟨q, hq, h3, h4⟩ := h1 hk
    rw [getD_of hq]; exact ⟨h3, h4⟩
  · obtain ⟨q, hq, h3, h4⟩ := h2 hk
    rw [getD_of hq]; exact ⟨h3, h4⟩
theorem clean_two {l : List Gate} (h : Clean l) {i j : Nat} (hi : i < l.length) (hj : j < i) (h1 : (l.getD i default).kind = (l.getD j default).kind) (h3 : (l.getD i default).kind ≠ 3)
    (h2 : ((l.getD i default).a = (l.getD j default).a ∧ (l.getD i default).b = (l.getD j default).b) ∨ (5 ≤ (l.getD i default).kind ∧ (l.getD i default).a = (l.getD j default).b ∧ (l.getD i default).b = (l.getD j default).a)) : False := by
  have hjl : j < l.length := by omega
  rcases h2 with ⟨ha, hb⟩ | ⟨h5, ha, hb⟩
  · have hg : l.getD i default = l.getD j default := by
      cases hq : l.getD i default
      cases hr : l.getD j default
      simp only [hq, hr] at h1 ha hb
      simp [h1, ha, hb]
    have := h.one i j (l.getD i default) (getD_at hi) (by rw [hg]; exact getD_at hjl) h3
    omega
  · have hc := ((clean_at h hi).2 h5).2
    have hd := ((clean_at h hjl).2 (by omega)).2
    omega
/-- What is used behind both ways. -/
def swUsed (L : List Gate) (idx keep : List Nat) : List Bool := mark1 L (mark0 L.length idx keep keep.length) L.length
def swOut (L : List Gate) (idx keep : List Nat) : List Gate := (swept L (swUsed L idx keep) L.length).1
def swKept (L : List Gate) (idx keep : List Nat) : List Nat := keep.map (fun k => (swept L (swUsed L idx keep) L.length).2.getD (idx.getD k 0) 0)
/-- What the sweep leaves: each gate is an input, kept, or an argument. -/
def AllUsed (l : List Gate) (keep : List Nat) : Prop :=
  ∀ i, i < l.length → (l.getD i default).kind = 3 ∨ i ∈ keep ∨ ∃ j, j < l.length ∧ ((4 ≤ (l.getD j default).kind ∧ (l.getD j default).a.toNat = i) ∨ (5 ≤ (l.getD j default).kind ∧ (l.getD j default).b.toNat = i))
theorem mark_take {u : List Bool} {keep : List Nat} {i : Nat} (h : ∀ x, x ∈ keep.take i → u.getD x false = true) (hi : i < keep.length) (hk : keep.getD i 0 < u.length) :
    ∀ x, x ∈ keep.take (i + 1) → (u.set (keep.getD i 0) true).getD x false = true := by
  intro x hx
  rcases (mem_take_succ (d := 0) hi).1 hx with hx | rfl
  · exact set_get (h x hx)
  · exact set_self hk
theorem mark_all {u : List Bool} {keep : List Nat} {i : Nat} (h : ∀ x, x ∈ keep.take i → u.getD x false = true) (hi : keep.length ≤ i) : ∀ x, x ∈ keep → u.getD x false = true := by
  rw [List.take_of_length_le hi] at h; exact h
/-- One gate marks its arguments. -/
def Marks (l : List Gate) (u u' : List Bool) (i : Nat) : Prop :=
  (∀ x, u.getD x false = true → u'.getD x false = true) ∧ (4 ≤ (l.getD i default).kind → u'.getD (l.getD i default).a.toNat false = true) ∧ (5 ≤ (l.getD i default).kind → u'.getD (l.getD i default).b.toNat false = true)
theorem marks_none {l : List Gate} {u : List Bool} {i : Nat} (h : ¬ 4 ≤ (l.getD i default).kind) : Marks l u u i := ⟨fun _ h => h, fun h4 => absurd h4 h, fun h5 => by omega⟩
theorem marks_one {l : List Gate} {u : List Bool} {i : Nat} (h : ¬ 5 ≤ (l.getD i default).kind) (ha : (l.getD i default).a.toNat < u.length) : Marks l u (u.set (l.getD i default).a.toNat true) i :=
  ⟨fun _ h => set_get h, fun _ => set_self ha, fun h5 => absurd h5 h⟩
theorem marks_two {l : List Gate} {u : List Bool} {i : Nat} (ha : (l.getD i default).a.toNat < u.length) (hb : (l.getD i default).b.toNat < u.length) : Marks l u ((u.set (l.getD i default).a.toNat true).set (l.getD i default).b.toNat true) i :=
  ⟨fun _ h => set_get (set_get h), fun _ => set_get (set_self ha), fun _ => set_self (by rw [List.length_set]; exact hb)⟩
theorem used_end {l : List Gate} {keep : List Nat} {u : List Bool} {n : Nat} (hn : l.length ≤ n) (hv : ∀ x, x ∈ keep → u.getD x false = true)
    (hw : ∀ j, j < n → (4 ≤ (l.getD j default).kind → u.getD (l.getD j default).a.toNat false = true) ∧ (5 ≤ (l.getD j default).kind → u.getD (l.getD j default).b.toNat false = true)) (hu : AllUsed l keep)
    {i : Nat} (hi : i < l.length) (h3 : (l.getD i default).kind ≠ 3) (hf : u.getD i false = false) : False := by
  have : u.getD i false = true := by
    rcases hu i hi with h | h | ⟨j, hj, ⟨h4, rfl⟩ | ⟨h5, rfl⟩⟩
    · exact absurd h h3
    · exact hv i h
    · exact (hw j (by omega)).1 h4
    · exact (hw j (by omega)).2 h5
  rw [this] at hf; cases hf
theorem mark0_succ {N n : Nat} {idx keep : List Nat} (h : n < keep.length) : (mark0 N idx keep n).set (idx.getD (keep.getD n 0) 0) true = mark0 N idx keep (n + 1) := by
  rw [mark0, getD_at (d := 0) h]
theorem markOne_no {L : List Gate} {u : List Bool} {i : Nat} (h : u.getD i false = false) : u = markOne L u i := by
  unfold markOne
  split
  · rw [h]; rfl
  · rfl
theorem markOne_eq {L : List Gate} {u u1 : List Bool} {i : Nat} (hi : i < L.length) (hu : u.getD i false = true)
    (h1 : (0 < operands (L.getD i default).kind ∧ u1 = u.set (L.getD i default).a.toNat true) ∨ (¬ 0 < operands (L.getD i default).kind ∧ u1 = u)) :
    markOne L u i = if 1 < operands (L.getD i default).kind then u1.set (L.getD i default).b.toNat true else u1 := by
  unfold markOne
  rw [getD_at (d := default) hi]
  dsimp only
  rw [if_pos hu]
  rcases h1 with ⟨h, rfl⟩ | ⟨h, rfl⟩
  · rw [if_pos h]
  · rw [if_neg h]
theorem mark1_step {L : List Gate} {u : List Bool} {i : Int} (h : 0 ≤ i) : mark1 L (markOne L u i.toNat) (i - 1 + 1).toNat = mark1 L u (i + 1).toNat := by
  rw [show (i + 1).toNat = i.toNat + 1 by omega, show (i - 1 + 1).toNat = i.toNat by omega]; rfl
theorem swept_no {L : List Gate} {u : List Bool} {m : Nat} {out : List Gate} {num : List Nat} (ho : out = (swept L u m).1) (hn : num = (swept L u m).2 ++ List.replicate (L.length - m) 0) (hm : m < L.length)
    (hu : u.getD m false = false) (h3 : (L.getD m default).kind ≠ 3) : out = (swept L u (m + 1)).1 ∧ num = (swept L u (m + 1)).2 ++ List.replicate (L.length - (m + 1)) 0 := by
  rw [swept_skip (getD_at (d := default) hm) ⟨hu, h3⟩]
  refine ⟨ho, ?_⟩
  rw [hn, show L.length - m = (L.length - (m + 1)) + 1 by omega, List.replicate_succ]
  simp
theorem swept_yes {L : List Gate} {u : List Bool} {m : Nat} {out : List Gate} {num : List Nat} {a b : Int} (hL : Good L) (ho : out = (swept L u m).1) (hn : num = (swept L u m).2 ++ List.replicate (L.length - m) 0) (hm : m < L.length)
    (hu : (u.getD m false = false ∧ ¬ (L.getD m default).kind ≠ 3) ∨ u.getD m false = true)
    (ha : (0 < operands (L.getD m default).kind ∧ a = (((num.set m out.length).getD (L.getD m default).a.toNat 0 : Nat) : Int)) ∨ (¬ 0 < operands (L.getD m default).kind ∧ a = (L.getD m default).a))
    (hb : (1 < operands (L.getD m default).kind ∧ b = (((num.set m out.length).getD (L.getD m default).b.toNat 0 : Nat) : Int)) ∨ (¬ 1 < operands (L.getD m default).kind ∧ b = (L.getD m default).b)) :
    out ++ [⟨(L.getD m default).kind, a, b⟩] = (swept L u (m + 1)).1 ∧ num.set m out.length = (swept L u (m + 1)).2 ++ List.replicate (L.length - (m + 1)) 0 := by
  have hsl := swept_len (L := L) (u := u) (i := m) (by omega)
  have hok := good_at hL hm
  simp only [okGate, okArg] at hok
  have hlow : ∀ x : Nat, x < m → (num.set m out.length).getD x 0 = (swept L u m).2.getD x 0 := by
    intro x hx
    rw [lset_ne (by omega), hn, getD_app_left (by omega)]
  rw [swept_keep (getD_at (d := default) hm) (by rintro ⟨h1, h2⟩; rcases hu with ⟨_, h⟩ | h; exact h h2; rw [h] at h1; cases h1)]
  refine ⟨?_, ?_⟩
  · rw [ho]
    simp only [renum]
    congr 2
    congr 1
    · rcases ha with ⟨h, rfl⟩ | ⟨h, rfl⟩
      · rw [if_pos h, hlow _ (by omega)]
      · rw [if_neg h]
    · rcases hb with ⟨h, rfl⟩ | ⟨h, rfl⟩
      · rw [if_pos h, hlow _ (by omega)]
      · rw [if_neg h]
  · rw [hn, ho, show L.length - m = (L.length - (m + 1)) + 1 by omega, List.replicate_succ, List.set_append_right _ _ (by omega), hsl, Nat.sub_self]
    simp
theorem map_take_step {α β : Type} {f : α → β} {l : List α} {i : Nat} {d : α} {r : List β} (hr : r = (l.take i).map f) (h : i < l.length) : r ++ [f (l.getD i d)] = (l.take (i + 1)).map f := by
  rw [take_succ_getD (d := d) h, List.map_append, hr]; rfl
theorem wf_in64 {n : Int} (h : -9223372036854775808 ≤ n ∧ n ≤ 9223372036854775807) : (Lit.int .i64 n).wf = true := by
  simp only [Lit.wf, IntKind.min, IntKind.max, IntKind.signed, IntKind.bits]
  simp
  omega
theorem good_wf {l : List Gate} (h : Good l) (hl : l.length ≤ 1000) {i : Nat} (hi : i < l.length) : (l.getD i default).wf := by
  have hg := good_at h hi
  simp only [okGate, okArg] at hg
  refine ⟨wf_small (by omega), ?_, ?_⟩
  · by_cases hk : 0 < operands (l.getD i default).kind
    · have := hg.2.1.1 hk; exact wf_in64 (by omega)
    · rw [hg.2.1.2 hk]; exact wf_in64 (by omega)
  · by_cases hk : 1 < operands (l.getD i default).kind
    · have := hg.2.2.1 hk; exact wf_in64 (by omega)
    · rw [hg.2.2.2 hk]; exact wf_in64 (by omega)
theorem idx_lt {L : List Gate} {idx : List Nat} {m n : Nat} (h : FoldOk m L (idx.take m)) (hn : idx.length = n) {x : Nat} (hx : x < m) : x < n ∧ idx.getD x 0 < L.length := by
  have h1 : x < n := by have := h.len; rw [List.length_take] at this; omega
  refine ⟨h1, ?_⟩
  rw [← getD_take (l := idx) (n := m) hx]
  exact h.lt _ (mem_getD (by rw [h.len]; exact hx))
section
variable {l L L' : List Gate} {idx : List Nat} {m x : Nat}
theorem take_set_self (hm : m < idx.length) : (idx.set m x).take (m + 1) = idx.take m ++ [x] := by
  rw [List.take_add_one, List.getElem?_set_self hm, List.take_set_of_le (Nat.le_refl _)]; rfl
theorem fold_step (h : FoldRel l m L (idx.take m)) (hm : m < l.length) (hi : m < idx.length) (hs : StepRel (l.getD m default) L (idx.take m) L' x) : FoldRel l (m + 1) L' ((idx.set m x).take (m + 1)) := by
  rw [take_set_self hi]
  exact .step h (getD_at hm) hs
theorem fold_not (h : FoldRel l m L (idx.take m)) (hm : m < l.length) (hi : m < idx.length) (hk : (l.getD m default).kind = 4) (ha : (l.getD m default).a.toNat < m) (hs : NotRel L (idx.getD (l.getD m default).a.toNat 0) L' x) :
    FoldRel l (m + 1) L' ((idx.set m x).take (m + 1)) := by
  refine fold_step h hm hi ?_
  rw [StepRel, if_pos hk, getD_take ha]; exact hs
theorem fold_bin (h : FoldRel l m L (idx.take m)) (hm : m < l.length) (hi : m < idx.length) (hk : (l.getD m default).kind = 5 ∨ (l.getD m default).kind = 6 ∨ (l.getD m default).kind = 7) (ha : (l.getD m default).a.toNat < m) (hb : (l.getD m default).b.toNat < m)
    (hs : BinRel L (l.getD m default).kind (idx.getD (l.getD m default).a.toNat 0) (idx.getD (l.getD m default).b.toNat 0) L' x) : FoldRel l (m + 1) L' ((idx.set m x).take (m + 1)) := by
  refine fold_step h hm hi ?_
  rw [StepRel, if_neg (by omega), if_pos hk, getD_take ha, getD_take hb]; exact hs
theorem fold_put (h : FoldRel l m L (idx.take m)) (hm : m < l.length) (hi : m < idx.length) (hk : ¬ (l.getD m default).kind = 4) (hk2 : ¬ ((l.getD m default).kind = 5 ∨ (l.getD m default).kind = 6 ∨ (l.getD m default).kind = 7))
    (hs : PutRel L (l.getD m default) L' x) : FoldRel l (m + 1) L' ((idx.set m x).take (m + 1)) := by
  refine fold_step h hm hi ?_
  rw [StepRel, if_neg hk, if_neg hk2]; exact hs
end
/-- What Fold returns. -/
def FoldQ (l : List Gate) (keep : List Nat) (r : X) (o : List Go.AW.Obj) : Prop :=
  ∃ L idx, FoldRel l l.length L idx ∧ r = .tup [.uni 3 ((swOut L idx keep).map Gate.row), .uni 1 ((swKept L idx keep).map nrow)] ∧ o = []
end Go.Proofs.Ytiehdnjcapjacaa
/- The walk through the sweep. -/
namespace Go.Proofs.Ytiehdnjcapjacaa
open Go Go.AW Go.Proofs



set_option maxHeartbeats 1000000 in
theorem sweep_spec {L : List Gate} {T : List (Gate × Nat)} {idx keep : List Nat} (hl : L.length ≤ 1048576) (hkl0 : keep.length ≤ 1048576) (hgood : Good L) (hkeep : ∀ x ∈ keep, x < idx.length) (hidx : ∀ x, x < idx.length → idx.getD x 0 < L.length) : ACalls Try.prog 28 [.ptr 0 0 0 0, .fz 1 (idx.map nrow), .fz 1 (keep.map nrow)] (fobjs L T) [0, 1, 2] (fun r o => r = .tup [.uni 3 ((swOut L idx keep).map Gate.row), .uni 1 ((swKept L idx keep).map nrow)] ∧ o = fobjs L T) := by
  refine ACalls.of Try.func28 rfl rfl rfl (n := 152) (by decide) (Nat.le_of_ble_eq_true rfl) ?_
  have hkl := fun (i : Nat) (h : i < keep.length) => hkeep _ (mem_getD (d := 0) h)
  refine AWp.seq ?_
  refine AWp.region ?_
  refine AOps.val (Y.assign rfl rfl) (by decide) ?_
  refine AOps.val (Y.assign rfl rfl) (by decide) ?_
  refine AOps.nil ?_
  refine AWp.seq ?_
  refine AWp.region ?_
  refine AOps.val (Y.move rfl rfl) (by decide) ?_
  refine AOps.val (Y.nilCheck rfl rfl) (by decide) ?_
  refine AOps.val (Y.fieldAddr fl61_0 rfl rfl) (by decide) ?_
  refine AOps.val (Y.load sh22 rfl rfl rfl rfl) (by decide) ?_
  refine AOps.val (Y.len (n := L.length) sl22 rfl rfl) (by decide) ?_
  refine AOps.makeSlice (n := L.length) sl27 ze4 rfl rfl rfl rfl (by first | omega | (simp [-List.getD_eq_getElem?_getD]; done) | (simp [-List.getD_eq_getElem?_getD]; omega)) (by first | omega | (simp [-List.getD_eq_getElem?_getD]; done) | (simp [-List.getD_eq_getElem?_getD]; omega)) (by decide) ?_
  refine AOps.assignX rfl (by decide) ?_
  refine AOps.sh (Sh.adoptE (d := 8) (n := L.length) 108 ((List.replicate L.length false).map brow) rfl (by first | rfl | exact rep_map rfl) (len_map (by simp)) (by decide)) ?_
  refine AOps.nil ?_
  refine AWp.seq ?_
  refine AWp.seq ?_
  refine AWp.region ?_
  refine AOps.val (Y.move rfl rfl) (by decide) ?_
  refine AOps.val (Y.len (n := keep.length) sl42 rfl (congrArg some (List.length_map ..))) (by decide) ?_
  refine AOps.val (Y.move rfl rfl) (by decide) ?_
  refine AOps.nil ?_
  refine AWp.block ?_
  refine AWp.loop2 (fun (n_3 : Nat) (used_3 : List Bool) => ⟨[(0, .ptr 0 0 0 0), (1, .fz 1 (idx.map nrow)), (2, .fz 1 (keep.map nrow)), (8, .slc 108 1 0 L.length), (26, .fz 1 (keep.map nrow)), (27, .v (.int .i64 (keep.length : Nat))), (28, .v (.int .i64 (n_3 : Int)))], [(0, .cells [.slc 1 3 0 L.length, .mref 2]), (1, .rows 3 (L.map Gate.row)), (2, .tab (T.map ent)), (108, .rows 1 (used_3.map brow))]⟩) (fun (n_3 : Nat) (used_3 : List Bool) => (used_3.length = L.length) ∧ ((n_3 : Int) ≤ (keep.length : Nat)) ∧ (used_3 = mark0 L.length idx keep n_3)) (fun (n_3 : Nat) (used_3 : List Bool) => ((keep.length : Nat) - (n_3 : Int)).toNat) 0 (List.replicate L.length false) (⟨by first | omega | (simp [-List.getD_eq_getElem?_getD]; done) | (simp [-List.getD_eq_getElem?_getD]; omega), by first | omega | (simp [-List.getD_eq_getElem?_getD]; done) | (simp [-List.getD_eq_getElem?_getD]; omega), rfl⟩) (Le.mk (SubL.cons rfl (SubL.cons rfl (SubL.cons rfl (SubL.cons rfl (SubL.cons rfl (SubL.cons rfl (SubL.cons (look_int rfl (by first | rfl | omega)) (SubL.nil)))))))) (SubL.cons rfl (SubL.cons rfl (SubL.cons rfl (SubL.cons rfl (SubL.nil)))))) (fun n_3 used_3 hI3 => ?_)
  obtain ⟨hl108, hb3, hu⟩ := hI3
  refine AWp.seq ?_
  refine AWp.region ?_
  refine AOps.val (Y.lss rfl rfl) (by decide) ?_
  refine AOps.nil ?_
  refine AWp.seq ?_
  refine AWp.condD rfl (fun c29 => ?_) (fun c29 => ?_)
  · have hk1 := hkl n_3 (by omega)
    have hk2 := hidx _ hk1
    refine AWp.skip ?_
    refine AWp.seq ?_
    refine AWp.block ?_
    refine AWp.seq ?_
    refine AWp.region ?_
    refine AOps.val (Y.indexF (m := n_3) sl42 rfl rfl (by first | rfl | omega) (row_getD (d := 0) (by first | omega | (simp [-List.getD_eq_getElem?_getD]; done) | (simp [-List.getD_eq_getElem?_getD]; omega)))) (by decide) ?_
    refine AOps.val (Y.load sh3 rfl rfl rfl rfl) (by decide) ?_
    refine AOps.val (Y.assign rfl rfl) (by decide) ?_
    refine AOps.nil ?_
    refine AWp.region ?_
    refine AOps.val (Y.move rfl rfl) (by decide) ?_
    refine AOps.val (Y.move rfl rfl) (by decide) ?_
    refine AOps.val (Y.move rfl rfl) (by decide) ?_
    refine AOps.val (Y.indexF (m := keep.getD n_3 0) sl42 rfl rfl (by first | rfl | omega) (row_getD (d := 0) (by first | omega | (simp [-List.getD_eq_getElem?_getD]; done) | (simp [-List.getD_eq_getElem?_getD]; omega)))) (by decide) ?_
    refine AOps.val (Y.load sh3 rfl rfl rfl rfl) (by decide) ?_
    refine AOps.val (Y.indexO (m := idx.getD (keep.getD n_3 0) 0) sl27 rfl rfl (by first | rfl | omega) (by first | omega | (simp [-List.getD_eq_getElem?_getD]; done) | (simp [-List.getD_eq_getElem?_getD]; omega))) (by decide) ?_
    refine AOps.storeE ((used_3.set (idx.getD (keep.getD n_3 0) 0) true).map brow) si4 rfl rfl rfl rfl rfl rfl rfl (row_getD0 (d := false) (by first | omega | (simp [-List.getD_eq_getElem?_getD]; done) | (simp [-List.getD_eq_getElem?_getD]; omega))) (Nat.le_of_ble_eq_true rfl) (set_map0 rfl) ?_
    refine AOps.nil ?_
    refine AWp.region ?_
    refine AOps.val (Y.addI rfl rfl (by first | omega | (simp [-List.getD_eq_getElem?_getD]; done) | (simp [-List.getD_eq_getElem?_getD]; omega))) (by decide) ?_
    refine AOps.val (Y.move rfl rfl) (by decide) ?_
    refine AOps.nil ?_
    exact ⟨n_3 + 1, used_3.set (idx.getD (keep.getD n_3 0) 0) true, ⟨by first | omega | (simp [-List.getD_eq_getElem?_getD]; done) | (simp [-List.getD_eq_getElem?_getD]; omega), by first | omega | (simp [-List.getD_eq_getElem?_getD]; done) | (simp [-List.getD_eq_getElem?_getD]; omega), by rw [hu, mark0_succ (by omega)]⟩, by omega, Le.mk (SubL.cons rfl (SubL.cons rfl (SubL.cons rfl (SubL.cons rfl (SubL.cons rfl (SubL.cons rfl (SubL.cons (look_int rfl (by first | rfl | omega)) (SubL.nil)))))))) (SubL.cons rfl (SubL.cons rfl (SubL.cons rfl (SubL.cons rfl (SubL.nil)))))⟩
  · refine AWp.exit ?_
    refine AWp.seq ?_
    refine AWp.seq ?_
    refine AWp.region ?_
    refine AOps.val (Y.move rfl rfl) (by decide) ?_
    refine AOps.val (Y.nilCheck rfl rfl) (by decide) ?_
    refine AOps.val (Y.fieldAddr fl61_0 rfl rfl) (by decide) ?_
    refine AOps.val (Y.load sh22 rfl rfl rfl rfl) (by decide) ?_
    refine AOps.val (Y.len (n := L.length) sl22 rfl rfl) (by decide) ?_
    refine AOps.val (Y.subI rfl rfl (by first | omega | (simp [-List.getD_eq_getElem?_getD]; done) | (simp [-List.getD_eq_getElem?_getD]; omega))) (by decide) ?_
    refine AOps.val (Y.assign rfl rfl) (by decide) ?_
    refine AOps.nil ?_
    refine AWp.block ?_
    refine AWp.loop2 (fun (i_8 : Int) (used_8 : List Bool) => ⟨[(0, .ptr 0 0 0 0), (1, .fz 1 (idx.map nrow)), (2, .fz 1 (keep.map nrow)), (8, .slc 108 1 0 L.length), (11, .v (.int .i64 i_8))], [(0, .cells [.slc 1 3 0 L.length, .mref 2]), (1, .rows 3 (L.map Gate.row)), (2, .tab (T.map ent)), (108, .rows 1 (used_8.map brow))]⟩) (fun (i_8 : Int) (used_8 : List Bool) => (used_8.length = L.length) ∧ (-1 ≤ i_8 ∧ i_8 < L.length) ∧ (mark1 L used_8 (i_8 + 1).toNat = mark1 L (mark0 L.length idx keep keep.length) L.length)) (fun (i_8 : Int) (used_8 : List Bool) => (i_8 + 1).toNat) ((L.length : Nat) - 1) used_3 (⟨by first | omega | (simp [-List.getD_eq_getElem?_getD]; done) | (simp [-List.getD_eq_getElem?_getD]; omega), by omega, by rw [hu, show ((L.length : Int) - 1 + 1).toNat = L.length by omega, show n_3 = keep.length by omega]⟩) (Le.mk (SubL.cons rfl (SubL.cons rfl (SubL.cons rfl (SubL.cons rfl (SubL.cons (look_int rfl (by first | rfl | omega)) (SubL.nil)))))) (SubL.cons rfl (SubL.cons rfl (SubL.cons rfl (SubL.cons rfl (SubL.nil)))))) (fun i_8 used_8 hI8 => ?_)
    obtain ⟨hl108, hi, hv⟩ := hI8
    refine AWp.seq ?_
    refine AWp.seq ?_
    refine AWp.region ?_
    refine AOps.val (Y.move rfl rfl) (by decide) ?_
    refine AOps.val (Y.geq rfl rfl) (by decide) ?_
    refine AOps.nil ?_
    refine AWp.condD rfl (fun c46 => ?_) (fun c46 => ?_)
    · have hg1 := good_at hgood (show i_8.toNat < L.length by omega)
      simp only [okGate, okArg] at hg1
      refine AWp.skip ?_
      refine AWp.join1 (fun (used_j9 : List Bool) => ⟨[(0, .ptr 0 0 0 0), (1, .fz 1 (idx.map nrow)), (2, .fz 1 (keep.map nrow)), (8, .slc 108 1 0 L.length), (11, .v (.int .i64 i_8))], [(0, .cells [.slc 1 3 0 L.length, .mref 2]), (1, .rows 3 (L.map Gate.row)), (2, .tab (T.map ent)), (108, .rows 1 (used_j9.map brow))]⟩) (fun (used_j9 : List Bool) => (used_j9.length = L.length) ∧ (used_j9 = markOne L used_8 i_8.toNat)) ?_ (fun used_j9 hJx9 => ?_)
      · refine AWp.block ?_
        refine AWp.seq ?_
        refine AWp.region ?_
        refine AOps.val (Y.move rfl rfl) (by decide) ?_
        refine AOps.val (Y.nilCheck rfl rfl) (by decide) ?_
        refine AOps.val (Y.fieldAddr fl61_0 rfl rfl) (by decide) ?_
        refine AOps.val (Y.load sh22 rfl rfl rfl rfl) (by decide) ?_
        refine AOps.val (Y.move rfl rfl) (by decide) ?_
        refine AOps.val (Y.indexO (m := (i_8).toNat) sl22 rfl rfl (by first | omega | (simp [-List.getD_eq_getElem?_getD]; done) | (simp [-List.getD_eq_getElem?_getD]; omega)) (by first | omega | (simp [-List.getD_eq_getElem?_getD]; done) | (simp [-List.getD_eq_getElem?_getD]; omega))) (by decide) ?_
        refine AOps.val (Y.loadA sh38 rfl (row_getD0 (d := default) (by first | omega | (simp [-List.getD_eq_getElem?_getD]; done) | (simp [-List.getD_eq_getElem?_getD]; omega))) (Nat.le_of_ble_eq_true rfl) rfl rfl) (by decide) ?_
        refine AOps.alloc 112 ze38 rfl rfl (by decide) ?_
        refine AOps.storeC si38 rfl rfl rfl rfl rfl rfl (Nat.le_of_ble_eq_true rfl) rfl ?_
        refine AOps.nil ?_
        refine AWp.seq ?_
        refine AWp.seq ?_
        refine AWp.region ?_
        refine AOps.val (Y.move rfl rfl) (by decide) ?_
        refine AOps.val (Y.move rfl rfl) (by decide) ?_
        refine AOps.val (Y.indexO (m := (i_8).toNat) sl27 rfl rfl (by first | omega | (simp [-List.getD_eq_getElem?_getD]; done) | (simp [-List.getD_eq_getElem?_getD]; omega)) (by first | omega | (simp [-List.getD_eq_getElem?_getD]; done) | (simp [-List.getD_eq_getElem?_getD]; omega))) (by decide) ?_
        refine AOps.val (Y.load sh4 rfl (row_getD0 (d := false) (by first | omega | (simp [-List.getD_eq_getElem?_getD]; done) | (simp [-List.getD_eq_getElem?_getD]; omega))) rfl rfl) (by decide) ?_
        refine AOps.val (Y.not rfl) (by decide) ?_
        refine AOps.nil ?_
        refine AWp.cond rfl (fun c60 => ?_) (fun c60 => ?_)
        · replace c60 : (used_8.getD ((i_8).toNat) false) = false := by simpa using c60
          refine AWp.exit ?_
          exact ⟨used_8, ⟨by first | omega | (simp [-List.getD_eq_getElem?_getD]; done) | (simp [-List.getD_eq_getElem?_getD]; omega), markOne_no c60⟩, Le.mk (SubL.cons rfl (SubL.cons rfl (SubL.cons rfl (SubL.cons rfl (SubL.cons rfl (SubL.nil)))))) (SubL.cons rfl (SubL.cons rfl (SubL.cons rfl (SubL.cons rfl (SubL.nil)))))⟩
        · replace c60 : (used_8.getD ((i_8).toNat) false) = true := by simpa using c60
          refine AWp.skip ?_
          refine AWp.join1 (fun (used_j14 : List Bool) => ⟨[(0, .ptr 0 0 0 0), (1, .fz 1 (idx.map nrow)), (2, .fz 1 (keep.map nrow)), (8, .slc 108 1 0 L.length), (11, .v (.int .i64 i_8)), (12, .ptr 112 0 0 0)], [(0, .cells [.slc 1 3 0 L.length, .mref 2]), (1, .rows 3 (L.map Gate.row)), (2, .tab (T.map ent)), (108, .rows 1 (used_j14.map brow)), (112, .cells [.v (.int .i64 ((L.getD ((i_8).toNat) default).kind)), .v (.int .i64 ((L.getD ((i_8).toNat) default).a)), .v (.int .i64 ((L.getD ((i_8).toNat) default).b))])]⟩) (fun (used_j14 : List Bool) => (used_j14.length = L.length) ∧ (((0 < (operands ((L.getD ((i_8).toNat) default).kind))) ∧ (used_j14 = (used_8.set (((L.getD ((i_8).toNat) default).a).toNat) true))) ∨ ((¬ (0 < (operands ((L.getD ((i_8).toNat) default).kind)))) ∧ (used_j14 = used_8)))) ?_ (fun used_j14 hJx14 => ?_)
          · refine AWp.seq ?_
            refine AWp.region ?_
            refine AOps.val (Y.fieldAddr fl38_0 rfl rfl) (by decide) ?_
            refine AOps.val (Y.load sh3 rfl rfl rfl rfl) (by decide) ?_
            refine AOps.callP ok23 (operands_spec ((L.getD ((i_8).toNat) default).kind)) rfl (.keep rfl rfl .nil) (by decide) rfl ?_
            refine AOps.val (Y.gtr rfl rfl) (by decide) ?_
            refine AOps.nil ?_
            refine AWp.condD rfl (fun c64 => ?_) (fun c64 => ?_)
            · refine AWp.region ?_
              refine AOps.val (Y.move rfl rfl) (by decide) ?_
              refine AOps.val (Y.fieldAddr fl38_1 rfl rfl) (by decide) ?_
              refine AOps.val (Y.load sh3 rfl rfl rfl rfl) (by decide) ?_
              refine AOps.val (Y.indexO (m := ((L.getD ((i_8).toNat) default).a).toNat) sl27 rfl rfl (by first | omega | (simp [-List.getD_eq_getElem?_getD]; done) | (simp [-List.getD_eq_getElem?_getD]; omega)) (by first | omega | (simp [-List.getD_eq_getElem?_getD]; done) | (simp [-List.getD_eq_getElem?_getD]; omega))) (by decide) ?_
              refine AOps.storeE ((used_8.set (((L.getD ((i_8).toNat) default).a).toNat) true).map brow) si4 rfl rfl rfl rfl rfl rfl rfl (row_getD0 (d := false) (by first | omega | (simp [-List.getD_eq_getElem?_getD]; done) | (simp [-List.getD_eq_getElem?_getD]; omega))) (Nat.le_of_ble_eq_true rfl) (set_map0 rfl) ?_
              refine AOps.nil ?_
              exact ⟨used_8.set (((L.getD ((i_8).toNat) default).a).toNat) true, ⟨by first | omega | (simp [-List.getD_eq_getElem?_getD]; done) | (simp [-List.getD_eq_getElem?_getD]; omega), .inl ⟨c64, rfl⟩⟩, Le.mk (SubL.cons rfl (SubL.cons rfl (SubL.cons rfl (SubL.cons rfl (SubL.cons rfl (SubL.cons rfl (SubL.nil))))))) (SubL.cons rfl (SubL.cons rfl (SubL.cons rfl (SubL.cons rfl (SubL.cons rfl (SubL.nil))))))⟩
            · refine AWp.skip ?_
              exact ⟨used_8, ⟨by first | omega | (simp [-List.getD_eq_getElem?_getD]; done) | (simp [-List.getD_eq_getElem?_getD]; omega), .inr (⟨c64, rfl⟩)⟩, Le.mk (SubL.cons rfl (SubL.cons rfl (SubL.cons rfl (SubL.cons rfl (SubL.cons rfl (SubL.cons rfl (SubL.nil))))))) (SubL.cons rfl (SubL.cons rfl (SubL.cons rfl (SubL.cons rfl (SubL.cons rfl (SubL.nil))))))⟩
          · obtain ⟨hlj14_108, hJ14⟩ := hJx14
            refine AWp.seq ?_
            refine AWp.region ?_
            refine AOps.val (Y.fieldAddr fl38_0 rfl rfl) (by decide) ?_
            refine AOps.val (Y.load sh3 rfl rfl rfl rfl) (by decide) ?_
            refine AOps.callP ok23 (operands_spec ((L.getD ((i_8).toNat) default).kind)) rfl (.keep rfl rfl .nil) (by decide) rfl ?_
            refine AOps.val (Y.gtr rfl rfl) (by decide) ?_
            refine AOps.nil ?_
            refine AWp.condD rfl (fun c72 => ?_) (fun c72 => ?_)
            · refine AWp.region ?_
              refine AOps.val (Y.move rfl rfl) (by decide) ?_
              refine AOps.val (Y.fieldAddr fl38_2 rfl rfl) (by decide) ?_
              refine AOps.val (Y.load sh3 rfl rfl rfl rfl) (by decide) ?_
              refine AOps.val (Y.indexO (m := ((L.getD ((i_8).toNat) default).b).toNat) sl27 rfl rfl (by first | omega | (simp [-List.getD_eq_getElem?_getD]; done) | (simp [-List.getD_eq_getElem?_getD]; omega)) (by first | omega | (simp [-List.getD_eq_getElem?_getD]; done) | (simp [-List.getD_eq_getElem?_getD]; omega))) (by decide) ?_
              refine AOps.storeE ((used_j14.set (((L.getD ((i_8).toNat) default).b).toNat) true).map brow) si4 rfl rfl rfl rfl rfl rfl rfl (row_getD0 (d := false) (by first | omega | (simp [-List.getD_eq_getElem?_getD]; done) | (simp [-List.getD_eq_getElem?_getD]; omega))) (Nat.le_of_ble_eq_true rfl) (set_map0 rfl) ?_
              refine AOps.nil ?_
              exact ⟨used_j14.set (((L.getD ((i_8).toNat) default).b).toNat) true, ⟨by first | omega | (simp [-List.getD_eq_getElem?_getD]; done) | (simp [-List.getD_eq_getElem?_getD]; omega), by rw [markOne_eq (by omega) c60 hJ14, if_pos c72]⟩, Le.mk (SubL.cons rfl (SubL.cons rfl (SubL.cons rfl (SubL.cons rfl (SubL.cons rfl (SubL.nil)))))) (SubL.cons rfl (SubL.cons rfl (SubL.cons rfl (SubL.cons rfl (SubL.nil)))))⟩
            · refine AWp.skip ?_
              exact ⟨used_j14, ⟨by first | omega | (simp [-List.getD_eq_getElem?_getD]; done) | (simp [-List.getD_eq_getElem?_getD]; omega), by rw [markOne_eq (by omega) c60 hJ14, if_neg c72]⟩, Le.mk (SubL.cons rfl (SubL.cons rfl (SubL.cons rfl (SubL.cons rfl (SubL.cons rfl (SubL.nil)))))) (SubL.cons rfl (SubL.cons rfl (SubL.cons rfl (SubL.cons rfl (SubL.nil)))))⟩
      · obtain ⟨hlj9_108, hJ9⟩ := hJx9
        refine AWp.region ?_
        refine AOps.val (Y.move rfl rfl) (by decide) ?_
        refine AOps.val (Y.subI rfl rfl (by first | omega | (simp [-List.getD_eq_getElem?_getD]; done) | (simp [-List.getD_eq_getElem?_getD]; omega))) (by decide) ?_
        refine AOps.val (Y.assign rfl rfl) (by decide) ?_
        refine AOps.nil ?_
        exact ⟨i_8 - 1, used_j9, ⟨by first | omega | (simp [-List.getD_eq_getElem?_getD]; done) | (simp [-List.getD_eq_getElem?_getD]; omega), by omega, by rw [hJ9, mark1_step c46]; exact hv⟩, by omega, Le.mk (SubL.cons rfl (SubL.cons rfl (SubL.cons rfl (SubL.cons rfl (SubL.cons (look_int rfl (by first | rfl | omega)) (SubL.nil)))))) (SubL.cons rfl (SubL.cons rfl (SubL.cons rfl (SubL.cons rfl (SubL.nil)))))⟩
    · refine AWp.exit ?_
      refine AWp.seq ?_
      have hU : used_8 = swUsed L idx keep := by
        rw [show (i_8 + 1).toNat = 0 by omega] at hv; exact hv
      refine AWp.region ?_
      refine AOps.val (Y.assign rfl rfl) (by decide) ?_
      refine AOps.sh (Sh.nil (d := 13) 113 3 rfl (by decide)) ?_
      refine AOps.nil ?_
      refine AWp.seq ?_
      refine AWp.region ?_
      refine AOps.val (Y.move rfl rfl) (by decide) ?_
      refine AOps.val (Y.nilCheck rfl rfl) (by decide) ?_
      refine AOps.val (Y.fieldAddr fl61_0 rfl rfl) (by decide) ?_
      refine AOps.val (Y.load sh22 rfl rfl rfl rfl) (by decide) ?_
      refine AOps.val (Y.len (n := L.length) sl22 rfl rfl) (by decide) ?_
      refine AOps.makeSlice (n := L.length) sl42 ze3 rfl rfl rfl rfl (by first | omega | (simp [-List.getD_eq_getElem?_getD]; done) | (simp [-List.getD_eq_getElem?_getD]; omega)) (by first | omega | (simp [-List.getD_eq_getElem?_getD]; done) | (simp [-List.getD_eq_getElem?_getD]; omega)) (by decide) ?_
      refine AOps.assignX rfl (by decide) ?_
      refine AOps.sh (Sh.adoptE (d := 14) (n := L.length) 114 ((List.replicate L.length 0).map nrow) rfl (by first | rfl | exact rep_map rfl) (len_map (by simp)) (by decide)) ?_
      refine AOps.nil ?_
      refine AWp.seq ?_
      refine AWp.seq ?_
      refine AWp.region ?_
      refine AOps.val (Y.move rfl rfl) (by decide) ?_
      refine AOps.val (Y.nilCheck rfl rfl) (by decide) ?_
      refine AOps.val (Y.fieldAddr fl61_0 rfl rfl) (by decide) ?_
      refine AOps.val (Y.load sh22 rfl rfl rfl rfl) (by decide) ?_
      refine AOps.val (Y.len (n := L.length) sl22 rfl rfl) (by decide) ?_
      refine AOps.val (Y.move rfl rfl) (by decide) ?_
      refine AOps.nil ?_
      refine AWp.block ?_
      refine AWp.loop3 (fun (m_19 : Nat) (out_19 : List Gate) (num_19 : List Nat) => ⟨[(1, .fz 1 (idx.map nrow)), (2, .fz 1 (keep.map nrow)), (8, .slc 108 1 0 L.length), (13, .slc 113 3 0 out_19.length), (14, .slc 114 1 0 L.length), (86, .slc 1 3 0 L.length), (87, .v (.int .i64 (L.length : Nat))), (88, .v (.int .i64 (m_19 : Int)))], [(0, .cells [.slc 1 3 0 L.length, .mref 2]), (1, .rows 3 (L.map Gate.row)), (2, .tab (T.map ent)), (108, .rows 1 (used_8.map brow)), (113, .rows 3 (out_19.map Gate.row)), (114, .rows 1 (num_19.map nrow))]⟩) (fun (m_19 : Nat) (out_19 : List Gate) (num_19 : List Nat) => (num_19.length = L.length) ∧ ((m_19 : Int) ≤ (L.length : Nat)) ∧ (out_19 = (swept L used_8 m_19).1) ∧ (num_19 = (swept L used_8 m_19).2 ++ List.replicate (L.length - m_19) 0)) (fun (m_19 : Nat) (out_19 : List Gate) (num_19 : List Nat) => ((L.length : Nat) - (m_19 : Int)).toNat) 0 ([] : List Gate) (List.replicate L.length 0) (⟨by first | omega | (simp [-List.getD_eq_getElem?_getD]; done) | (simp [-List.getD_eq_getElem?_getD]; omega), by first | omega | (simp [-List.getD_eq_getElem?_getD]; done) | (simp [-List.getD_eq_getElem?_getD]; omega), rfl, rfl⟩) (Le.mk (SubL.cons rfl (SubL.cons rfl (SubL.cons rfl (SubL.cons (look_slc rfl (by first | omega | (simp [-List.getD_eq_getElem?_getD]; done) | (simp [-List.getD_eq_getElem?_getD]; omega))) (SubL.cons rfl (SubL.cons rfl (SubL.cons rfl (SubL.cons (look_int rfl (by first | rfl | omega)) (SubL.nil))))))))) (SubL.cons rfl (SubL.cons rfl (SubL.cons rfl (SubL.cons rfl (SubL.cons rfl (SubL.cons rfl (SubL.nil)))))))) (fun m_19 out_19 num_19 hI19 => ?_)
      obtain ⟨hl114, hb19, ho, hn⟩ := hI19
      refine AWp.seq ?_
      refine AWp.region ?_
      refine AOps.val (Y.lss rfl rfl) (by decide) ?_
      refine AOps.nil ?_
      refine AWp.seq ?_
      refine AWp.condD rfl (fun c89 => ?_) (fun c89 => ?_)
      · have hg2 := good_at hgood (show m_19 < L.length by omega)
        simp only [okGate, okArg] at hg2
        have hso := swept_out_le (L := L) (u := used_8) (i := m_19) (by omega)
        have hoo : out_19.length ≤ m_19 := by rw [ho]; exact hso
        refine AWp.skip ?_
        refine AWp.join2 (fun (out_j28 : List Gate) (num_j28 : List Nat) => ⟨[(1, .fz 1 (idx.map nrow)), (2, .fz 1 (keep.map nrow)), (8, .slc 108 1 0 L.length), (13, .slc 113 3 0 out_j28.length), (14, .slc 114 1 0 L.length), (86, .slc 1 3 0 L.length), (87, .v (.int .i64 (L.length : Nat))), (88, .v (.int .i64 (m_19 : Int)))], [(0, .cells [.slc 1 3 0 L.length, .mref 2]), (1, .rows 3 (L.map Gate.row)), (2, .tab (T.map ent)), (108, .rows 1 (used_8.map brow)), (113, .rows 3 (out_j28.map Gate.row)), (114, .rows 1 (num_j28.map nrow))]⟩) (fun (out_j28 : List Gate) (num_j28 : List Nat) => (num_j28.length = L.length) ∧ (out_j28 = (swept L used_8 (m_19 + 1)).1 ∧ num_j28 = (swept L used_8 (m_19 + 1)).2 ++ List.replicate (L.length - (m_19 + 1)) 0)) ?_ (fun out_j28 num_j28 hJx28 => ?_)
        · refine AWp.block ?_
          refine AWp.seq ?_
          refine AWp.region ?_
          refine AOps.val (Y.move rfl rfl) (by decide) ?_
          refine AOps.val (Y.indexO (m := m_19) sl22 rfl rfl (by first | rfl | omega) (by first | omega | (simp [-List.getD_eq_getElem?_getD]; done) | (simp [-List.getD_eq_getElem?_getD]; omega))) (by decide) ?_
          refine AOps.val (Y.loadA sh38 rfl (row_getD0 (d := default) (by first | omega | (simp [-List.getD_eq_getElem?_getD]; done) | (simp [-List.getD_eq_getElem?_getD]; omega))) (Nat.le_of_ble_eq_true rfl) rfl rfl) (by decide) ?_
          refine AOps.alloc 116 ze38 rfl rfl (by decide) ?_
          refine AOps.val (Y.assign rfl rfl) (by decide) ?_
          refine AOps.storeC si38 rfl rfl rfl rfl rfl rfl (Nat.le_of_ble_eq_true rfl) rfl ?_
          refine AOps.nil ?_
          refine AWp.join0 (⟨[(1, .fz 1 (idx.map nrow)), (2, .fz 1 (keep.map nrow)), (8, .slc 108 1 0 L.length), (13, .slc 113 3 0 out_19.length), (14, .slc 114 1 0 L.length), (15, .v (.int .i64 (m_19 : Int))), (16, .ptr 116 0 0 0), (86, .slc 1 3 0 L.length), (87, .v (.int .i64 (L.length : Nat))), (88, .v (.int .i64 (m_19 : Int)))], [(0, .cells [.slc 1 3 0 L.length, .mref 2]), (1, .rows 3 (L.map Gate.row)), (2, .tab (T.map ent)), (108, .rows 1 (used_8.map brow)), (113, .rows 3 (out_19.map Gate.row)), (114, .rows 1 (num_19.map nrow)), (116, .cells [.v (.int .i64 ((L.getD m_19 default).kind)), .v (.int .i64 ((L.getD m_19 default).a)), .v (.int .i64 ((L.getD m_19 default).b))])]⟩) ((((used_8.getD m_19 false) = false) ∧ (¬ (((L.getD m_19 default).kind) ≠ 3))) ∨ (((used_8.getD m_19 false) = true))) ?_ (fun hJ22 => ?_)
          · refine AWp.seq ?_
            refine AWp.region ?_
            refine AOps.val (Y.move rfl rfl) (by decide) ?_
            refine AOps.val (Y.move rfl rfl) (by decide) ?_
            refine AOps.val (Y.indexO (m := m_19) sl27 rfl rfl (by first | rfl | omega) (by first | omega | (simp [-List.getD_eq_getElem?_getD]; done) | (simp [-List.getD_eq_getElem?_getD]; omega))) (by decide) ?_
            refine AOps.val (Y.load sh4 rfl (row_getD0 (d := false) (by first | omega | (simp [-List.getD_eq_getElem?_getD]; done) | (simp [-List.getD_eq_getElem?_getD]; omega))) rfl rfl) (by decide) ?_
            refine AOps.val (Y.not rfl) (by decide) ?_
            refine AOps.val (Y.move rfl rfl) (by decide) ?_
            refine AOps.split (d := 98) rfl (fun c98 => ?_) (fun c98 => ?_)
            · replace c98 : (used_8.getD m_19 false) = false := by simpa using c98
              refine AOps.guardRun (d := 98) rfl (by decide) rfl ?_
              refine AOps.val (Y.fieldAddr fl38_0 rfl rfl) (by decide) ?_
              refine AOps.guardRun (d := 98) rfl (by decide) rfl ?_
              refine AOps.val (Y.load sh3 rfl rfl rfl rfl) (by decide) ?_
              refine AOps.guardRun (d := 98) rfl (by decide) rfl ?_
              refine AOps.val (Y.neq rfl rfl) (by decide) ?_
              refine AOps.val (Y.pick rfl rfl rfl) (by decide) ?_
              refine AOps.nil ?_
              refine AWp.condD rfl (fun c102 => ?_) (fun c102 => ?_)
              · refine AWp.exit ?_
                exact ⟨out_19, num_19, ⟨by first | omega | (simp [-List.getD_eq_getElem?_getD]; done) | (simp [-List.getD_eq_getElem?_getD]; omega), swept_no ho hn (by omega) c98 c102⟩, Le.mk (SubL.cons rfl (SubL.cons rfl (SubL.cons rfl (SubL.cons (look_slc rfl (by first | omega | (simp [-List.getD_eq_getElem?_getD]; done) | (simp [-List.getD_eq_getElem?_getD]; omega))) (SubL.cons rfl (SubL.cons rfl (SubL.cons rfl (SubL.cons rfl (SubL.nil))))))))) (SubL.cons rfl (SubL.cons rfl (SubL.cons rfl (SubL.cons rfl (SubL.cons rfl (SubL.cons rfl (SubL.nil)))))))⟩
              · refine AWp.skip ?_
                exact ⟨.inl ⟨c98, c102⟩, Le.mk (SubL.cons rfl (SubL.cons rfl (SubL.cons rfl (SubL.cons rfl (SubL.cons rfl (SubL.cons rfl (SubL.cons rfl (SubL.cons rfl (SubL.cons rfl (SubL.cons rfl (SubL.nil))))))))))) (SubL.cons rfl (SubL.cons rfl (SubL.cons rfl (SubL.cons rfl (SubL.cons rfl (SubL.cons rfl (SubL.cons rfl (SubL.nil))))))))⟩
            · replace c98 : (used_8.getD m_19 false) = true := by simpa using c98
              refine AOps.guardSkipV (d := 98) rfl (by decide) (by decide) rfl rfl ?_
              refine AOps.guardSkipV (d := 98) rfl (by decide) (by decide) rfl rfl ?_
              refine AOps.guardSkipV (d := 98) rfl (by decide) (by decide) rfl rfl ?_
              refine AOps.val (Y.pick rfl rfl rfl) (by decide) ?_
              refine AOps.nil ?_
              refine AWp.condF rfl ?_
              refine AWp.skip ?_
              exact ⟨.inr (c98), Le.mk (SubL.cons rfl (SubL.cons rfl (SubL.cons rfl (SubL.cons rfl (SubL.cons rfl (SubL.cons rfl (SubL.cons rfl (SubL.cons rfl (SubL.cons rfl (SubL.cons rfl (SubL.nil))))))))))) (SubL.cons rfl (SubL.cons rfl (SubL.cons rfl (SubL.cons rfl (SubL.cons rfl (SubL.cons rfl (SubL.cons rfl (SubL.nil))))))))⟩
          · refine AWp.seq ?_
            refine AWp.region ?_
            refine AOps.val (Y.move rfl rfl) (by decide) ?_
            refine AOps.val (Y.move rfl rfl) (by decide) ?_
            refine AOps.val (Y.move rfl rfl) (by decide) ?_
            refine AOps.val (Y.len (n := out_19.length) sl22 rfl rfl) (by decide) ?_
            refine AOps.val (Y.indexO (m := m_19) sl42 rfl rfl (by first | rfl | omega) (by first | omega | (simp [-List.getD_eq_getElem?_getD]; done) | (simp [-List.getD_eq_getElem?_getD]; omega))) (by decide) ?_
            refine AOps.storeE ((num_19.set m_19 out_19.length).map nrow) si3 rfl rfl rfl rfl rfl rfl rfl (row_getD0 (d := 0) (by first | omega | (simp [-List.getD_eq_getElem?_getD]; done) | (simp [-List.getD_eq_getElem?_getD]; omega))) (Nat.le_of_ble_eq_true rfl) (set_map0 rfl) ?_
            refine AOps.nil ?_
            refine AWp.join1 (fun (g16_1_j25 : Int) => ⟨[(1, .fz 1 (idx.map nrow)), (2, .fz 1 (keep.map nrow)), (8, .slc 108 1 0 L.length), (13, .slc 113 3 0 out_19.length), (14, .slc 114 1 0 L.length), (16, .ptr 116 0 0 0), (86, .slc 1 3 0 L.length), (87, .v (.int .i64 (L.length : Nat))), (88, .v (.int .i64 (m_19 : Int)))], [(0, .cells [.slc 1 3 0 L.length, .mref 2]), (1, .rows 3 (L.map Gate.row)), (2, .tab (T.map ent)), (108, .rows 1 (used_8.map brow)), (113, .rows 3 (out_19.map Gate.row)), (114, .rows 1 ((num_19.set m_19 out_19.length).map nrow)), (116, .cells [.v (.int .i64 ((L.getD m_19 default).kind)), .v (.int .i64 g16_1_j25), .v (.int .i64 ((L.getD m_19 default).b))])]⟩) (fun (g16_1_j25 : Int) => ((0 < (operands ((L.getD m_19 default).kind))) ∧ (g16_1_j25 = ((num_19.set m_19 out_19.length).getD (((L.getD m_19 default).a).toNat) 0 : Nat))) ∨ ((¬ (0 < (operands ((L.getD m_19 default).kind)))) ∧ (g16_1_j25 = ((L.getD m_19 default).a)))) ?_ (fun g16_1_j25 hJ25 => ?_)
            · refine AWp.seq ?_
              refine AWp.region ?_
              refine AOps.val (Y.fieldAddr fl38_0 rfl rfl) (by decide) ?_
              refine AOps.val (Y.load sh3 rfl rfl rfl rfl) (by decide) ?_
              refine AOps.callP ok23 (operands_spec ((L.getD m_19 default).kind)) rfl (.keep rfl rfl .nil) (by decide) rfl ?_
              refine AOps.val (Y.gtr rfl rfl) (by decide) ?_
              refine AOps.nil ?_
              refine AWp.condD rfl (fun c111 => ?_) (fun c111 => ?_)
              · refine AWp.region ?_
                refine AOps.val (Y.move rfl rfl) (by decide) ?_
                refine AOps.val (Y.fieldAddr fl38_1 rfl rfl) (by decide) ?_
                refine AOps.val (Y.load sh3 rfl rfl rfl rfl) (by decide) ?_
                refine AOps.val (Y.indexO (m := ((L.getD m_19 default).a).toNat) sl42 rfl rfl (by first | omega | (simp [-List.getD_eq_getElem?_getD]; done) | (simp [-List.getD_eq_getElem?_getD]; omega)) (by first | omega | (simp [-List.getD_eq_getElem?_getD]; done) | (simp [-List.getD_eq_getElem?_getD]; omega))) (by decide) ?_
                refine AOps.val (Y.load sh3 rfl (row_getD0 (d := 0) (by first | omega | (simp [-List.getD_eq_getElem?_getD]; done) | (simp [-List.getD_eq_getElem?_getD]; omega))) rfl rfl) (by decide) ?_
                refine AOps.val (Y.fieldAddr fl38_1 rfl rfl) (by decide) ?_
                refine AOps.storeC si3 rfl rfl rfl rfl rfl rfl (Nat.le_of_ble_eq_true rfl) rfl ?_
                refine AOps.nil ?_
                exact ⟨((num_19.set m_19 out_19.length).getD (((L.getD m_19 default).a).toNat) 0 : Nat), .inl ⟨c111, rfl⟩, Le.mk (SubL.cons rfl (SubL.cons rfl (SubL.cons rfl (SubL.cons rfl (SubL.cons rfl (SubL.cons rfl (SubL.cons rfl (SubL.cons rfl (SubL.cons rfl (SubL.nil)))))))))) (SubL.cons rfl (SubL.cons rfl (SubL.cons rfl (SubL.cons rfl (SubL.cons rfl (SubL.cons rfl (SubL.cons (look_cells rfl (by first | rfl | (simp only [List.cons.injEq, X.v.injEq, X.slc.injEq, Value.int.injEq, and_true, true_and]; omega) | simp_all)) (SubL.nil))))))))⟩
              · refine AWp.skip ?_
                exact ⟨(L.getD m_19 default).a, .inr (⟨c111, rfl⟩), Le.mk (SubL.cons rfl (SubL.cons rfl (SubL.cons rfl (SubL.cons rfl (SubL.cons rfl (SubL.cons rfl (SubL.cons rfl (SubL.cons rfl (SubL.cons rfl (SubL.nil)))))))))) (SubL.cons rfl (SubL.cons rfl (SubL.cons rfl (SubL.cons rfl (SubL.cons rfl (SubL.cons rfl (SubL.cons (look_cells rfl (by first | rfl | (simp only [List.cons.injEq, X.v.injEq, X.slc.injEq, Value.int.injEq, and_true, true_and]; omega) | simp_all)) (SubL.nil))))))))⟩
            · refine AWp.join1 (fun (g16_2_j27 : Int) => ⟨[(1, .fz 1 (idx.map nrow)), (2, .fz 1 (keep.map nrow)), (8, .slc 108 1 0 L.length), (13, .slc 113 3 0 out_19.length), (14, .slc 114 1 0 L.length), (16, .ptr 116 0 0 0), (86, .slc 1 3 0 L.length), (87, .v (.int .i64 (L.length : Nat))), (88, .v (.int .i64 (m_19 : Int)))], [(0, .cells [.slc 1 3 0 L.length, .mref 2]), (1, .rows 3 (L.map Gate.row)), (2, .tab (T.map ent)), (108, .rows 1 (used_8.map brow)), (113, .rows 3 (out_19.map Gate.row)), (114, .rows 1 ((num_19.set m_19 out_19.length).map nrow)), (116, .cells [.v (.int .i64 ((L.getD m_19 default).kind)), .v (.int .i64 g16_1_j25), .v (.int .i64 g16_2_j27)])]⟩) (fun (g16_2_j27 : Int) => ((1 < (operands ((L.getD m_19 default).kind))) ∧ (g16_2_j27 = ((num_19.set m_19 out_19.length).getD (((L.getD m_19 default).b).toNat) 0 : Nat))) ∨ ((¬ (1 < (operands ((L.getD m_19 default).kind)))) ∧ (g16_2_j27 = ((L.getD m_19 default).b)))) ?_ (fun g16_2_j27 hJ27 => ?_)
              · refine AWp.seq ?_
                refine AWp.region ?_
                refine AOps.val (Y.fieldAddr fl38_0 rfl rfl) (by decide) ?_
                refine AOps.val (Y.load sh3 rfl rfl rfl rfl) (by decide) ?_
                refine AOps.callP ok23 (operands_spec ((L.getD m_19 default).kind)) rfl (.keep rfl rfl .nil) (by decide) rfl ?_
                refine AOps.val (Y.gtr rfl rfl) (by decide) ?_
                refine AOps.nil ?_
                refine AWp.condD rfl (fun c121 => ?_) (fun c121 => ?_)
                · refine AWp.region ?_
                  refine AOps.val (Y.move rfl rfl) (by decide) ?_
                  refine AOps.val (Y.fieldAddr fl38_2 rfl rfl) (by decide) ?_
                  refine AOps.val (Y.load sh3 rfl rfl rfl rfl) (by decide) ?_
                  refine AOps.val (Y.indexO (m := ((L.getD m_19 default).b).toNat) sl42 rfl rfl (by first | omega | (simp [-List.getD_eq_getElem?_getD]; done) | (simp [-List.getD_eq_getElem?_getD]; omega)) (by first | omega | (simp [-List.getD_eq_getElem?_getD]; done) | (simp [-List.getD_eq_getElem?_getD]; omega))) (by decide) ?_
                  refine AOps.val (Y.load sh3 rfl (row_getD0 (d := 0) (by first | omega | (simp [-List.getD_eq_getElem?_getD]; done) | (simp [-List.getD_eq_getElem?_getD]; omega))) rfl rfl) (by decide) ?_
                  refine AOps.val (Y.fieldAddr fl38_2 rfl rfl) (by decide) ?_
                  refine AOps.storeC si3 rfl rfl rfl rfl rfl rfl (Nat.le_of_ble_eq_true rfl) rfl ?_
                  refine AOps.nil ?_
                  exact ⟨((num_19.set m_19 out_19.length).getD (((L.getD m_19 default).b).toNat) 0 : Nat), .inl ⟨c121, rfl⟩, Le.mk (SubL.cons rfl (SubL.cons rfl (SubL.cons rfl (SubL.cons rfl (SubL.cons rfl (SubL.cons rfl (SubL.cons rfl (SubL.cons rfl (SubL.cons rfl (SubL.nil)))))))))) (SubL.cons rfl (SubL.cons rfl (SubL.cons rfl (SubL.cons rfl (SubL.cons rfl (SubL.cons rfl (SubL.cons (look_cells rfl (by first | rfl | (simp only [List.cons.injEq, X.v.injEq, X.slc.injEq, Value.int.injEq, and_true, true_and]; omega) | simp_all)) (SubL.nil))))))))⟩
                · refine AWp.skip ?_
                  exact ⟨(L.getD m_19 default).b, .inr (⟨c121, rfl⟩), Le.mk (SubL.cons rfl (SubL.cons rfl (SubL.cons rfl (SubL.cons rfl (SubL.cons rfl (SubL.cons rfl (SubL.cons rfl (SubL.cons rfl (SubL.cons rfl (SubL.nil)))))))))) (SubL.cons rfl (SubL.cons rfl (SubL.cons rfl (SubL.cons rfl (SubL.cons rfl (SubL.cons rfl (SubL.cons (look_cells rfl (by first | rfl | (simp only [List.cons.injEq, X.v.injEq, X.slc.injEq, Value.int.injEq, and_true, true_and]; omega) | simp_all)) (SubL.nil))))))))⟩
              · refine AWp.region ?_
                refine AOps.val (Y.move rfl rfl) (by decide) ?_
                refine AOps.val (Y.loadA sh38 rfl rfl (Nat.le_of_ble_eq_true rfl) rfl rfl) (by decide) ?_
                refine AOps.buildSlice (([(⟨(L.getD m_19 default).kind, g16_1_j25, g16_2_j27⟩ : Gate)] : List Gate).map Gate.row) sl22 ze38 rfl rfl rfl rfl rfl (uniform_map (s := 3) (f := Gate.row) (fun _ => rfl)) rfl rfl rfl (by decide) ?_
                refine AOps.appendE ((out_19 ++ ([(⟨(L.getD m_19 default).kind, g16_1_j25, g16_2_j27⟩ : Gate)] : List Gate)).map Gate.row) (out_19 ++ ([(⟨(L.getD m_19 default).kind, g16_1_j25, g16_2_j27⟩ : Gate)] : List Gate)).length sl22 ze38 rfl rfl rfl rfl (app_le (by first | omega | (simp [-List.getD_eq_getElem?_getD]; done) | (simp [-List.getD_eq_getElem?_getD]; omega))) (app_map (by first | omega | (simp [-List.getD_eq_getElem?_getD]; done) | (simp [-List.getD_eq_getElem?_getD]; omega))) (app_n (by first | omega | (simp [-List.getD_eq_getElem?_getD]; done) | (simp [-List.getD_eq_getElem?_getD]; omega))) (by first | omega | (simp [-List.getD_eq_getElem?_getD]; done) | (simp [-List.getD_eq_getElem?_getD]; omega)) (by first | omega | (simp [-List.getD_eq_getElem?_getD]; done) | (simp [-List.getD_eq_getElem?_getD]; omega)) (by decide) (by decide) ?_
                refine AOps.val (Y.assign rfl rfl) (by decide) ?_
                refine AOps.nil ?_
                exact ⟨out_19 ++ ([(⟨(L.getD m_19 default).kind, g16_1_j25, g16_2_j27⟩ : Gate)] : List Gate), num_19.set m_19 out_19.length, ⟨by first | omega | (simp [-List.getD_eq_getElem?_getD]; done) | (simp [-List.getD_eq_getElem?_getD]; omega), swept_yes hgood ho hn (by omega) hJ22 hJ25 hJ27⟩, Le.mk (SubL.cons rfl (SubL.cons rfl (SubL.cons rfl (SubL.cons (look_slc rfl (by first | omega | (simp [-List.getD_eq_getElem?_getD]; done) | (simp [-List.getD_eq_getElem?_getD]; omega))) (SubL.cons rfl (SubL.cons rfl (SubL.cons rfl (SubL.cons rfl (SubL.nil))))))))) (SubL.cons rfl (SubL.cons rfl (SubL.cons rfl (SubL.cons rfl (SubL.cons rfl (SubL.cons rfl (SubL.nil)))))))⟩
        · obtain ⟨hlj28_114, hJ28⟩ := hJx28
          refine AWp.region ?_
          refine AOps.val (Y.addI rfl rfl (by first | omega | (simp [-List.getD_eq_getElem?_getD]; done) | (simp [-List.getD_eq_getElem?_getD]; omega))) (by decide) ?_
          refine AOps.val (Y.move rfl rfl) (by decide) ?_
          refine AOps.nil ?_
          exact ⟨m_19 + 1, out_j28, num_j28, ⟨by first | omega | (simp [-List.getD_eq_getElem?_getD]; done) | (simp [-List.getD_eq_getElem?_getD]; omega), by first | omega | (simp [-List.getD_eq_getElem?_getD]; done) | (simp [-List.getD_eq_getElem?_getD]; omega), hJ28.1, hJ28.2⟩, by omega, Le.mk (SubL.cons rfl (SubL.cons rfl (SubL.cons rfl (SubL.cons (look_slc rfl (by first | omega | (simp [-List.getD_eq_getElem?_getD]; done) | (simp [-List.getD_eq_getElem?_getD]; omega))) (SubL.cons rfl (SubL.cons rfl (SubL.cons rfl (SubL.cons (look_int rfl (by first | rfl | omega)) (SubL.nil))))))))) (SubL.cons rfl (SubL.cons rfl (SubL.cons rfl (SubL.cons rfl (SubL.cons rfl (SubL.cons rfl (SubL.nil)))))))⟩
      · refine AWp.exit ?_
        refine AWp.seq ?_
        refine AWp.region ?_
        refine AOps.val (Y.assign rfl rfl) (by decide) ?_
        refine AOps.sh (Sh.nil (d := 17) 117 1 rfl (by decide)) ?_
        refine AOps.nil ?_
        refine AWp.seq ?_
        refine AWp.seq ?_
        refine AWp.region ?_
        refine AOps.val (Y.move rfl rfl) (by decide) ?_
        refine AOps.val (Y.len (n := keep.length) sl42 rfl (congrArg some (List.length_map ..))) (by decide) ?_
        refine AOps.val (Y.move rfl rfl) (by decide) ?_
        refine AOps.nil ?_
        refine AWp.block ?_
        refine AWp.loop2 (fun (q_31 : Nat) (kept_31 : List Nat) => ⟨[(1, .fz 1 (idx.map nrow)), (13, .slc 113 3 0 out_19.length), (14, .slc 114 1 0 L.length), (17, .slc 117 1 0 kept_31.length), (133, .fz 1 (keep.map nrow)), (134, .v (.int .i64 (keep.length : Nat))), (135, .v (.int .i64 (q_31 : Int)))], [(0, .cells [.slc 1 3 0 L.length, .mref 2]), (1, .rows 3 (L.map Gate.row)), (2, .tab (T.map ent)), (113, .rows 3 (out_19.map Gate.row)), (114, .rows 1 (num_19.map nrow)), (117, .rows 1 (kept_31.map nrow))]⟩) (fun (q_31 : Nat) (kept_31 : List Nat) => ((q_31 : Int) ≤ (keep.length : Nat)) ∧ (kept_31 = (keep.take q_31).map (fun k => num_19.getD (idx.getD k 0) 0))) (fun (q_31 : Nat) (kept_31 : List Nat) => ((keep.length : Nat) - (q_31 : Int)).toNat) 0 ([] : List Nat) (⟨by first | omega | (simp [-List.getD_eq_getElem?_getD]; done) | (simp [-List.getD_eq_getElem?_getD]; omega), rfl⟩) (Le.mk (SubL.cons rfl (SubL.cons rfl (SubL.cons rfl (SubL.cons (look_slc rfl (by first | omega | (simp [-List.getD_eq_getElem?_getD]; done) | (simp [-List.getD_eq_getElem?_getD]; omega))) (SubL.cons rfl (SubL.cons rfl (SubL.cons (look_int rfl (by first | rfl | omega)) (SubL.nil)))))))) (SubL.cons rfl (SubL.cons rfl (SubL.cons rfl (SubL.cons rfl (SubL.cons rfl (SubL.cons rfl (SubL.nil)))))))) (fun q_31 kept_31 hI31 => ?_)
        obtain ⟨hb31, hk⟩ := hI31
        refine AWp.seq ?_
        refine AWp.region ?_
        refine AOps.val (Y.lss rfl rfl) (by decide) ?_
        refine AOps.nil ?_
        refine AWp.seq ?_
        refine AWp.condD rfl (fun c136 => ?_) (fun c136 => ?_)
        · have hkk : kept_31.length = q_31 := by rw [hk, List.length_map, List.length_take]; omega
          have hk3 := hkl q_31 (by omega)
          have hk4 := hidx _ hk3
          refine AWp.skip ?_
          refine AWp.seq ?_
          refine AWp.block ?_
          refine AWp.seq ?_
          refine AWp.region ?_
          refine AOps.val (Y.indexF (m := q_31) sl42 rfl rfl (by first | rfl | omega) (row_getD (d := 0) (by first | omega | (simp [-List.getD_eq_getElem?_getD]; done) | (simp [-List.getD_eq_getElem?_getD]; omega)))) (by decide) ?_
          refine AOps.val (Y.load sh3 rfl rfl rfl rfl) (by decide) ?_
          refine AOps.val (Y.assign rfl rfl) (by decide) ?_
          refine AOps.nil ?_
          refine AWp.region ?_
          refine AOps.val (Y.move rfl rfl) (by decide) ?_
          refine AOps.val (Y.move rfl rfl) (by decide) ?_
          refine AOps.val (Y.move rfl rfl) (by decide) ?_
          refine AOps.val (Y.move rfl rfl) (by decide) ?_
          refine AOps.val (Y.indexF (m := keep.getD q_31 0) sl42 rfl rfl (by first | rfl | omega) (row_getD (d := 0) (by first | omega | (simp [-List.getD_eq_getElem?_getD]; done) | (simp [-List.getD_eq_getElem?_getD]; omega)))) (by decide) ?_
          refine AOps.val (Y.load sh3 rfl rfl rfl rfl) (by decide) ?_
          refine AOps.val (Y.indexO (m := idx.getD (keep.getD q_31 0) 0) sl42 rfl rfl (by first | rfl | omega) (by first | omega | (simp [-List.getD_eq_getElem?_getD]; done) | (simp [-List.getD_eq_getElem?_getD]; omega))) (by decide) ?_
          refine AOps.val (Y.load sh3 rfl (row_getD0 (d := 0) (by first | omega | (simp [-List.getD_eq_getElem?_getD]; done) | (simp [-List.getD_eq_getElem?_getD]; omega))) rfl rfl) (by decide) ?_
          refine AOps.buildSlice (([num_19.getD (idx.getD (keep.getD q_31 0) 0) 0] : List Nat).map nrow) sl42 ze3 rfl rfl rfl rfl rfl (uniform_map (s := 1) (f := nrow) (fun _ => rfl)) rfl rfl rfl (by decide) ?_
          refine AOps.appendE ((kept_31 ++ ([num_19.getD (idx.getD (keep.getD q_31 0) 0) 0] : List Nat)).map nrow) (kept_31 ++ ([num_19.getD (idx.getD (keep.getD q_31 0) 0) 0] : List Nat)).length sl42 ze3 rfl rfl rfl rfl (app_le (by first | omega | (simp [-List.getD_eq_getElem?_getD]; done) | (simp [-List.getD_eq_getElem?_getD]; omega))) (app_map (by first | omega | (simp [-List.getD_eq_getElem?_getD]; done) | (simp [-List.getD_eq_getElem?_getD]; omega))) (app_n (by first | omega | (simp [-List.getD_eq_getElem?_getD]; done) | (simp [-List.getD_eq_getElem?_getD]; omega))) (by first | omega | (simp [-List.getD_eq_getElem?_getD]; done) | (simp [-List.getD_eq_getElem?_getD]; omega)) (by first | omega | (simp [-List.getD_eq_getElem?_getD]; done) | (simp [-List.getD_eq_getElem?_getD]; omega)) (by decide) (by decide) ?_
          refine AOps.val (Y.assign rfl rfl) (by decide) ?_
          refine AOps.nil ?_
          refine AWp.region ?_
          refine AOps.val (Y.addI rfl rfl (by first | omega | (simp [-List.getD_eq_getElem?_getD]; done) | (simp [-List.getD_eq_getElem?_getD]; omega))) (by decide) ?_
          refine AOps.val (Y.move rfl rfl) (by decide) ?_
          refine AOps.nil ?_
          exact ⟨q_31 + 1, kept_31 ++ ([num_19.getD (idx.getD (keep.getD q_31 0) 0) 0] : List Nat), ⟨by first | omega | (simp [-List.getD_eq_getElem?_getD]; done) | (simp [-List.getD_eq_getElem?_getD]; omega), map_take_step hk (by omega)⟩, by omega, Le.mk (SubL.cons rfl (SubL.cons rfl (SubL.cons rfl (SubL.cons (look_slc rfl (by first | omega | (simp [-List.getD_eq_getElem?_getD]; done) | (simp [-List.getD_eq_getElem?_getD]; omega))) (SubL.cons rfl (SubL.cons rfl (SubL.cons (look_int rfl (by first | rfl | omega)) (SubL.nil)))))))) (SubL.cons rfl (SubL.cons rfl (SubL.cons rfl (SubL.cons rfl (SubL.cons rfl (SubL.cons rfl (SubL.nil)))))))⟩
        · refine AWp.exit ?_
          refine AWp.seq ?_
          refine AWp.region ?_
          refine AOps.val (Y.move rfl rfl) (by decide) ?_
          refine AOps.val (Y.move rfl rfl) (by decide) ?_
          refine AOps.val (Y.assign rfl rfl) (by decide) ?_
          refine AOps.sh (Sh.detach (d := 6) (o := 113) rfl rfl (len_map (by first | omega | (simp [-List.getD_eq_getElem?_getD]; done) | (simp [-List.getD_eq_getElem?_getD]; omega))) (by decide)) ?_
          refine AOps.val (Y.assign rfl rfl) (by decide) ?_
          refine AOps.sh (Sh.detach (d := 7) (o := 117) rfl rfl (len_map (by first | omega | (simp [-List.getD_eq_getElem?_getD]; done) | (simp [-List.getD_eq_getElem?_getD]; omega))) (by decide)) ?_
          refine AOps.nil ?_
          refine AWp.ret ?_
          exact ⟨_, _, rfl, rfl, (cg2 (fun (z0 : List Gate) (z1 : List Nat) => X.tup [.uni 3 (z0.map Gate.row), .uni 1 (z1.map nrow)]) (by rw [ho, hU, show m_19 = L.length by omega]; rfl : out_19 = swOut L idx keep) (by rw [hk, List.take_of_length_le (by omega), hn, hU, show m_19 = L.length by omega, Nat.sub_self, List.replicate_zero, List.append_nil]; rfl : kept_31 = swKept L idx keep) : X.tup [.uni 3 (out_19.map Gate.row), .uni 1 (kept_31.map nrow)] = X.tup [.uni 3 ((swOut L idx keep).map Gate.row), .uni 1 ((swKept L idx keep).map nrow)]), rfl⟩

end Go.Proofs.Ytiehdnjcapjacaa
