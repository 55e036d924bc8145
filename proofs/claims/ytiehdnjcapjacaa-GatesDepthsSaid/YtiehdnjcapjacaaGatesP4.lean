/- The walks through the functions on times. -/
import Derived.Test.YtiehdnjcapjacaaGatesP3
import Derived.Test.YtiehdnjcapjacaaGatesG4
namespace Go.Proofs.Ytiehdnjcapjacaa
open Go Go.AW Go.Proofs



set_option maxHeartbeats 1000000 in
theorem depths_spec {l : List Gate} {ins : List Int} (hl : l.length ≤ 1073741824) (hins : Small 65535 ins) : ACalls Try.prog 19 [.fz 3 (l.map Gate.row), .fz 1 (ins.map irow)] [] [] (fun r o => r = retX 1 ((depthR l ins).1.map irow) (depthR l ins).2 ∧ o = []) := by
  refine ACalls.of Try.func19 rfl rfl rfl (n := 71) (by decide) (Nat.le_of_ble_eq_true rfl) ?_
  refine AWp.seq ?_
  refine AWp.region ?_
  refine AOps.val (Y.assign rfl rfl) (by decide) ?_
  refine AOps.val (Y.assign rfl rfl) (by decide) ?_
  refine AOps.nil ?_
  refine AWp.seq ?_
  refine AWp.seq ?_
  refine AWp.region ?_
  first | refine AOps.val (Y.move rfl rfl) (by decide) ?_ | refine AOps.moveU rfl (by decide) ?_
  refine AOps.callP ok12 (check_spec (by omega)) rfl (.keep rfl rfl .nil) (by decide) rfl ?_
  refine AOps.val (Y.neq rfl rfl) (by decide) ?_
  refine AOps.nil ?_
  refine AWp.condD rfl (fun c11 => ?_) (fun c11 => ?_)
  · have hb : ¬ Good l := fun h => c11 (check_good h)
    refine AWp.seq ?_
    refine AWp.region ?_
    refine AOps.val (Y.assign rfl rfl) (by decide) ?_
    refine AOps.sh (Sh.nilU (d := 4) 1 rfl) ?_
    refine AOps.val (Y.assign rfl rfl) (by decide) ?_
    refine AOps.nil ?_
    refine AWp.ret ?_
    exact ⟨_, _, rfl, rfl, by rw [depthR_form ins hb]; rfl, rfl⟩
  · have hb : Good l := by
      refine Classical.byContradiction fun h => c11 ?_
      simp [check, h] at c11
    refine AWp.skip ?_
    refine AWp.seq ?_
    refine AWp.seq ?_
    refine AWp.region ?_
    first | refine AOps.val (Y.move rfl rfl) (by decide) ?_ | refine AOps.moveU rfl (by decide) ?_
    refine AOps.val (Y.len sl42 rfl (n := ins.length) (congrArg some (List.length_map ..))) (by decide) ?_
    first | refine AOps.val (Y.move rfl rfl) (by decide) ?_ | refine AOps.moveU rfl (by decide) ?_
    refine AOps.callP ok24 (inputs_spec (by omega)) rfl (.keep rfl rfl .nil) (by decide) rfl ?_
    refine AOps.val (Y.neq rfl rfl) (by decide) ?_
    refine AOps.nil ?_
    refine AWp.condD rfl (fun c16 => ?_) (fun c16 => ?_)
    · refine AWp.seq ?_
      refine AWp.region ?_
      refine AOps.val (Y.assign rfl rfl) (by decide) ?_
      refine AOps.sh (Sh.nilU (d := 4) 1 rfl) ?_
      refine AOps.val (Y.assign rfl rfl) (by decide) ?_
      refine AOps.nil ?_
      refine AWp.ret ?_
      exact ⟨_, _, rfl, rfl, by rw [depthR_arg hb (by omega)]; rfl, rfl⟩
    · have hin : ins.length = nin l := by omega
      refine AWp.skip ?_
      refine AWp.seq ?_
      refine AWp.region ?_
      first | refine AOps.val (Y.move rfl rfl) (by decide) ?_ | refine AOps.moveU rfl (by decide) ?_
      refine AOps.val (Y.len sl22 rfl (n := l.length) (congrArg some (List.length_map ..))) (by decide) ?_
      refine AOps.makeSlice sl42 ze3 rfl rfl rfl rfl (by omega) (by omega) (by decide) ?_
      first | refine AOps.val (Y.assign rfl rfl) (by decide) ?_ | refine AOps.assignU rfl (by decide) ?_
      refine AOps.nil ?_
      refine AWp.seq ?_
      refine AWp.seq ?_
      refine AWp.region ?_
      refine AOps.sh (Sh.adoptN (d := 6) (n := l.length) 106 rfl (by simp) (by decide)) ?_
      first | refine AOps.val (Y.move rfl rfl) (by decide) ?_ | refine AOps.moveU rfl (by decide) ?_
      refine AOps.val (Y.len sl22 rfl (n := l.length) (congrArg some (List.length_map ..))) (by decide) ?_
      refine AOps.val (Y.move rfl rfl) (by decide) ?_
      refine AOps.nil ?_
      refine AWp.block ?_
      refine AWp.loop (fun (ix : Nat) => ⟨[(22, .v (.int .i64 ((ix : Int)))), (20, .fz 3 (l.map Gate.row)), (21, .v (.int .i64 ((l.length : Int)))), (6, .slc 106 1 0 l.length), (1, .fz 1 ((ins.drop (nin (l.take ix))).map irow))], [(106, .rows 1 (ifill l.length (touts l ins ix)))]⟩) (fun ix => ix ≤ l.length) (fun ix => l.length - ix) (0) (by omega) (Le.mk (by repeat (first | exact SubL.nil | refine SubL.cons (by first | rfl | (rw [nin_zero]; rfl)) ?_)) (SubL.cons (by rw [touts, ifill_nil]; rfl) SubL.nil)) (fun ix hI => ?_)
      refine AWp.seq ?_
      refine AWp.region ?_
      refine AOps.val (Y.lss rfl rfl) (by decide) ?_
      refine AOps.nil ?_
      refine AWp.seq ?_
      refine AWp.condD rfl (fun c23 => ?_) (fun c23 => ?_)
      · obtain ⟨q, hg⟩ : ∃ q, l[ix]? = some q := ⟨_, List.getElem?_eq_getElem (by omega)⟩
        have hol : (touts l ins ix).length = ix := touts_length (by omega)
        have hok := hb ix q hg
        simp only [okGate, okArg, operands] at hok
        have hsm := touts_small (l := l) hins ix
        have hva := hsm.get (by omega) q.a.toNat
        have hvb := hsm.get (by omega) q.b.toNat
        refine AWp.skip ?_
        refine AWp.seq ?_
        refine AWp.block ?_
        refine AWp.seq ?_
        refine AWp.region ?_
        first | refine AOps.val (Y.move rfl rfl) (by decide) ?_ | refine AOps.moveU rfl (by decide) ?_
        refine AOps.val (Y.indexF sl22 rfl rfl rfl (getElem?_map' hg)) (by decide) ?_
        refine AOps.val (Y.loadA sh38 rfl rfl (Nat.le_of_ble_eq_true rfl) rfl rfl) (by decide) ?_
        refine AOps.alloc 108 ze38 rfl rfl (by decide) ?_
        first | refine AOps.val (Y.assign rfl rfl) (by decide) ?_ | refine AOps.assignU rfl (by decide) ?_
        first | refine AOps.storeC si38 rfl rfl rfl rfl rfl rfl (Nat.le_of_ble_eq_true rfl) rfl ?_ | refine AOps.storeR si38 rfl rfl rfl rfl rfl rfl rfl (by first | assumption | exact getElem?_map' (by assumption)) (Nat.le_of_ble_eq_true rfl) ?_
        refine AOps.nil ?_
        refine AWp.seq ?_
        refine AWp.region ?_
        refine AOps.val (Y.fieldAddr fl38_0 rfl rfl) (by decide) ?_
        refine AOps.val (Y.load sh3 rfl rfl rfl rfl) (by decide) ?_
        refine AOps.callP ok23 (operands_spec _) rfl (.keep rfl rfl .nil) (by decide) rfl ?_
        refine AOps.nil ?_
        refine AWp.block ?_
        refine AWp.seq ?_
        refine AWp.region ?_
        refine AOps.val (Y.eql rfl rfl) (by decide) ?_
        first | refine AOps.val (Y.assign rfl rfl) (by decide) ?_ | refine AOps.assignU rfl (by decide) ?_
        refine AOps.nil ?_
        refine AWp.condD rfl (fun c41 => ?_) (fun c41 => ?_)
        · have k4 : q.kind = 4 := by simp only [operands] at c41; omega
          refine AWp.region ?_
          first | refine AOps.val (Y.move rfl rfl) (by decide) ?_ | refine AOps.moveU rfl (by decide) ?_
          first | refine AOps.val (Y.move rfl rfl) (by decide) ?_ | refine AOps.moveU rfl (by decide) ?_
          first | refine AOps.val (Y.move rfl rfl) (by decide) ?_ | refine AOps.moveU rfl (by decide) ?_
          refine AOps.val (Y.fieldAddr fl38_1 rfl rfl) (by decide) ?_
          refine AOps.val (Y.load sh3 rfl rfl rfl rfl) (by decide) ?_
          refine AOps.val (Y.indexO (m := q.a.toNat) sl42 rfl rfl (by omega) (by omega)) (by decide) ?_
          refine AOps.val (Y.load sh3 rfl (ifill_get (n := l.length) (out := touts l ins ix) (i := q.a.toNat) (by omega)) rfl rfl) (by decide) ?_
          first | refine AOps.val (Y.addI rfl rfl (by omega)) (by decide) ?_ | refine AOps.val (Y.add rfl rfl rfl) (by decide) ?_
          refine AOps.val (Y.indexO (m := ix) sl42 rfl rfl (by omega) (by omega)) (by decide) ?_
          refine AOps.storeE (ifill l.length (touts l ins (ix + 1))) si3 rfl rfl rfl rfl rfl rfl rfl (ifill_row hol (by omega)) (Nat.le_of_ble_eq_true rfl) (by rw [touts_succ hg]; exact (ifill_set (n := l.length) (out := touts l ins ix) (i := ix) _ hol (by omega)).trans (congrArg (fun b => ifill l.length (touts l ins ix ++ [b])) (by rw [tOf_not k4]))) ?_
          refine AOps.nil ?_
          refine AWp.region ?_
          first | refine AOps.val (Y.addI rfl rfl (by omega)) (by decide) ?_ | refine AOps.val (Y.add rfl rfl rfl) (by decide) ?_
          first | refine AOps.val (Y.move rfl rfl) (by decide) ?_ | refine AOps.moveU rfl (by decide) ?_
          refine AOps.nil ?_
          exact ⟨ix + 1, by omega, by omega, Le.mk (by repeat (first | exact SubL.nil | refine SubL.cons (by first | rfl | (rw [nin_succ hg, if_neg (by omega)]; rfl) | (rw [nin_succ hg, if_pos (by omega)]; rfl)) ?_)) (SubL.cons (by first | rfl | (rw [touts_succ hg, tOf_none (by omega) (by omega) (by omega), ← ifill_same (by omega)]; rfl)) SubL.nil)⟩
        · have k4 : ¬ q.kind = 4 := by simp only [operands] at c41; omega
          refine AWp.seq ?_
          refine AWp.region ?_
          refine AOps.val (Y.eql rfl rfl) (by decide) ?_
          first | refine AOps.val (Y.assign rfl rfl) (by decide) ?_ | refine AOps.assignU rfl (by decide) ?_
          refine AOps.nil ?_
          refine AWp.condD rfl (fun c52 => ?_) (fun c52 => ?_)
          · have k5 : q.kind = 5 ∨ q.kind = 6 ∨ q.kind = 7 := by simp only [operands] at c52; omega
            have hmx : 0 ≤ mx ((touts l ins ix).getD q.a.toNat 0) ((touts l ins ix).getD q.b.toNat 0) ∧ mx ((touts l ins ix).getD q.a.toNat 0) ((touts l ins ix).getD q.b.toNat 0) ≤ 65535 + 20 * (ix : Int) := by simp only [mx]; omega
            refine AWp.regionT 15 rfl (by kernel_rfl) ?_
            first | refine AHead.val (Y.move rfl rfl) (by decide) ?_ | refine AHead.moveU rfl (by decide) ?_
            first | refine AHead.val (Y.move rfl rfl) (by decide) ?_ | refine AHead.moveU rfl (by decide) ?_
            first | refine AHead.val (Y.move rfl rfl) (by decide) ?_ | refine AHead.moveU rfl (by decide) ?_
            refine AHead.val (Y.fieldAddr fl38_1 rfl rfl) (by decide) ?_
            refine AHead.val (Y.load sh3 rfl rfl rfl rfl) (by decide) ?_
            refine AHead.val (Y.indexO (m := q.a.toNat) sl42 rfl rfl (by omega) (by omega)) (by decide) ?_
            refine AHead.val (Y.load sh3 rfl (ifill_get (n := l.length) (out := touts l ins ix) (i := q.a.toNat) (by omega)) rfl rfl) (by decide) ?_
            first | refine AHead.val (Y.move rfl rfl) (by decide) ?_ | refine AHead.moveU rfl (by decide) ?_
            refine AHead.val (Y.fieldAddr fl38_2 rfl rfl) (by decide) ?_
            refine AHead.val (Y.load sh3 rfl rfl rfl rfl) (by decide) ?_
            refine AHead.val (Y.indexO (m := q.b.toNat) sl42 rfl rfl (by omega) (by omega)) (by decide) ?_
            refine AHead.val (Y.load sh3 rfl (ifill_get (n := l.length) (out := touts l ins ix) (i := q.b.toNat) (by omega)) rfl rfl) (by decide) ?_
            refine AHead.val (Y.max (r := mx ((touts l ins ix).getD q.a.toNat 0) ((touts l ins ix).getD q.b.toNat 0)) rfl rfl rfl) (by decide) ?_
            first | refine AHead.val (Y.addI rfl rfl (by omega)) (by decide) ?_ | refine AHead.val (Y.add rfl rfl rfl) (by decide) ?_
            refine AHead.val (Y.indexO (m := ix) sl42 rfl rfl (by omega) (by omega)) (by decide) ?_
            refine AHead.nil ?_
            refine AOps.storeE (ifill l.length (touts l ins (ix + 1))) si3 rfl rfl rfl rfl rfl rfl rfl (ifill_row hol (by omega)) (Nat.le_of_ble_eq_true rfl) (by rw [touts_succ hg]; exact (ifill_set (n := l.length) (out := touts l ins ix) (i := ix) _ hol (by omega)).trans (congrArg (fun b => ifill l.length (touts l ins ix ++ [b])) (by rw [tOf_two k5]))) ?_
            refine AOps.nil ?_
            refine AWp.region ?_
            first | refine AOps.val (Y.addI rfl rfl (by omega)) (by decide) ?_ | refine AOps.val (Y.add rfl rfl rfl) (by decide) ?_
            first | refine AOps.val (Y.move rfl rfl) (by decide) ?_ | refine AOps.moveU rfl (by decide) ?_
            refine AOps.nil ?_
            exact ⟨ix + 1, by omega, by omega, Le.mk (by repeat (first | exact SubL.nil | refine SubL.cons (by first | rfl | (rw [nin_succ hg, if_neg (by omega)]; rfl) | (rw [nin_succ hg, if_pos (by omega)]; rfl)) ?_)) (SubL.cons (by first | rfl | (rw [touts_succ hg, tOf_none (by omega) (by omega) (by omega), ← ifill_same (by omega)]; rfl)) SubL.nil)⟩
          · have k5 : ¬ (q.kind = 5 ∨ q.kind = 6 ∨ q.kind = 7) := by simp only [operands] at c52; omega
            refine AWp.seq ?_
            refine AWp.region ?_
            refine AOps.val (Y.fieldAddr fl38_0 rfl rfl) (by decide) ?_
            refine AOps.val (Y.load sh3 rfl rfl rfl rfl) (by decide) ?_
            refine AOps.val (Y.eql rfl rfl) (by decide) ?_
            refine AOps.nil ?_
            refine AWp.condD rfl (fun c32 => ?_) (fun c32 => ?_)
            · have hlt := nin_lt hg c32
              refine AWp.regionAny rfl ?_
              refine AAny.blind 0 rfl (by kernel_rfl) (Blind.move rfl rfl) (by decide) ?_
              refine AAny.blind 1 rfl (by kernel_rfl) (Blind.move rfl rfl) (by decide) ?_
              refine AAny.blind 2 rfl (by kernel_rfl) (Blind.move rfl rfl) (by decide) ?_
              refine AAny.blind 5 rfl (by kernel_rfl) (Blind.move rfl rfl) (by decide) ?_
              refine AAny.blind 6 rfl (by kernel_rfl) (Blind.sliceF sl42 rfl (.some rfl) (.none _) (by simp; omega) (Nat.le_refl _) (tail_drop irow _ _)) (by decide) ?_
              refine AAny.one 3 rfl (by kernel_rfl) ?_
              refine AOps.val (Y.indexF sl42 rfl rfl (m := 0) rfl (head_drop (f := irow) 0 (by omega))) (by decide) ?_
              refine AOps.nil ⟨rfl, ?_⟩
              refine AAny.one 4 rfl (by kernel_rfl) ?_
              refine AOps.val (Y.load sh3 rfl rfl rfl rfl) (by decide) ?_
              refine AOps.nil ⟨rfl, ?_⟩
              refine AAny.one 7 rfl (by kernel_rfl) ?_
              refine AOps.val (Y.indexO (m := ix) sl42 rfl rfl (by omega) (by omega)) (by decide) ?_
              refine AOps.nil ⟨rfl, ?_⟩
              refine AAny.one 8 rfl (by kernel_rfl) ?_
              refine AOps.storeE (ifill l.length (touts l ins (ix + 1))) si3 rfl rfl rfl rfl rfl rfl rfl (ifill_row hol (by omega)) (Nat.le_of_ble_eq_true rfl) (by rw [touts_succ hg]; exact (ifill_set (n := l.length) (out := touts l ins ix) (i := ix) _ hol (by omega)).trans (congrArg (fun b => ifill l.length (touts l ins ix ++ [b])) (by rw [tOf_in c32]))) ?_
              refine AOps.nil ⟨rfl, ?_⟩
              refine AAny.one 9 rfl (by kernel_rfl) ?_
              first | refine AOps.val (Y.assign rfl rfl) (by decide) ?_ | refine AOps.assignU rfl (by decide) ?_
              refine AOps.nil ⟨rfl, ?_⟩
              refine AAny.done (by kernel_rfl) ?_
              refine AWp.region ?_
              first | refine AOps.val (Y.addI rfl rfl (by omega)) (by decide) ?_ | refine AOps.val (Y.add rfl rfl rfl) (by decide) ?_
              first | refine AOps.val (Y.move rfl rfl) (by decide) ?_ | refine AOps.moveU rfl (by decide) ?_
              refine AOps.nil ?_
              exact ⟨ix + 1, by omega, by omega, Le.mk (by repeat (first | exact SubL.nil | refine SubL.cons (by first | rfl | (rw [nin_succ hg, if_neg (by omega)]; rfl) | (rw [nin_succ hg, if_pos (by omega)]; rfl)) ?_)) (SubL.cons (by first | rfl | (rw [touts_succ hg, tOf_none (by omega) (by omega) (by omega), ← ifill_same (by omega)]; rfl)) SubL.nil)⟩
            · refine AWp.skip ?_
              refine AWp.region ?_
              first | refine AOps.val (Y.addI rfl rfl (by omega)) (by decide) ?_ | refine AOps.val (Y.add rfl rfl rfl) (by decide) ?_
              first | refine AOps.val (Y.move rfl rfl) (by decide) ?_ | refine AOps.moveU rfl (by decide) ?_
              refine AOps.nil ?_
              exact ⟨ix + 1, by omega, by omega, Le.mk (by repeat (first | exact SubL.nil | refine SubL.cons (by first | rfl | (rw [nin_succ hg, if_neg (by omega)]; rfl) | (rw [nin_succ hg, if_pos (by omega)]; rfl)) ?_)) (SubL.cons (by first | rfl | (rw [touts_succ hg, tOf_none (by omega) (by omega) (by omega), ← ifill_same (by omega)]; rfl)) SubL.nil)⟩
      · refine AWp.exit ?_
        refine AWp.seq ?_
        refine AWp.region ?_
        first | refine AOps.val (Y.move rfl rfl) (by decide) ?_ | refine AOps.moveU rfl (by decide) ?_
        first | refine AOps.val (Y.assign rfl rfl) (by decide) ?_ | refine AOps.assignU rfl (by decide) ?_
        refine AOps.sh (Sh.detach (d := 4) (o := 106) rfl rfl (by rw [ifill_length (by rw [touts_length hI]; omega)]) (by decide)) ?_
        refine AOps.val (Y.assign rfl rfl) (by decide) ?_
        refine AOps.nil ?_
        refine AWp.ret ?_
        exact ⟨_, _, rfl, rfl, by rw [depthR_ok hb hin, show l.length = ix by omega, ifill_full (touts_length (by omega))]; rfl, rfl⟩

set_option maxHeartbeats 1000000 in
theorem depths_form {l : List Gate} (hl : l.length ≤ 1073741824) (hb : ¬ Good l) : ACalls Try.prog 19 [.fz 3 (l.map Gate.row), .no] [] [] (fun r o => r = retX 1 [] 3 ∧ o = []) := by
  refine ACalls.of Try.func19 rfl rfl rfl (n := 71) (by decide) (Nat.le_of_ble_eq_true rfl) ?_
  refine AWp.seq ?_
  refine AWp.region ?_
  refine AOps.val (Y.assign rfl rfl) (by decide) ?_
  refine AOps.val (Y.assign rfl rfl) (by decide) ?_
  refine AOps.nil ?_
  refine AWp.seq ?_
  refine AWp.seq ?_
  refine AWp.region ?_
  first | refine AOps.val (Y.move rfl rfl) (by decide) ?_ | refine AOps.moveU rfl (by decide) ?_
  refine AOps.callP ok12 (check_spec (by omega)) rfl (.keep rfl rfl .nil) (by decide) rfl ?_
  refine AOps.val (Y.neq rfl rfl) (by decide) ?_
  refine AOps.nil ?_
  refine AWp.condD rfl (fun c11 => ?_) (fun c11 => ?_)
  · refine AWp.seq ?_
    refine AWp.region ?_
    refine AOps.val (Y.assign rfl rfl) (by decide) ?_
    refine AOps.sh (Sh.nilU (d := 4) 1 rfl) ?_
    refine AOps.val (Y.assign rfl rfl) (by decide) ?_
    refine AOps.nil ?_
    refine AWp.ret ?_
    exact ⟨_, _, rfl, rfl, rfl, rfl⟩
  · exact absurd (by rw [show check l = 3 from if_neg hb]; decide) c11

set_option maxHeartbeats 1000000 in
theorem refDepths_spec {l : List Gate} {ins : List Int} (hl : l.length ≤ 1073741824) (hb : Good l) (hin : ins.length = nin l) (hins : Small 65535 ins) : ACalls Try.prog 20 [.fz 3 (l.map Gate.row), .fz 1 (ins.map irow)] [] [] (fun r o => r = .uni 1 ((touts l ins l.length).map irow) ∧ o = []) := by
  refine ACalls.of Try.func20 rfl rfl rfl (n := 59) (by decide) (Nat.le_of_ble_eq_true rfl) ?_
  refine AWp.seq ?_
  refine AWp.region ?_
  refine AOps.val (Y.assign rfl rfl) (by decide) ?_
  refine AOps.nil ?_
  refine AWp.seq ?_
  refine AWp.region ?_
  refine AOps.val (Y.assign rfl rfl) (by decide) ?_
  refine AOps.nil ?_
  refine AWp.seq ?_
  refine AWp.region ?_
  refine AOps.val (Y.assign rfl rfl) (by decide) ?_
  refine AOps.nil ?_
  refine AWp.seq ?_
  refine AWp.seq ?_
  refine AWp.sh (Sh.nil (d := 5) 105 1 rfl (by decide)) ?_
  refine AWp.region ?_
  refine AOps.val (Y.assign rfl rfl) (by decide) ?_
  refine AOps.nil ?_
  refine AWp.block ?_
  refine AWp.loop (fun (ix : Nat) => ⟨[(6, .v (.int .i64 ((nin (l.take ix) : Nat)))), (7, .v (.int .i64 ((ix : Int)))), (5, .slc 105 1 0 ix), (0, .fz 3 (l.map Gate.row)), (1, .fz 1 (ins.map irow))], [(105, .rows 1 ((touts l ins ix).map irow))]⟩) (fun ix => ix ≤ l.length) (fun ix => l.length - ix) (0) (by omega) (Le.mk (by repeat (first | exact SubL.nil | refine SubL.cons (by first | rfl | (rw [nin_zero]; rfl)) ?_)) (SubL.cons rfl SubL.nil)) (fun ix hI => ?_)
  refine AWp.seq ?_
  refine AWp.seq ?_
  refine AWp.region ?_
  first | refine AOps.val (Y.move rfl rfl) (by decide) ?_ | refine AOps.moveU rfl (by decide) ?_
  first | refine AOps.val (Y.move rfl rfl) (by decide) ?_ | refine AOps.moveU rfl (by decide) ?_
  refine AOps.val (Y.len sl22 rfl (n := l.length) (congrArg some (List.length_map ..))) (by decide) ?_
  refine AOps.val (Y.lss rfl rfl) (by decide) ?_
  refine AOps.nil ?_
  refine AWp.condD rfl (fun c13 => ?_) (fun c13 => ?_)
  · obtain ⟨q, hg⟩ : ∃ q, l[ix]? = some q := ⟨_, List.getElem?_eq_getElem (by omega)⟩
    have hol : (touts l ins ix).length = ix := touts_length (by omega)
    have hok := hb ix q hg
    simp only [okGate, okArg, operands] at hok
    have hnl := nin_take_le l ix
    have hnl2 := nin_le l
    have hsm := touts_small (l := l) hins ix
    have hva := hsm.get (by omega) q.a.toNat
    have hvb := hsm.get (by omega) q.b.toNat
    have hmx : 0 ≤ mx ((touts l ins ix).getD q.a.toNat 0) ((touts l ins ix).getD q.b.toNat 0) ∧ mx ((touts l ins ix).getD q.a.toNat 0) ((touts l ins ix).getD q.b.toNat 0) ≤ 65535 + 20 * (ix : Int) := by simp only [mx]; omega
    refine AWp.skip ?_
    refine AWp.seq ?_
    refine AWp.block ?_
    refine AWp.seq ?_
    refine AWp.region ?_
    first | refine AOps.val (Y.move rfl rfl) (by decide) ?_ | refine AOps.moveU rfl (by decide) ?_
    first | refine AOps.val (Y.move rfl rfl) (by decide) ?_ | refine AOps.moveU rfl (by decide) ?_
    refine AOps.val (Y.indexF sl22 rfl rfl rfl (getElem?_map' hg)) (by decide) ?_
    refine AOps.val (Y.loadA sh38 rfl rfl (Nat.le_of_ble_eq_true rfl) rfl rfl) (by decide) ?_
    refine AOps.alloc 108 ze38 rfl rfl (by decide) ?_
    first | refine AOps.storeC si38 rfl rfl rfl rfl rfl rfl (Nat.le_of_ble_eq_true rfl) rfl ?_ | refine AOps.storeR si38 rfl rfl rfl rfl rfl rfl rfl (by first | assumption | exact getElem?_map' (by assumption)) (Nat.le_of_ble_eq_true rfl) ?_
    refine AOps.nil ?_
    refine AWp.seq ?_
    refine AWp.region ?_
    refine AOps.val (Y.assign rfl rfl) (by decide) ?_
    refine AOps.nil ?_
    refine AWp.join (fun (u : Int × Int) => ⟨[(9, .v (.int .i64 u.1)), (6, .v (.int .i64 u.2)), (7, .v (.int .i64 ((ix : Int)))), (5, .slc 105 1 0 ix), (0, .fz 3 (l.map Gate.row)), (1, .fz 1 (ins.map irow))], [(105, .rows 1 ((touts l ins ix).map irow))]⟩) (fun u => u.1 = tOf (touts l ins ix) ins (nin (l.take ix)) q ∧ u.2 = (nin (l.take (ix + 1)) : Nat)) ?_ (fun u hJ => ?_)
    · refine AWp.seq ?_
      refine AWp.region ?_
      refine AOps.val (Y.fieldAddr fl38_0 rfl rfl) (by decide) ?_
      refine AOps.val (Y.load sh3 rfl rfl rfl rfl) (by decide) ?_
      refine AOps.nil ?_
      refine AWp.block ?_
      refine AWp.seq ?_
      refine AWp.region ?_
      refine AOps.val (Y.eql rfl rfl) (by decide) ?_
      first | refine AOps.val (Y.assign rfl rfl) (by decide) ?_ | refine AOps.assignU rfl (by decide) ?_
      refine AOps.nil ?_
      refine AWp.condD rfl (fun c22 => ?_) (fun c22 => ?_)
      · have hlt := nin_lt hg c22
        refine AWp.seq ?_
        refine AWp.region ?_
        first | refine AOps.val (Y.move rfl rfl) (by decide) ?_ | refine AOps.moveU rfl (by decide) ?_
        first | refine AOps.val (Y.move rfl rfl) (by decide) ?_ | refine AOps.moveU rfl (by decide) ?_
        refine AOps.val (Y.indexF sl42 rfl rfl rfl (map_row (f := irow) 0 (by omega))) (by decide) ?_
        refine AOps.val (Y.load sh3 rfl rfl rfl rfl) (by decide) ?_
        first | refine AOps.val (Y.assign rfl rfl) (by decide) ?_ | refine AOps.assignU rfl (by decide) ?_
        refine AOps.nil ?_
        refine AWp.region ?_
        first | refine AOps.val (Y.move rfl rfl) (by decide) ?_ | refine AOps.moveU rfl (by decide) ?_
        first | refine AOps.val (Y.addI rfl rfl (by omega)) (by decide) ?_ | refine AOps.val (Y.add rfl rfl rfl) (by decide) ?_
        first | refine AOps.val (Y.assign rfl rfl) (by decide) ?_ | refine AOps.assignU rfl (by decide) ?_
        refine AOps.nil ?_
        refine ⟨(_, _), ?_, Le.mk (SubL.cons rfl (SubL.cons rfl (SubL.cons rfl (SubL.cons rfl (SubL.cons rfl (SubL.cons rfl (SubL.nil))))))) (SubL.cons rfl (SubL.nil))⟩
        refine ⟨by first | (rw [tOf_in (by omega)]; done) | (rw [tOf_in (by omega)]; rfl) | (rw [tOf_not (by omega)]; done) | (rw [tOf_two (by omega)]; done) | (rw [tOf_none (by omega) (by omega) (by omega)]; done), by rw [nin_succ hg]; first | (rw [if_pos (by omega)]; rfl) | (rw [if_neg (by omega)]; rfl)⟩
      · refine AWp.seq ?_
        refine AWp.region ?_
        refine AOps.val (Y.eql rfl rfl) (by decide) ?_
        first | refine AOps.val (Y.assign rfl rfl) (by decide) ?_ | refine AOps.assignU rfl (by decide) ?_
        refine AOps.nil ?_
        refine AWp.condD rfl (fun c30 => ?_) (fun c30 => ?_)
        · refine AWp.region ?_
          first | refine AOps.val (Y.move rfl rfl) (by decide) ?_ | refine AOps.moveU rfl (by decide) ?_
          refine AOps.val (Y.fieldAddr fl38_1 rfl rfl) (by decide) ?_
          refine AOps.val (Y.load sh3 rfl rfl rfl rfl) (by decide) ?_
          refine AOps.val (Y.indexO (m := q.a.toNat) sl42 rfl rfl (by omega) (by omega)) (by decide) ?_
          refine AOps.val (Y.load sh3 rfl (irow0 (out := touts l ins ix) (k := q.a.toNat) (by rw [hol]; omega)) rfl rfl) (by decide) ?_
          first | refine AOps.val (Y.addI rfl rfl (by omega)) (by decide) ?_ | refine AOps.val (Y.add rfl rfl rfl) (by decide) ?_
          first | refine AOps.val (Y.assign rfl rfl) (by decide) ?_ | refine AOps.assignU rfl (by decide) ?_
          refine AOps.nil ?_
          refine ⟨(_, _), ?_, Le.mk (SubL.cons rfl (SubL.cons rfl (SubL.cons rfl (SubL.cons rfl (SubL.cons rfl (SubL.cons rfl (SubL.nil))))))) (SubL.cons rfl (SubL.nil))⟩
          refine ⟨by first | (rw [tOf_in (by omega)]; done) | (rw [tOf_in (by omega)]; rfl) | (rw [tOf_not (by omega)]; done) | (rw [tOf_two (by omega)]; done) | (rw [tOf_none (by omega) (by omega) (by omega)]; done), by rw [nin_succ hg]; first | (rw [if_pos (by omega)]; rfl) | (rw [if_neg (by omega)]; rfl)⟩
        · refine AWp.seq ?_
          refine AWp.seq ?_
          refine AWp.region ?_
          refine AOps.val (Y.eql rfl rfl) (by decide) ?_
          first | refine AOps.val (Y.assign rfl rfl) (by decide) ?_ | refine AOps.assignU rfl (by decide) ?_
          refine AOps.nil ?_
          refine AWp.condKD rfl (fun c38 => ?_) (fun c38 => ?_)
          · refine AWp.skip ?_
            refine AWp.condT rfl ?_
            refine AWp.regionS rfl (by kernel_rfl) ?_
            first | refine AHead.val (Y.move rfl rfl) (by decide) ?_ | refine AHead.moveU rfl (by decide) ?_
            refine AHead.val (Y.fieldAddr fl38_1 rfl rfl) (by decide) ?_
            refine AHead.val (Y.load sh3 rfl rfl rfl rfl) (by decide) ?_
            refine AHead.val (Y.indexO (m := q.a.toNat) sl42 rfl rfl (by omega) (by omega)) (by decide) ?_
            refine AHead.val (Y.load sh3 rfl (irow0 (out := touts l ins ix) (k := q.a.toNat) (by rw [hol]; omega)) rfl rfl) (by decide) ?_
            first | refine AHead.val (Y.move rfl rfl) (by decide) ?_ | refine AHead.moveU rfl (by decide) ?_
            refine AHead.val (Y.fieldAddr fl38_2 rfl rfl) (by decide) ?_
            refine AHead.val (Y.load sh3 rfl rfl rfl rfl) (by decide) ?_
            refine AHead.val (Y.indexO (m := q.b.toNat) sl42 rfl rfl (by omega) (by omega)) (by decide) ?_
            refine AHead.val (Y.load sh3 rfl (irow0 (out := touts l ins ix) (k := q.b.toNat) (by rw [hol]; omega)) rfl rfl) (by decide) ?_
            refine AHead.val (Y.max (r := mx ((touts l ins ix).getD q.a.toNat 0) ((touts l ins ix).getD q.b.toNat 0)) rfl rfl rfl) (by decide) ?_
            first | refine AHead.val (Y.addI rfl rfl (by omega)) (by decide) ?_ | refine AHead.val (Y.add rfl rfl rfl) (by decide) ?_
            first | refine AHead.val (Y.assign rfl rfl) (by decide) ?_ | refine AHead.assignU rfl (by decide) ?_
            refine AHead.nil ?_
            refine ⟨(_, _), ?_, Le.mk (SubL.cons rfl (SubL.cons rfl (SubL.cons rfl (SubL.cons rfl (SubL.cons rfl (SubL.cons rfl (SubL.nil))))))) (SubL.cons rfl (SubL.nil))⟩
            refine ⟨by first | (rw [tOf_in (by omega)]; done) | (rw [tOf_in (by omega)]; rfl) | (rw [tOf_not (by omega)]; done) | (rw [tOf_two (by omega)]; done) | (rw [tOf_none (by omega) (by omega) (by omega)]; done), by rw [nin_succ hg]; first | (rw [if_pos (by omega)]; rfl) | (rw [if_neg (by omega)]; rfl)⟩
          · refine AWp.seq ?_
            refine AWp.region ?_
            refine AOps.val (Y.eql rfl rfl) (by decide) ?_
            first | refine AOps.val (Y.assign rfl rfl) (by decide) ?_ | refine AOps.assignU rfl (by decide) ?_
            refine AOps.nil ?_
            refine AWp.condKD rfl (fun c38 => ?_) (fun c38 => ?_)
            · refine AWp.skip ?_
              refine AWp.condT rfl ?_
              refine AWp.regionS rfl (by kernel_rfl) ?_
              first | refine AHead.val (Y.move rfl rfl) (by decide) ?_ | refine AHead.moveU rfl (by decide) ?_
              refine AHead.val (Y.fieldAddr fl38_1 rfl rfl) (by decide) ?_
              refine AHead.val (Y.load sh3 rfl rfl rfl rfl) (by decide) ?_
              refine AHead.val (Y.indexO (m := q.a.toNat) sl42 rfl rfl (by omega) (by omega)) (by decide) ?_
              refine AHead.val (Y.load sh3 rfl (irow0 (out := touts l ins ix) (k := q.a.toNat) (by rw [hol]; omega)) rfl rfl) (by decide) ?_
              first | refine AHead.val (Y.move rfl rfl) (by decide) ?_ | refine AHead.moveU rfl (by decide) ?_
              refine AHead.val (Y.fieldAddr fl38_2 rfl rfl) (by decide) ?_
              refine AHead.val (Y.load sh3 rfl rfl rfl rfl) (by decide) ?_
              refine AHead.val (Y.indexO (m := q.b.toNat) sl42 rfl rfl (by omega) (by omega)) (by decide) ?_
              refine AHead.val (Y.load sh3 rfl (irow0 (out := touts l ins ix) (k := q.b.toNat) (by rw [hol]; omega)) rfl rfl) (by decide) ?_
              refine AHead.val (Y.max (r := mx ((touts l ins ix).getD q.a.toNat 0) ((touts l ins ix).getD q.b.toNat 0)) rfl rfl rfl) (by decide) ?_
              first | refine AHead.val (Y.addI rfl rfl (by omega)) (by decide) ?_ | refine AHead.val (Y.add rfl rfl rfl) (by decide) ?_
              first | refine AHead.val (Y.assign rfl rfl) (by decide) ?_ | refine AHead.assignU rfl (by decide) ?_
              refine AHead.nil ?_
              refine ⟨(_, _), ?_, Le.mk (SubL.cons rfl (SubL.cons rfl (SubL.cons rfl (SubL.cons rfl (SubL.cons rfl (SubL.cons rfl (SubL.nil))))))) (SubL.cons rfl (SubL.nil))⟩
              refine ⟨by first | (rw [tOf_in (by omega)]; done) | (rw [tOf_in (by omega)]; rfl) | (rw [tOf_not (by omega)]; done) | (rw [tOf_two (by omega)]; done) | (rw [tOf_none (by omega) (by omega) (by omega)]; done), by rw [nin_succ hg]; first | (rw [if_pos (by omega)]; rfl) | (rw [if_neg (by omega)]; rfl)⟩
            · refine AWp.region ?_
              refine AOps.val (Y.eql rfl rfl) (by decide) ?_
              first | refine AOps.val (Y.assign rfl rfl) (by decide) ?_ | refine AOps.assignU rfl (by decide) ?_
              refine AOps.nil ?_
              refine AWp.condKD rfl (fun c38 => ?_) (fun c38 => ?_)
              · refine AWp.regionS rfl (by kernel_rfl) ?_
                first | refine AHead.val (Y.move rfl rfl) (by decide) ?_ | refine AHead.moveU rfl (by decide) ?_
                refine AHead.val (Y.fieldAddr fl38_1 rfl rfl) (by decide) ?_
                refine AHead.val (Y.load sh3 rfl rfl rfl rfl) (by decide) ?_
                refine AHead.val (Y.indexO (m := q.a.toNat) sl42 rfl rfl (by omega) (by omega)) (by decide) ?_
                refine AHead.val (Y.load sh3 rfl (irow0 (out := touts l ins ix) (k := q.a.toNat) (by rw [hol]; omega)) rfl rfl) (by decide) ?_
                first | refine AHead.val (Y.move rfl rfl) (by decide) ?_ | refine AHead.moveU rfl (by decide) ?_
                refine AHead.val (Y.fieldAddr fl38_2 rfl rfl) (by decide) ?_
                refine AHead.val (Y.load sh3 rfl rfl rfl rfl) (by decide) ?_
                refine AHead.val (Y.indexO (m := q.b.toNat) sl42 rfl rfl (by omega) (by omega)) (by decide) ?_
                refine AHead.val (Y.load sh3 rfl (irow0 (out := touts l ins ix) (k := q.b.toNat) (by rw [hol]; omega)) rfl rfl) (by decide) ?_
                refine AHead.val (Y.max (r := mx ((touts l ins ix).getD q.a.toNat 0) ((touts l ins ix).getD q.b.toNat 0)) rfl rfl rfl) (by decide) ?_
                first | refine AHead.val (Y.addI rfl rfl (by omega)) (by decide) ?_ | refine AHead.val (Y.add rfl rfl rfl) (by decide) ?_
                first | refine AHead.val (Y.assign rfl rfl) (by decide) ?_ | refine AHead.assignU rfl (by decide) ?_
                refine AHead.nil ?_
                refine ⟨(_, _), ?_, Le.mk (SubL.cons rfl (SubL.cons rfl (SubL.cons rfl (SubL.cons rfl (SubL.cons rfl (SubL.cons rfl (SubL.nil))))))) (SubL.cons rfl (SubL.nil))⟩
                refine ⟨by first | (rw [tOf_in (by omega)]; done) | (rw [tOf_in (by omega)]; rfl) | (rw [tOf_not (by omega)]; done) | (rw [tOf_two (by omega)]; done) | (rw [tOf_none (by omega) (by omega) (by omega)]; done), by rw [nin_succ hg]; first | (rw [if_pos (by omega)]; rfl) | (rw [if_neg (by omega)]; rfl)⟩
              · refine AWp.skip ?_
                refine ⟨(_, _), ?_, Le.mk (SubL.cons rfl (SubL.cons rfl (SubL.cons rfl (SubL.cons rfl (SubL.cons rfl (SubL.cons rfl (SubL.nil))))))) (SubL.cons rfl (SubL.nil))⟩
                refine ⟨by first | (rw [tOf_in (by omega)]; done) | (rw [tOf_in (by omega)]; rfl) | (rw [tOf_not (by omega)]; done) | (rw [tOf_two (by omega)]; done) | (rw [tOf_none (by omega) (by omega) (by omega)]; done), by rw [nin_succ hg]; first | (rw [if_pos (by omega)]; rfl) | (rw [if_neg (by omega)]; rfl)⟩
    · obtain ⟨b, m⟩ := u
      obtain ⟨hb1, rfl⟩ := hJ
      refine AWp.region ?_
      first | refine AOps.val (Y.move rfl rfl) (by decide) ?_ | refine AOps.moveU rfl (by decide) ?_
      first | refine AOps.val (Y.move rfl rfl) (by decide) ?_ | refine AOps.moveU rfl (by decide) ?_
      refine AOps.buildSlice ([[.v (.int .i64 b)]]) sl42 ze3 rfl rfl rfl rfl rfl (by intro r hr; simp at hr; (first | subst hr | (rcases hr with rfl | rfl)) <;> rfl) rfl rfl rfl (by decide) ?_
      refine AOps.appendE ((touts l ins (ix + 1)).map irow) (ix + 1) sl42 ze3 rfl rfl rfl rfl (by rw [List.length_map, hol]; omega) (touts_app hg (by omega) hb1) rfl (by omega) (by omega) (by decide) (by decide) ?_
      first | refine AOps.val (Y.assign rfl rfl) (by decide) ?_ | refine AOps.assignU rfl (by decide) ?_
      refine AOps.nil ?_
      refine AWp.region ?_
      first | refine AOps.val (Y.move rfl rfl) (by decide) ?_ | refine AOps.moveU rfl (by decide) ?_
      first | refine AOps.val (Y.addI rfl rfl (by omega)) (by decide) ?_ | refine AOps.val (Y.add rfl rfl rfl) (by decide) ?_
      first | refine AOps.val (Y.assign rfl rfl) (by decide) ?_ | refine AOps.assignU rfl (by decide) ?_
      refine AOps.nil ?_
      exact ⟨ix + 1, by omega, by omega, Le.mk (by repeat (first | exact SubL.nil | refine SubL.cons rfl ?_)) (by repeat (first | exact SubL.nil | refine SubL.cons rfl ?_))⟩
  · refine AWp.exit ?_
    refine AWp.seq ?_
    refine AWp.region ?_
    first | refine AOps.val (Y.move rfl rfl) (by decide) ?_ | refine AOps.moveU rfl (by decide) ?_
    first | refine AOps.val (Y.assign rfl rfl) (by decide) ?_ | refine AOps.assignU rfl (by decide) ?_
    refine AOps.sh (Sh.detach (d := 4) (o := 105) rfl rfl (by rw [List.length_map, touts_length hI]) (by decide)) ?_
    refine AOps.nil ?_
    refine AWp.ret ?_
    exact ⟨_, _, rfl, rfl, (by have h : ix = l.length := (by omega); subst h; rfl), rfl⟩

end Go.Proofs.Ytiehdnjcapjacaa
