/- The walks through the folder. -/
import Derived.Test.YtiehdnjcapjacaaGatesx1
import Derived.Test.YtiehdnjcapjacaaGatesx0
import Derived.Test.YtiehdnjcapjacaaAWx2
namespace Go.Proofs.Ytiehdnjcapjacaa
open Go Go.AW Go.Proofs



set_option maxHeartbeats 1000000 in
theorem put_spec {L : List Gate} {T : List (Gate × Nat)} {g : Gate} (hl : L.length ≤ 1048576) (hf : FOk L T) (hg : g.wf) : ACalls Try.prog 27 [.ptr 0 0 0 0, .agg g.row] (fobjs L T) [0, 2] (PutQ L g) := by
  refine ACalls.of Try.func27 rfl rfl rfl (n := 63) (by decide) (Nat.le_of_ble_eq_true rfl) ?_
  have hsw := swp_wf hg
  refine AWp.seq ?_
  refine AWp.region ?_
  refine AOps.box 103 rfl rfl rfl rfl rfl (by decide) ?_
  refine AOps.val (Y.assign rfl rfl) (by decide) ?_
  refine AOps.nil ?_
  refine AWp.join (fun (q : Gate) => ⟨[(0, .ptr 0 0 0 0), (3, .ptr 103 0 0 0)], [(0, .cells [.slc 1 3 0 L.length, .mref 2]), (1, .rows 3 (L.map Gate.row)), (2, .tab (T.map ent)), (103, .cells (Gate.row q))]⟩) (fun q => q = swp g) ?_ (fun q hq => ?_)
  · refine AWp.seq ?_
    refine AWp.region ?_
    refine AOps.val (Y.fieldAddr fl38_0 rfl rfl) (by decide) ?_
    refine AOps.val (Y.load sh3 rfl rfl rfl rfl) (by decide) ?_
    refine AOps.callP ok23 (operands_spec _) rfl (.keep rfl rfl .nil) (by decide) rfl ?_
    refine AOps.val (Y.eql rfl rfl) (by decide) ?_
    first | refine AOps.val (Y.move rfl rfl) (by decide) ?_ | refine AOps.moveU rfl (by decide) ?_
    refine AOps.splitD (d := 12) rfl (fun c12 => ?_) (fun c12 => ?_)
    · refine AOps.guardRun (d := 12) rfl (by decide) rfl ?_
      refine AOps.val (Y.fieldAddr fl38_1 rfl rfl) (by decide) ?_
      refine AOps.guardRun (d := 12) rfl (by decide) rfl ?_
      refine AOps.val (Y.load sh3 rfl rfl rfl rfl) (by decide) ?_
      refine AOps.guardRun (d := 12) rfl (by decide) rfl ?_
      refine AOps.val (Y.fieldAddr fl38_2 rfl rfl) (by decide) ?_
      refine AOps.guardRun (d := 12) rfl (by decide) rfl ?_
      refine AOps.val (Y.load sh3 rfl rfl rfl rfl) (by decide) ?_
      refine AOps.guardRun (d := 12) rfl (by decide) rfl ?_
      refine AOps.val (Y.gtr rfl rfl) (by decide) ?_
      refine AOps.val (Y.pick rfl rfl rfl) (by decide) ?_
      refine AOps.nil ?_
      refine AWp.condD rfl (fun c18 => ?_) (fun c18 => ?_)
      · refine AWp.region ?_
        refine AOps.val (Y.fieldAddr fl38_2 rfl rfl) (by decide) ?_
        refine AOps.val (Y.load sh3 rfl rfl rfl rfl) (by decide) ?_
        refine AOps.val (Y.fieldAddr fl38_1 rfl rfl) (by decide) ?_
        refine AOps.val (Y.load sh3 rfl rfl rfl rfl) (by decide) ?_
        refine AOps.val (Y.fieldAddr fl38_1 rfl rfl) (by decide) ?_
        first | refine AOps.storeC si3 rfl rfl rfl rfl rfl rfl (Nat.le_of_ble_eq_true rfl) rfl ?_ | refine AOps.storeR si3 rfl rfl rfl rfl rfl rfl rfl (by first | assumption | exact getElem?_map' (by assumption)) (Nat.le_of_ble_eq_true rfl) ?_
        refine AOps.val (Y.fieldAddr fl38_2 rfl rfl) (by decide) ?_
        first | refine AOps.storeC si3 rfl rfl rfl rfl rfl rfl (Nat.le_of_ble_eq_true rfl) rfl ?_ | refine AOps.storeR si3 rfl rfl rfl rfl rfl rfl rfl (by first | assumption | exact getElem?_map' (by assumption)) (Nat.le_of_ble_eq_true rfl) ?_
        refine AOps.nil ?_
        first | exact ⟨⟨g.kind, g.b, g.a⟩, (by unfold swp; rw [if_pos (by omega)]), Le.mk (by repeat (first | exact SubL.nil | refine SubL.cons rfl ?_)) (by repeat (first | exact SubL.nil | refine SubL.cons rfl ?_))⟩ | exact ⟨g, (by unfold swp; rw [if_neg (by omega)]), Le.mk (by repeat (first | exact SubL.nil | refine SubL.cons rfl ?_)) (by repeat (first | exact SubL.nil | refine SubL.cons rfl ?_))⟩
      · refine AWp.skip ?_
        first | exact ⟨⟨g.kind, g.b, g.a⟩, (by unfold swp; rw [if_pos (by omega)]), Le.mk (by repeat (first | exact SubL.nil | refine SubL.cons rfl ?_)) (by repeat (first | exact SubL.nil | refine SubL.cons rfl ?_))⟩ | exact ⟨g, (by unfold swp; rw [if_neg (by omega)]), Le.mk (by repeat (first | exact SubL.nil | refine SubL.cons rfl ?_)) (by repeat (first | exact SubL.nil | refine SubL.cons rfl ?_))⟩
    · refine AOps.guardSkipV (d := 12) rfl (by decide) (by decide) rfl rfl ?_
      refine AOps.guardSkipV (d := 12) rfl (by decide) (by decide) rfl rfl ?_
      refine AOps.guardSkipV (d := 12) rfl (by decide) (by decide) rfl rfl ?_
      refine AOps.guardSkipV (d := 12) rfl (by decide) (by decide) rfl rfl ?_
      refine AOps.guardSkipV (d := 12) rfl (by decide) (by decide) rfl rfl ?_
      refine AOps.val (Y.pick rfl rfl rfl) (by decide) ?_
      refine AOps.nil ?_
      refine AWp.condF rfl ?_
      refine AWp.skip ?_
      first | exact ⟨⟨g.kind, g.b, g.a⟩, (by unfold swp; rw [if_pos (by omega)]), Le.mk (by repeat (first | exact SubL.nil | refine SubL.cons rfl ?_)) (by repeat (first | exact SubL.nil | refine SubL.cons rfl ?_))⟩ | exact ⟨g, (by unfold swp; rw [if_neg (by omega)]), Le.mk (by repeat (first | exact SubL.nil | refine SubL.cons rfl ?_)) (by repeat (first | exact SubL.nil | refine SubL.cons rfl ?_))⟩
  · obtain ⟨l, hkl⟩ : ∃ l, keyOf Try.prog 38 q.key = some l := keyOf_gate (hq ▸ hsw)
    refine AWp.seq ?_
    refine AWp.seq ?_
    refine AWp.regionS rfl (by kernel_rfl) ?_
    first | refine AHead.val (Y.move rfl rfl) (by decide) ?_ | refine AHead.moveU rfl (by decide) ?_
    refine AHead.val (Y.nilCheck rfl rfl) (by decide) ?_
    refine AHead.val (Y.fieldAddr fl61_1 rfl rfl) (by decide) ?_
    refine AHead.val (Y.load sh59 rfl rfl rfl rfl) (by decide) ?_
    refine AHead.val (Y.loadA sh38 rfl rfl (Nat.le_of_ble_eq_true rfl) rfl rfl) (by decide) ?_
    refine AHead.lookupOk Try.underlying59 keyed38 (zero_run (zv := .int .i64 0) (by kernel_rfl)) rfl rfl rfl (Gate.key_word q) hkl hf.keys (by decide) (fun j v hj => ?_) (fun hn => ?_)
    · obtain ⟨i, hTi, rfl⟩ := ent_get hj
      first | refine AHead.val (Y.move rfl rfl) (by decide) ?_ | refine AHead.moveU rfl (by decide) ?_
      refine AHead.val (Y.extract rfl rfl rfl) (by decide) ?_
      refine AHead.val (Y.extract rfl rfl rfl) (by decide) ?_
      first | refine AHead.val (Y.assign rfl rfl) (by decide) ?_ | refine AHead.assignU rfl (by decide) ?_
      first | refine AHead.val (Y.assign rfl rfl) (by decide) ?_ | refine AHead.assignU rfl (by decide) ?_
      refine AHead.nil ?_
      refine AWp.seq ?_
      refine AWp.region ?_
      first | refine AOps.val (Y.move rfl rfl) (by decide) ?_ | refine AOps.moveU rfl (by decide) ?_
      first | refine AOps.val (Y.move rfl rfl) (by decide) ?_ | refine AOps.moveU rfl (by decide) ?_
      refine AOps.guardRun (d := 35) rfl (by decide) rfl ?_
      refine AOps.val (Y.fieldAddr fl38_0 rfl rfl) (by decide) ?_
      refine AOps.guardRun (d := 35) rfl (by decide) rfl ?_
      refine AOps.val (Y.load sh3 rfl rfl rfl rfl) (by decide) ?_
      refine AOps.guardRun (d := 35) rfl (by decide) rfl ?_
      refine AOps.val (Y.neq rfl rfl) (by decide) ?_
      refine AOps.val (Y.pick rfl rfl rfl) (by decide) ?_
      refine AOps.nil ?_
      refine AWp.condD rfl (fun c39 => ?_) (fun c39 => ?_)
      · refine AWp.seq ?_
        refine AWp.region ?_
        first | refine AOps.val (Y.move rfl rfl) (by decide) ?_ | refine AOps.moveU rfl (by decide) ?_
        first | refine AOps.val (Y.assign rfl rfl) (by decide) ?_ | refine AOps.assignU rfl (by decide) ?_
        refine AOps.nil ?_
        refine AWp.ret ?_
        first
          | exact ⟨_, _, rfl, rfl, L, T, i, rfl, rfl, hf, hq ▸ hf.at_ _ _ _ hTi, .inl ⟨rfl, hq ▸ c39⟩⟩
          | exact ⟨_, _, rfl, rfl, L ++ [q], T.set j (q, L.length), L.length, rfl, put_set rfl, hf.over (hq ▸ hsw) hTi2, by rw [← hq]; simp, .inr ⟨by rw [← hq], rfl, put_why hq (by first | exact .inl (by omega) | exact .inr (hf.notin hno))⟩⟩
          | exact ⟨_, _, rfl, rfl, L ++ [q], T ++ [(q, L.length)], L.length, rfl, put_push rfl, hf.push (hq ▸ hsw), by rw [← hq]; simp, .inr ⟨by rw [← hq], rfl, put_why hq (.inr (hf.notin hno2))⟩⟩
      · refine AWp.skip ?_
        refine AWp.seq ?_
        refine AWp.region ?_
        first | refine AOps.val (Y.move rfl rfl) (by decide) ?_ | refine AOps.moveU rfl (by decide) ?_
        refine AOps.val (Y.nilCheck rfl rfl) (by decide) ?_
        refine AOps.val (Y.fieldAddr fl61_0 rfl rfl) (by decide) ?_
        refine AOps.val (Y.load sh22 rfl rfl rfl rfl) (by decide) ?_
        refine AOps.val (Y.len sl22 rfl (n := L.length) rfl) (by decide) ?_
        first | refine AOps.val (Y.assign rfl rfl) (by decide) ?_ | refine AOps.assignU rfl (by decide) ?_
        refine AOps.nil ?_
        refine AWp.seq ?_
        refine AWp.regionAnyJ (⟨[(7, .v (.int .i64 ((L.length : Nat)))), (0, .ptr 0 0 0 0), (3, .ptr 103 0 0 0)], [(0, .cells [.slc 1 3 0 (L.length + 1), .mref 2]), (1, .rows 3 ((L ++ [q]).map Gate.row)), (2, .tab (T.map ent)), (103, .cells (Gate.row q))]⟩) rfl ?_ ?_
        · refine AAny.blind 0 rfl (by kernel_rfl) (Blind.move rfl rfl) (by decide) ?_
          refine AAny.blind 1 rfl (by kernel_rfl) (Blind.move rfl rfl) (by decide) ?_
          refine AAny.blind 2 rfl (by kernel_rfl) (Blind.nilCheck rfl rfl) (by decide) ?_
          refine AAny.blind 3 rfl (by kernel_rfl) (Blind.fieldAddr fl61_0 rfl rfl) (by decide) ?_
          refine AAny.two 4 5 rfl rfl (by kernel_rfl) ?_ ?_
          · refine AOps.val (Y.load sh22 rfl rfl rfl rfl) (by decide) ?_
            refine AOps.nil ⟨rfl, ?_⟩
            refine AAny.one 5 rfl (by kernel_rfl) ?_
            refine AOps.val (Y.loadA sh38 rfl rfl (Nat.le_of_ble_eq_true rfl) rfl rfl) (by decide) ?_
            refine AOps.nil ⟨rfl, ?_⟩
            refine AAny.one 6 rfl (by kernel_rfl) ?_
            refine AOps.buildSlice [Gate.row q] sl22 ze38 rfl rfl rfl rfl rfl (by intro r hr; simp only [List.mem_singleton] at hr; subst hr; rfl) rfl rfl rfl (by decide) ?_
            refine AOps.nil ⟨rfl, ?_⟩
            refine AAny.one 7 rfl (by kernel_rfl) ?_
            refine AOps.appendE ((L ++ [q]).map Gate.row) (L.length + 1) sl22 ze38 rfl rfl rfl rfl (by rw [List.length_map]; omega) (by rw [drop0_take (by rw [List.length_map]), List.map_append]; rfl) rfl (by omega) (by omega) (by decide) (by decide) ?_
            refine AOps.nil ⟨rfl, ?_⟩
            refine AAny.blind 8 rfl (by kernel_rfl) (Blind.nilCheck rfl rfl) (by decide) ?_
            refine AAny.blind 9 rfl (by kernel_rfl) (Blind.fieldAddr fl61_0 rfl rfl) (by decide) ?_
            refine AAny.one 10 rfl (by kernel_rfl) ?_
            first | refine AOps.storeC si22 rfl rfl rfl rfl rfl rfl (Nat.le_of_ble_eq_true rfl) rfl ?_ | refine AOps.storeR si22 rfl rfl rfl rfl rfl rfl rfl (by first | assumption | exact getElem?_map' (by assumption)) (Nat.le_of_ble_eq_true rfl) ?_
            refine AOps.nil ⟨rfl, ?_⟩
            refine AAny.done (by kernel_rfl) ?_
            exact Le.mk (by repeat (first | exact SubL.nil | refine SubL.cons rfl ?_)) (by repeat (first | exact SubL.nil | refine SubL.cons rfl ?_))
          · refine AOps.val (Y.loadA sh38 rfl rfl (Nat.le_of_ble_eq_true rfl) rfl rfl) (by decide) ?_
            refine AOps.nil ⟨rfl, ?_⟩
            refine AAny.two 4 6 rfl rfl (by kernel_rfl) ?_ ?_
            · refine AOps.val (Y.load sh22 rfl rfl rfl rfl) (by decide) ?_
              refine AOps.nil ⟨rfl, ?_⟩
              refine AAny.one 6 rfl (by kernel_rfl) ?_
              refine AOps.buildSlice [Gate.row q] sl22 ze38 rfl rfl rfl rfl rfl (by intro r hr; simp only [List.mem_singleton] at hr; subst hr; rfl) rfl rfl rfl (by decide) ?_
              refine AOps.nil ⟨rfl, ?_⟩
              refine AAny.one 7 rfl (by kernel_rfl) ?_
              refine AOps.appendE ((L ++ [q]).map Gate.row) (L.length + 1) sl22 ze38 rfl rfl rfl rfl (by rw [List.length_map]; omega) (by rw [drop0_take (by rw [List.length_map]), List.map_append]; rfl) rfl (by omega) (by omega) (by decide) (by decide) ?_
              refine AOps.nil ⟨rfl, ?_⟩
              refine AAny.blind 8 rfl (by kernel_rfl) (Blind.nilCheck rfl rfl) (by decide) ?_
              refine AAny.blind 9 rfl (by kernel_rfl) (Blind.fieldAddr fl61_0 rfl rfl) (by decide) ?_
              refine AAny.one 10 rfl (by kernel_rfl) ?_
              first | refine AOps.storeC si22 rfl rfl rfl rfl rfl rfl (Nat.le_of_ble_eq_true rfl) rfl ?_ | refine AOps.storeR si22 rfl rfl rfl rfl rfl rfl rfl (by first | assumption | exact getElem?_map' (by assumption)) (Nat.le_of_ble_eq_true rfl) ?_
              refine AOps.nil ⟨rfl, ?_⟩
              refine AAny.done (by kernel_rfl) ?_
              exact Le.mk (by repeat (first | exact SubL.nil | refine SubL.cons rfl ?_)) (by repeat (first | exact SubL.nil | refine SubL.cons rfl ?_))
            · refine AOps.buildSlice [Gate.row q] sl22 ze38 rfl rfl rfl rfl rfl (by intro r hr; simp only [List.mem_singleton] at hr; subst hr; rfl) rfl rfl rfl (by decide) ?_
              refine AOps.nil ⟨rfl, ?_⟩
              refine AAny.one 4 rfl (by kernel_rfl) ?_
              refine AOps.val (Y.load sh22 rfl rfl rfl rfl) (by decide) ?_
              refine AOps.nil ⟨rfl, ?_⟩
              refine AAny.one 7 rfl (by kernel_rfl) ?_
              refine AOps.appendE ((L ++ [q]).map Gate.row) (L.length + 1) sl22 ze38 rfl rfl rfl rfl (by rw [List.length_map]; omega) (by rw [drop0_take (by rw [List.length_map]), List.map_append]; rfl) rfl (by omega) (by omega) (by decide) (by decide) ?_
              refine AOps.nil ⟨rfl, ?_⟩
              refine AAny.blind 8 rfl (by kernel_rfl) (Blind.nilCheck rfl rfl) (by decide) ?_
              refine AAny.blind 9 rfl (by kernel_rfl) (Blind.fieldAddr fl61_0 rfl rfl) (by decide) ?_
              refine AAny.one 10 rfl (by kernel_rfl) ?_
              first | refine AOps.storeC si22 rfl rfl rfl rfl rfl rfl (Nat.le_of_ble_eq_true rfl) rfl ?_ | refine AOps.storeR si22 rfl rfl rfl rfl rfl rfl rfl (by first | assumption | exact getElem?_map' (by assumption)) (Nat.le_of_ble_eq_true rfl) ?_
              refine AOps.nil ⟨rfl, ?_⟩
              refine AAny.done (by kernel_rfl) ?_
              exact Le.mk (by repeat (first | exact SubL.nil | refine SubL.cons rfl ?_)) (by repeat (first | exact SubL.nil | refine SubL.cons rfl ?_))
        · refine AWp.seq ?_
          refine AWp.regionT 6 rfl (by kernel_rfl) ?_
          first | refine AHead.val (Y.move rfl rfl) (by decide) ?_ | refine AHead.moveU rfl (by decide) ?_
          refine AHead.val (Y.nilCheck rfl rfl) (by decide) ?_
          refine AHead.val (Y.fieldAddr fl61_1 rfl rfl) (by decide) ?_
          refine AHead.val (Y.load sh59 rfl rfl rfl rfl) (by decide) ?_
          refine AHead.val (Y.loadA sh38 rfl rfl (Nat.le_of_ble_eq_true rfl) rfl rfl) (by decide) ?_
          first | refine AHead.val (Y.move rfl rfl) (by decide) ?_ | refine AHead.moveU rfl (by decide) ?_
          refine AHead.nil ?_
          refine AOps.mapUpdate Try.underlying59 keyed38 rfl rfl rfl (Gate.key_word q) rfl rfl hkl hf.keys (fun j v hj => ?_) (fun hn => ?_)
          · obtain ⟨i2, hTi2, rfl⟩ := ent_get hj
            refine AOps.nil ?_
            refine AWp.seq ?_
            refine AWp.region ?_
            first | refine AOps.val (Y.move rfl rfl) (by decide) ?_ | refine AOps.moveU rfl (by decide) ?_
            first | refine AOps.val (Y.assign rfl rfl) (by decide) ?_ | refine AOps.assignU rfl (by decide) ?_
            refine AOps.nil ?_
            refine AWp.ret ?_
            first
              | exact ⟨_, _, rfl, rfl, L, T, i, rfl, rfl, hf, hq ▸ hf.at_ _ _ _ hTi, .inl ⟨rfl, hq ▸ c39⟩⟩
              | exact ⟨_, _, rfl, rfl, L ++ [q], T.set j (q, L.length), L.length, rfl, put_set rfl, hf.over (hq ▸ hsw) hTi2, by rw [← hq]; simp, .inr ⟨by rw [← hq], rfl, put_why hq (by first | exact .inl (by omega) | exact .inr (hf.notin hno))⟩⟩
              | exact ⟨_, _, rfl, rfl, L ++ [q], T ++ [(q, L.length)], L.length, rfl, put_push rfl, hf.push (hq ▸ hsw), by rw [← hq]; simp, .inr ⟨by rw [← hq], rfl, put_why hq (.inr (hf.notin hno2))⟩⟩
          · have hno2 := ent_none hn
            refine AOps.nil ?_
            refine AWp.seq ?_
            refine AWp.region ?_
            first | refine AOps.val (Y.move rfl rfl) (by decide) ?_ | refine AOps.moveU rfl (by decide) ?_
            first | refine AOps.val (Y.assign rfl rfl) (by decide) ?_ | refine AOps.assignU rfl (by decide) ?_
            refine AOps.nil ?_
            refine AWp.ret ?_
            first
              | exact ⟨_, _, rfl, rfl, L, T, i, rfl, rfl, hf, hq ▸ hf.at_ _ _ _ hTi, .inl ⟨rfl, hq ▸ c39⟩⟩
              | exact ⟨_, _, rfl, rfl, L ++ [q], T.set j (q, L.length), L.length, rfl, put_set rfl, hf.over (hq ▸ hsw) hTi2, by rw [← hq]; simp, .inr ⟨by rw [← hq], rfl, put_why hq (by first | exact .inl (by omega) | exact .inr (hf.notin hno))⟩⟩
              | exact ⟨_, _, rfl, rfl, L ++ [q], T ++ [(q, L.length)], L.length, rfl, put_push rfl, hf.push (hq ▸ hsw), by rw [← hq]; simp, .inr ⟨by rw [← hq], rfl, put_why hq (.inr (hf.notin hno2))⟩⟩
    · have hno := ent_none hn
      first | refine AHead.val (Y.move rfl rfl) (by decide) ?_ | refine AHead.moveU rfl (by decide) ?_
      refine AHead.val (Y.extract rfl rfl rfl) (by decide) ?_
      refine AHead.val (Y.extract rfl rfl rfl) (by decide) ?_
      first | refine AHead.val (Y.assign rfl rfl) (by decide) ?_ | refine AHead.assignU rfl (by decide) ?_
      first | refine AHead.val (Y.assign rfl rfl) (by decide) ?_ | refine AHead.assignU rfl (by decide) ?_
      refine AHead.nil ?_
      refine AWp.seq ?_
      refine AWp.region ?_
      first | refine AOps.val (Y.move rfl rfl) (by decide) ?_ | refine AOps.moveU rfl (by decide) ?_
      first | refine AOps.val (Y.move rfl rfl) (by decide) ?_ | refine AOps.moveU rfl (by decide) ?_
      refine AOps.guardSkipV (d := 35) rfl (by decide) (by decide) rfl rfl ?_
      refine AOps.guardSkipV (d := 35) rfl (by decide) (by decide) rfl rfl ?_
      refine AOps.guardSkipV (d := 35) rfl (by decide) (by decide) rfl rfl ?_
      refine AOps.val (Y.pick rfl rfl rfl) (by decide) ?_
      refine AOps.nil ?_
      refine AWp.condF rfl ?_
      refine AWp.skip ?_
      refine AWp.seq ?_
      refine AWp.region ?_
      first | refine AOps.val (Y.move rfl rfl) (by decide) ?_ | refine AOps.moveU rfl (by decide) ?_
      refine AOps.val (Y.nilCheck rfl rfl) (by decide) ?_
      refine AOps.val (Y.fieldAddr fl61_0 rfl rfl) (by decide) ?_
      refine AOps.val (Y.load sh22 rfl rfl rfl rfl) (by decide) ?_
      refine AOps.val (Y.len sl22 rfl (n := L.length) rfl) (by decide) ?_
      first | refine AOps.val (Y.assign rfl rfl) (by decide) ?_ | refine AOps.assignU rfl (by decide) ?_
      refine AOps.nil ?_
      refine AWp.seq ?_
      refine AWp.regionAnyJ (⟨[(7, .v (.int .i64 ((L.length : Nat)))), (0, .ptr 0 0 0 0), (3, .ptr 103 0 0 0)], [(0, .cells [.slc 1 3 0 (L.length + 1), .mref 2]), (1, .rows 3 ((L ++ [q]).map Gate.row)), (2, .tab (T.map ent)), (103, .cells (Gate.row q))]⟩) rfl ?_ ?_
      · refine AAny.blind 0 rfl (by kernel_rfl) (Blind.move rfl rfl) (by decide) ?_
        refine AAny.blind 1 rfl (by kernel_rfl) (Blind.move rfl rfl) (by decide) ?_
        refine AAny.blind 2 rfl (by kernel_rfl) (Blind.nilCheck rfl rfl) (by decide) ?_
        refine AAny.blind 3 rfl (by kernel_rfl) (Blind.fieldAddr fl61_0 rfl rfl) (by decide) ?_
        refine AAny.two 4 5 rfl rfl (by kernel_rfl) ?_ ?_
        · refine AOps.val (Y.load sh22 rfl rfl rfl rfl) (by decide) ?_
          refine AOps.nil ⟨rfl, ?_⟩
          refine AAny.one 5 rfl (by kernel_rfl) ?_
          refine AOps.val (Y.loadA sh38 rfl rfl (Nat.le_of_ble_eq_true rfl) rfl rfl) (by decide) ?_
          refine AOps.nil ⟨rfl, ?_⟩
          refine AAny.one 6 rfl (by kernel_rfl) ?_
          refine AOps.buildSlice [Gate.row q] sl22 ze38 rfl rfl rfl rfl rfl (by intro r hr; simp only [List.mem_singleton] at hr; subst hr; rfl) rfl rfl rfl (by decide) ?_
          refine AOps.nil ⟨rfl, ?_⟩
          refine AAny.one 7 rfl (by kernel_rfl) ?_
          refine AOps.appendE ((L ++ [q]).map Gate.row) (L.length + 1) sl22 ze38 rfl rfl rfl rfl (by rw [List.length_map]; omega) (by rw [drop0_take (by rw [List.length_map]), List.map_append]; rfl) rfl (by omega) (by omega) (by decide) (by decide) ?_
          refine AOps.nil ⟨rfl, ?_⟩
          refine AAny.blind 8 rfl (by kernel_rfl) (Blind.nilCheck rfl rfl) (by decide) ?_
          refine AAny.blind 9 rfl (by kernel_rfl) (Blind.fieldAddr fl61_0 rfl rfl) (by decide) ?_
          refine AAny.one 10 rfl (by kernel_rfl) ?_
          first | refine AOps.storeC si22 rfl rfl rfl rfl rfl rfl (Nat.le_of_ble_eq_true rfl) rfl ?_ | refine AOps.storeR si22 rfl rfl rfl rfl rfl rfl rfl (by first | assumption | exact getElem?_map' (by assumption)) (Nat.le_of_ble_eq_true rfl) ?_
          refine AOps.nil ⟨rfl, ?_⟩
          refine AAny.done (by kernel_rfl) ?_
          exact Le.mk (by repeat (first | exact SubL.nil | refine SubL.cons rfl ?_)) (by repeat (first | exact SubL.nil | refine SubL.cons rfl ?_))
        · refine AOps.val (Y.loadA sh38 rfl rfl (Nat.le_of_ble_eq_true rfl) rfl rfl) (by decide) ?_
          refine AOps.nil ⟨rfl, ?_⟩
          refine AAny.two 4 6 rfl rfl (by kernel_rfl) ?_ ?_
          · refine AOps.val (Y.load sh22 rfl rfl rfl rfl) (by decide) ?_
            refine AOps.nil ⟨rfl, ?_⟩
            refine AAny.one 6 rfl (by kernel_rfl) ?_
            refine AOps.buildSlice [Gate.row q] sl22 ze38 rfl rfl rfl rfl rfl (by intro r hr; simp only [List.mem_singleton] at hr; subst hr; rfl) rfl rfl rfl (by decide) ?_
            refine AOps.nil ⟨rfl, ?_⟩
            refine AAny.one 7 rfl (by kernel_rfl) ?_
            refine AOps.appendE ((L ++ [q]).map Gate.row) (L.length + 1) sl22 ze38 rfl rfl rfl rfl (by rw [List.length_map]; omega) (by rw [drop0_take (by rw [List.length_map]), List.map_append]; rfl) rfl (by omega) (by omega) (by decide) (by decide) ?_
            refine AOps.nil ⟨rfl, ?_⟩
            refine AAny.blind 8 rfl (by kernel_rfl) (Blind.nilCheck rfl rfl) (by decide) ?_
            refine AAny.blind 9 rfl (by kernel_rfl) (Blind.fieldAddr fl61_0 rfl rfl) (by decide) ?_
            refine AAny.one 10 rfl (by kernel_rfl) ?_
            first | refine AOps.storeC si22 rfl rfl rfl rfl rfl rfl (Nat.le_of_ble_eq_true rfl) rfl ?_ | refine AOps.storeR si22 rfl rfl rfl rfl rfl rfl rfl (by first | assumption | exact getElem?_map' (by assumption)) (Nat.le_of_ble_eq_true rfl) ?_
            refine AOps.nil ⟨rfl, ?_⟩
            refine AAny.done (by kernel_rfl) ?_
            exact Le.mk (by repeat (first | exact SubL.nil | refine SubL.cons rfl ?_)) (by repeat (first | exact SubL.nil | refine SubL.cons rfl ?_))
          · refine AOps.buildSlice [Gate.row q] sl22 ze38 rfl rfl rfl rfl rfl (by intro r hr; simp only [List.mem_singleton] at hr; subst hr; rfl) rfl rfl rfl (by decide) ?_
            refine AOps.nil ⟨rfl, ?_⟩
            refine AAny.one 4 rfl (by kernel_rfl) ?_
            refine AOps.val (Y.load sh22 rfl rfl rfl rfl) (by decide) ?_
            refine AOps.nil ⟨rfl, ?_⟩
            refine AAny.one 7 rfl (by kernel_rfl) ?_
            refine AOps.appendE ((L ++ [q]).map Gate.row) (L.length + 1) sl22 ze38 rfl rfl rfl rfl (by rw [List.length_map]; omega) (by rw [drop0_take (by rw [List.length_map]), List.map_append]; rfl) rfl (by omega) (by omega) (by decide) (by decide) ?_
            refine AOps.nil ⟨rfl, ?_⟩
            refine AAny.blind 8 rfl (by kernel_rfl) (Blind.nilCheck rfl rfl) (by decide) ?_
            refine AAny.blind 9 rfl (by kernel_rfl) (Blind.fieldAddr fl61_0 rfl rfl) (by decide) ?_
            refine AAny.one 10 rfl (by kernel_rfl) ?_
            first | refine AOps.storeC si22 rfl rfl rfl rfl rfl rfl (Nat.le_of_ble_eq_true rfl) rfl ?_ | refine AOps.storeR si22 rfl rfl rfl rfl rfl rfl rfl (by first | assumption | exact getElem?_map' (by assumption)) (Nat.le_of_ble_eq_true rfl) ?_
            refine AOps.nil ⟨rfl, ?_⟩
            refine AAny.done (by kernel_rfl) ?_
            exact Le.mk (by repeat (first | exact SubL.nil | refine SubL.cons rfl ?_)) (by repeat (first | exact SubL.nil | refine SubL.cons rfl ?_))
      · refine AWp.seq ?_
        refine AWp.regionT 6 rfl (by kernel_rfl) ?_
        first | refine AHead.val (Y.move rfl rfl) (by decide) ?_ | refine AHead.moveU rfl (by decide) ?_
        refine AHead.val (Y.nilCheck rfl rfl) (by decide) ?_
        refine AHead.val (Y.fieldAddr fl61_1 rfl rfl) (by decide) ?_
        refine AHead.val (Y.load sh59 rfl rfl rfl rfl) (by decide) ?_
        refine AHead.val (Y.loadA sh38 rfl rfl (Nat.le_of_ble_eq_true rfl) rfl rfl) (by decide) ?_
        first | refine AHead.val (Y.move rfl rfl) (by decide) ?_ | refine AHead.moveU rfl (by decide) ?_
        refine AHead.nil ?_
        refine AOps.mapUpdate Try.underlying59 keyed38 rfl rfl rfl (Gate.key_word q) rfl rfl hkl hf.keys (fun j v hj => ?_) (fun hn => ?_)
        · obtain ⟨i2, hTi2, rfl⟩ := ent_get hj
          refine AOps.nil ?_
          refine AWp.seq ?_
          refine AWp.region ?_
          first | refine AOps.val (Y.move rfl rfl) (by decide) ?_ | refine AOps.moveU rfl (by decide) ?_
          first | refine AOps.val (Y.assign rfl rfl) (by decide) ?_ | refine AOps.assignU rfl (by decide) ?_
          refine AOps.nil ?_
          refine AWp.ret ?_
          first
            | exact ⟨_, _, rfl, rfl, L, T, i, rfl, rfl, hf, hq ▸ hf.at_ _ _ _ hTi, .inl ⟨rfl, hq ▸ c39⟩⟩
            | exact ⟨_, _, rfl, rfl, L ++ [q], T.set j (q, L.length), L.length, rfl, put_set rfl, hf.over (hq ▸ hsw) hTi2, by rw [← hq]; simp, .inr ⟨by rw [← hq], rfl, put_why hq (by first | exact .inl (by omega) | exact .inr (hf.notin hno))⟩⟩
            | exact ⟨_, _, rfl, rfl, L ++ [q], T ++ [(q, L.length)], L.length, rfl, put_push rfl, hf.push (hq ▸ hsw), by rw [← hq]; simp, .inr ⟨by rw [← hq], rfl, put_why hq (.inr (hf.notin hno2))⟩⟩
        · have hno2 := ent_none hn
          refine AOps.nil ?_
          refine AWp.seq ?_
          refine AWp.region ?_
          first | refine AOps.val (Y.move rfl rfl) (by decide) ?_ | refine AOps.moveU rfl (by decide) ?_
          first | refine AOps.val (Y.assign rfl rfl) (by decide) ?_ | refine AOps.assignU rfl (by decide) ?_
          refine AOps.nil ?_
          refine AWp.ret ?_
          first
            | exact ⟨_, _, rfl, rfl, L, T, i, rfl, rfl, hf, hq ▸ hf.at_ _ _ _ hTi, .inl ⟨rfl, hq ▸ c39⟩⟩
            | exact ⟨_, _, rfl, rfl, L ++ [q], T.set j (q, L.length), L.length, rfl, put_set rfl, hf.over (hq ▸ hsw) hTi2, by rw [← hq]; simp, .inr ⟨by rw [← hq], rfl, put_why hq (by first | exact .inl (by omega) | exact .inr (hf.notin hno))⟩⟩
            | exact ⟨_, _, rfl, rfl, L ++ [q], T ++ [(q, L.length)], L.length, rfl, put_push rfl, hf.push (hq ▸ hsw), by rw [← hq]; simp, .inr ⟨by rw [← hq], rfl, put_why hq (.inr (hf.notin hno2))⟩⟩

set_option maxHeartbeats 1000000 in
theorem constant_spec {L : List Gate} {T : List (Gate × Nat)} {b : Bool} (hl : L.length ≤ 1048576) (hf : FOk L T) : ACalls Try.prog 29 [.ptr 0 0 0 0, .v (.bool b)] (fobjs L T) [0, 2] (PutQ L (cstG b)) := by
  refine ACalls.of Try.func29 rfl rfl rfl (n := 12) (by decide) (Nat.le_of_ble_eq_true rfl) ?_
  refine AWp.seq ?_
  refine AWp.region ?_
  refine AOps.val (Y.assign rfl rfl) (by decide) ?_
  refine AOps.nil ?_
  refine AWp.seq ?_
  refine AWp.seq ?_
  refine AWp.region ?_
  first | refine AOps.val (Y.move rfl rfl) (by decide) ?_ | refine AOps.moveU rfl (by decide) ?_
  refine AOps.nil ?_
  refine AWp.cond rfl (fun c5 => ?_) (fun c5 => ?_)
  · subst c5
    refine AWp.seq ?_
    refine AWp.region ?_
    first | refine AOps.val (Y.move rfl rfl) (by decide) ?_ | refine AOps.moveU rfl (by decide) ?_
    refine AOps.val (Y.build pl38 ze38 rfl rfl rfl) (by decide) ?_
    refine AOps.callO [0, 1, 2] [] ok27 (put_spec (g := cstG true) hl hf (cstG_wf true)) rfl (.keep rfl rfl (.keep rfl rfl .nil)) ⟨rfl, rfl, rfl, trivial⟩ rfl (by decide) (fun _ h => by cases h) (fun _ h => by cases h) (by decide) (by decide) ?_
    rintro r objs' ⟨L2, T2, i2, rfl, rfl, hf2, hi2, hc2⟩ _
    refine ⟨⟨rfl, fobjs_lt _ _, .inl rfl⟩, ?_⟩
    first | refine AOps.val (Y.assign rfl rfl) (by decide) ?_ | refine AOps.assignU rfl (by decide) ?_
    refine AOps.nil ?_
    refine AWp.ret ?_
    exact ⟨_, _, rfl, rfl, L2, T2, i2, rfl, rfl, hf2, hi2, hc2⟩
  · subst c5
    refine AWp.skip ?_
    refine AWp.seq ?_
    refine AWp.region ?_
    first | refine AOps.val (Y.move rfl rfl) (by decide) ?_ | refine AOps.moveU rfl (by decide) ?_
    refine AOps.val (Y.build pl38 ze38 rfl rfl rfl) (by decide) ?_
    refine AOps.callO [0, 1, 2] [] ok27 (put_spec (g := cstG false) hl hf (cstG_wf false)) rfl (.keep rfl rfl (.keep rfl rfl .nil)) ⟨rfl, rfl, rfl, trivial⟩ rfl (by decide) (fun _ h => by cases h) (fun _ h => by cases h) (by decide) (by decide) ?_
    rintro r objs' ⟨L2, T2, i2, rfl, rfl, hf2, hi2, hc2⟩ _
    refine ⟨⟨rfl, fobjs_lt _ _, .inl rfl⟩, ?_⟩
    first | refine AOps.val (Y.assign rfl rfl) (by decide) ?_ | refine AOps.assignU rfl (by decide) ?_
    refine AOps.nil ?_
    refine AWp.ret ?_
    exact ⟨_, _, rfl, rfl, L2, T2, i2, rfl, rfl, hf2, hi2, hc2⟩

set_option maxHeartbeats 1000000 in
theorem not_spec {L : List Gate} {T : List (Gate × Nat)} {a : Nat} {g : Gate} (hl : L.length ≤ 1048576) (hf : FOk L T) (hg : L[a]? = some g) : ACalls Try.prog 25 [.ptr 0 0 0 0, .v (.int .i64 ((a : Int)))] (fobjs L T) [0, 2] (NotQ L T a g) := by
  refine ACalls.of Try.func25 rfl rfl rfl (n := 35) (by decide) (Nat.le_of_ble_eq_true rfl) ?_
  have hal := (List.getElem?_eq_some_iff.1 hg).1
  refine AWp.seq ?_
  refine AWp.region ?_
  refine AOps.val (Y.assign rfl rfl) (by decide) ?_
  refine AOps.nil ?_
  refine AWp.seq ?_
  refine AWp.seq ?_
  refine AWp.region ?_
  first | refine AOps.val (Y.move rfl rfl) (by decide) ?_ | refine AOps.moveU rfl (by decide) ?_
  refine AOps.val (Y.nilCheck rfl rfl) (by decide) ?_
  refine AOps.val (Y.fieldAddr fl61_0 rfl rfl) (by decide) ?_
  refine AOps.val (Y.load sh22 rfl rfl rfl rfl) (by decide) ?_
  first | refine AOps.val (Y.move rfl rfl) (by decide) ?_ | refine AOps.moveU rfl (by decide) ?_
  refine AOps.val (Y.indexO (m := a) sl22 rfl rfl rfl hal) (by decide) ?_
  refine AOps.val (Y.fieldAddr fl38_0 rfl rfl) (by decide) ?_
  refine AOps.val (Y.load sh3 rfl (row_at hg) rfl rfl) (by decide) ?_
  refine AOps.nil ?_
  refine AWp.block ?_
  refine AWp.seq ?_
  refine AWp.region ?_
  refine AOps.val (Y.eql rfl rfl) (by decide) ?_
  first | refine AOps.val (Y.assign rfl rfl) (by decide) ?_ | refine AOps.assignU rfl (by decide) ?_
  refine AOps.nil ?_
  refine AWp.condD rfl (fun c13 => ?_) (fun c13 => ?_)
  · refine AWp.seq ?_
    refine AWp.region ?_
    first | refine AOps.val (Y.move rfl rfl) (by decide) ?_ | refine AOps.moveU rfl (by decide) ?_
    refine AOps.callO [0, 1, 2] [] ok29 (constant_spec hl hf) rfl (.keep rfl rfl (.keep rfl rfl .nil)) ⟨rfl, rfl, rfl, trivial⟩ rfl (by decide) (fun _ h => by cases h) (fun _ h => by cases h) (by decide) (by decide) ?_
    rintro r objs' ⟨L2, T2, i2, rfl, rfl, hf2, hi2, hc2⟩ _
    refine ⟨⟨rfl, fobjs_lt _ _, .inl rfl⟩, ?_⟩
    first | refine AOps.val (Y.assign rfl rfl) (by decide) ?_ | refine AOps.assignU rfl (by decide) ?_
    refine AOps.nil ?_
    refine AWp.ret ?_
    first
      | exact ⟨_, _, rfl, rfl, .inl ⟨c13, L2, T2, i2, rfl, rfl, hf2, hi2, hc2⟩⟩
      | exact ⟨_, _, rfl, rfl, .inr (.inl ⟨c17, L2, T2, i2, rfl, rfl, hf2, hi2, hc2⟩)⟩
      | exact ⟨_, _, rfl, rfl, .inr (.inr (.inl ⟨c21, rfl, rfl⟩))⟩
      | exact ⟨_, _, rfl, rfl, .inr (.inr (.inr ⟨⟨c13, c17, c21⟩, L2, T2, i2, rfl, rfl, hf2, hi2, hc2⟩))⟩
  · refine AWp.seq ?_
    refine AWp.region ?_
    refine AOps.val (Y.eql rfl rfl) (by decide) ?_
    first | refine AOps.val (Y.assign rfl rfl) (by decide) ?_ | refine AOps.assignU rfl (by decide) ?_
    refine AOps.nil ?_
    refine AWp.condD rfl (fun c17 => ?_) (fun c17 => ?_)
    · refine AWp.seq ?_
      refine AWp.region ?_
      first | refine AOps.val (Y.move rfl rfl) (by decide) ?_ | refine AOps.moveU rfl (by decide) ?_
      refine AOps.callO [0, 1, 2] [] ok29 (constant_spec hl hf) rfl (.keep rfl rfl (.keep rfl rfl .nil)) ⟨rfl, rfl, rfl, trivial⟩ rfl (by decide) (fun _ h => by cases h) (fun _ h => by cases h) (by decide) (by decide) ?_
      rintro r objs' ⟨L2, T2, i2, rfl, rfl, hf2, hi2, hc2⟩ _
      refine ⟨⟨rfl, fobjs_lt _ _, .inl rfl⟩, ?_⟩
      first | refine AOps.val (Y.assign rfl rfl) (by decide) ?_ | refine AOps.assignU rfl (by decide) ?_
      refine AOps.nil ?_
      refine AWp.ret ?_
      first
        | exact ⟨_, _, rfl, rfl, .inl ⟨c13, L2, T2, i2, rfl, rfl, hf2, hi2, hc2⟩⟩
        | exact ⟨_, _, rfl, rfl, .inr (.inl ⟨c17, L2, T2, i2, rfl, rfl, hf2, hi2, hc2⟩)⟩
        | exact ⟨_, _, rfl, rfl, .inr (.inr (.inl ⟨c21, rfl, rfl⟩))⟩
        | exact ⟨_, _, rfl, rfl, .inr (.inr (.inr ⟨⟨c13, c17, c21⟩, L2, T2, i2, rfl, rfl, hf2, hi2, hc2⟩))⟩
    · refine AWp.seq ?_
      refine AWp.region ?_
      refine AOps.val (Y.eql rfl rfl) (by decide) ?_
      first | refine AOps.val (Y.assign rfl rfl) (by decide) ?_ | refine AOps.assignU rfl (by decide) ?_
      refine AOps.nil ?_
      refine AWp.condD rfl (fun c21 => ?_) (fun c21 => ?_)
      · refine AWp.seq ?_
        refine AWp.region ?_
        first | refine AOps.val (Y.move rfl rfl) (by decide) ?_ | refine AOps.moveU rfl (by decide) ?_
        refine AOps.val (Y.nilCheck rfl rfl) (by decide) ?_
        refine AOps.val (Y.fieldAddr fl61_0 rfl rfl) (by decide) ?_
        refine AOps.val (Y.load sh22 rfl rfl rfl rfl) (by decide) ?_
        first | refine AOps.val (Y.move rfl rfl) (by decide) ?_ | refine AOps.moveU rfl (by decide) ?_
        refine AOps.val (Y.indexO (m := a) sl22 rfl rfl rfl hal) (by decide) ?_
        refine AOps.val (Y.fieldAddr fl38_1 rfl rfl) (by decide) ?_
        refine AOps.val (Y.load sh3 rfl (row_at hg) rfl rfl) (by decide) ?_
        first | refine AOps.val (Y.assign rfl rfl) (by decide) ?_ | refine AOps.assignU rfl (by decide) ?_
        refine AOps.nil ?_
        refine AWp.ret ?_
        first
          | exact ⟨_, _, rfl, rfl, .inl ⟨c13, L2, T2, i2, rfl, rfl, hf2, hi2, hc2⟩⟩
          | exact ⟨_, _, rfl, rfl, .inr (.inl ⟨c17, L2, T2, i2, rfl, rfl, hf2, hi2, hc2⟩)⟩
          | exact ⟨_, _, rfl, rfl, .inr (.inr (.inl ⟨c21, rfl, rfl⟩))⟩
          | exact ⟨_, _, rfl, rfl, .inr (.inr (.inr ⟨⟨c13, c17, c21⟩, L2, T2, i2, rfl, rfl, hf2, hi2, hc2⟩))⟩
      · refine AWp.skip ?_
        refine AWp.seq ?_
        refine AWp.region ?_
        first | refine AOps.val (Y.move rfl rfl) (by decide) ?_ | refine AOps.moveU rfl (by decide) ?_
        first | refine AOps.val (Y.move rfl rfl) (by decide) ?_ | refine AOps.moveU rfl (by decide) ?_
        refine AOps.val (Y.build pl38 ze38 rfl rfl rfl) (by decide) ?_
        refine AOps.callO [0, 1, 2] [] ok27 (put_spec (g := ⟨4, a, 0⟩) hl hf (notG_wf (by omega))) rfl (.keep rfl rfl (.keep rfl rfl .nil)) ⟨rfl, rfl, rfl, trivial⟩ rfl (by decide) (fun _ h => by cases h) (fun _ h => by cases h) (by decide) (by decide) ?_
        rintro r objs' ⟨L2, T2, i2, rfl, rfl, hf2, hi2, hc2⟩ _
        refine ⟨⟨rfl, fobjs_lt _ _, .inl rfl⟩, ?_⟩
        first | refine AOps.val (Y.assign rfl rfl) (by decide) ?_ | refine AOps.assignU rfl (by decide) ?_
        refine AOps.nil ?_
        refine AWp.ret ?_
        first
          | exact ⟨_, _, rfl, rfl, .inl ⟨c13, L2, T2, i2, rfl, rfl, hf2, hi2, hc2⟩⟩
          | exact ⟨_, _, rfl, rfl, .inr (.inl ⟨c17, L2, T2, i2, rfl, rfl, hf2, hi2, hc2⟩)⟩
          | exact ⟨_, _, rfl, rfl, .inr (.inr (.inl ⟨c21, rfl, rfl⟩))⟩
          | exact ⟨_, _, rfl, rfl, .inr (.inr (.inr ⟨⟨c13, c17, c21⟩, L2, T2, i2, rfl, rfl, hf2, hi2, hc2⟩))⟩

end Go.Proofs.Ytiehdnjcapjacaa
/- The walk through the folder's binary gates. -/
namespace Go.Proofs.Ytiehdnjcapjacaa
open Go Go.AW Go.Proofs



set_option maxHeartbeats 1000000 in
theorem binary_spec {L : List Gate} {T : List (Gate × Nat)} {k : Int} {a b : Nat} {ga gb : Gate} (hl : L.length ≤ 1048576) (hf : FOk L T) (hk : 5 ≤ k ∧ k ≤ 7) (hga : L[a]? = some ga) (hgb : L[b]? = some gb) : ACalls Try.prog 26 [.ptr 0 0 0 0, .v (.int .i64 (k)), .v (.int .i64 ((a : Int))), .v (.int .i64 ((b : Int)))] (fobjs L T) [0, 2] (BinQ L T k a ga b gb) := by
  refine ACalls.of Try.func26 rfl rfl rfl (n := 81) (by decide) (Nat.le_of_ble_eq_true rfl) ?_
  have hal := (List.getElem?_eq_some_iff.1 hga).1
  have hbl := (List.getElem?_eq_some_iff.1 hgb).1
  refine AWp.seq ?_
  refine AWp.region ?_
  refine AOps.val (Y.assign rfl rfl) (by decide) ?_
  refine AOps.nil ?_
  refine AWp.seq ?_
  refine AWp.seq ?_
  refine AWp.region ?_
  first | refine AOps.val (Y.move rfl rfl) (by decide) ?_ | refine AOps.moveU rfl (by decide) ?_
  first | refine AOps.val (Y.move rfl rfl) (by decide) ?_ | refine AOps.moveU rfl (by decide) ?_
  refine AOps.val (Y.eql rfl rfl) (by decide) ?_
  refine AOps.nil ?_
  refine AWp.condD rfl (fun c12 => ?_) (fun c12 => ?_)
  · refine AWp.seq ?_
    refine AWp.seq ?_
    refine AWp.region ?_
    first | refine AOps.val (Y.move rfl rfl) (by decide) ?_ | refine AOps.moveU rfl (by decide) ?_
    refine AOps.val (Y.eql rfl rfl) (by decide) ?_
    refine AOps.nil ?_
    refine AWp.condD rfl (fun c14 => ?_) (fun c14 => ?_)
    · refine AWp.seq ?_
      refine AWp.region ?_
      first | refine AOps.val (Y.move rfl rfl) (by decide) ?_ | refine AOps.moveU rfl (by decide) ?_
      refine AOps.callO [0, 1, 2] [] ok29 (constant_spec hl hf) rfl (.keep rfl rfl (.keep rfl rfl .nil)) ⟨rfl, rfl, rfl, trivial⟩ rfl (by decide) (fun _ h => by cases h) (fun _ h => by cases h) (by decide) (by decide) ?_
      rintro r objs' ⟨L2, T2, i2, rfl, rfl, hf2, hi2, hc2⟩ _
      refine ⟨⟨rfl, fobjs_lt _ _, .inl rfl⟩, ?_⟩
      first | refine AOps.val (Y.assign rfl rfl) (by decide) ?_ | refine AOps.assignU rfl (by decide) ?_
      refine AOps.nil ?_
      refine AWp.ret ?_
      first
        | exact ⟨_, _, rfl, rfl, .inl ⟨by omega, by omega, L2, T2, i2, rfl, rfl, hf2, hi2, hc2⟩⟩
        | exact ⟨_, _, rfl, rfl, .inr (.inl ⟨by omega, by omega, rfl, rfl⟩)⟩
        | exact ⟨_, _, rfl, rfl, hI.out (by omega) (.inl ⟨by omega, rfl, rfl⟩)⟩
        | exact ⟨_, _, rfl, rfl, hI.out (by omega) (.inr (.inl ⟨by omega, rfl, rfl⟩))⟩
        | exact ⟨_, _, rfl, rfl, hI.out (by omega) (.inr (.inr ⟨by omega, hQ⟩))⟩
        | (obtain ⟨_, rfl, rfl, rfl, rfl, h1, h2⟩ := hI.last (by omega)
           exact ⟨_, _, rfl, rfl, .inr (.inr ⟨hI.ne, .inr (.inr ⟨⟨h1, h2⟩, L2, T2, i2, rfl, rfl, hf2, hi2, hc2⟩)⟩)⟩)
        | (exfalso; omega)
    · refine AWp.skip ?_
      refine AWp.seq ?_
      refine AWp.region ?_
      first | refine AOps.val (Y.move rfl rfl) (by decide) ?_ | refine AOps.moveU rfl (by decide) ?_
      first | refine AOps.val (Y.assign rfl rfl) (by decide) ?_ | refine AOps.assignU rfl (by decide) ?_
      refine AOps.nil ?_
      refine AWp.ret ?_
      first
        | exact ⟨_, _, rfl, rfl, .inl ⟨by omega, by omega, L2, T2, i2, rfl, rfl, hf2, hi2, hc2⟩⟩
        | exact ⟨_, _, rfl, rfl, .inr (.inl ⟨by omega, by omega, rfl, rfl⟩)⟩
        | exact ⟨_, _, rfl, rfl, hI.out (by omega) (.inl ⟨by omega, rfl, rfl⟩)⟩
        | exact ⟨_, _, rfl, rfl, hI.out (by omega) (.inr (.inl ⟨by omega, rfl, rfl⟩))⟩
        | exact ⟨_, _, rfl, rfl, hI.out (by omega) (.inr (.inr ⟨by omega, hQ⟩))⟩
        | (obtain ⟨_, rfl, rfl, rfl, rfl, h1, h2⟩ := hI.last (by omega)
           exact ⟨_, _, rfl, rfl, .inr (.inr ⟨hI.ne, .inr (.inr ⟨⟨h1, h2⟩, L2, T2, i2, rfl, rfl, hf2, hi2, hc2⟩)⟩)⟩)
        | (exfalso; omega)
  · refine AWp.skip ?_
    refine AWp.seq ?_
    refine AWp.seq ?_
    refine AWp.region ?_
    refine AOps.val (Y.move rfl rfl) (by decide) ?_
    refine AOps.nil ?_
    refine AWp.block ?_
    refine AWp.loop (fun (u : Nat × Nat × Gate × Nat × Gate) => ⟨[(18, .v (.int .i64 ((u.1 : Int)))), (0, .ptr 0 0 0 0), (1, .v (.int .i64 (k))), (2, .v (.int .i64 ((u.2.1 : Int)))), (3, .v (.int .i64 ((u.2.2.2.1 : Int))))], [(0, .cells [.slc 1 3 0 L.length, .mref 2]), (1, .rows 3 (L.map Gate.row)), (2, .tab (T.map ent))]⟩) (fun u => BinI L a ga b gb u.1 u.2.1 u.2.2.1 u.2.2.2.1 u.2.2.2.2 ∧ u.1 ≤ 2) (fun u => 2 - u.1) ((0, a, ga, b, gb)) (⟨⟨hga, hgb, by omega, .inl ⟨rfl, rfl, rfl, rfl, rfl⟩⟩, by omega⟩) (Le.mk (by repeat (first | exact SubL.nil | refine SubL.cons rfl ?_)) (by repeat (first | exact SubL.nil | refine SubL.cons rfl ?_))) (fun u hJ => ?_)
    obtain ⟨n, x, gx, y, gy⟩ := u
    obtain ⟨hI, hn2⟩ := hJ
    simp only at hI hn2
    have hxl := (List.getElem?_eq_some_iff.1 hI.hx).1
    have hyl := (List.getElem?_eq_some_iff.1 hI.hy).1
    refine AWp.seq ?_
    refine AWp.region ?_
    refine AOps.val (Y.lss rfl rfl) (by decide) ?_
    refine AOps.nil ?_
    refine AWp.seq ?_
    refine AWp.condD rfl (fun c19 => ?_) (fun c19 => ?_)
    · refine AWp.skip ?_
      refine AWp.seq ?_
      refine AWp.block ?_
      refine AWp.seq ?_
      refine AWp.region ?_
      first | refine AOps.val (Y.move rfl rfl) (by decide) ?_ | refine AOps.moveU rfl (by decide) ?_
      refine AOps.val (Y.nilCheck rfl rfl) (by decide) ?_
      refine AOps.val (Y.fieldAddr fl61_0 rfl rfl) (by decide) ?_
      refine AOps.val (Y.load sh22 rfl rfl rfl rfl) (by decide) ?_
      first | refine AOps.val (Y.move rfl rfl) (by decide) ?_ | refine AOps.moveU rfl (by decide) ?_
      refine AOps.val (Y.indexO (m := x) sl22 rfl rfl rfl hxl) (by decide) ?_
      refine AOps.val (Y.fieldAddr fl38_0 rfl rfl) (by decide) ?_
      refine AOps.val (Y.load sh3 rfl (row_at hI.hx) rfl rfl) (by decide) ?_
      first | refine AOps.val (Y.assign rfl rfl) (by decide) ?_ | refine AOps.assignU rfl (by decide) ?_
      refine AOps.nil ?_
      refine AWp.seq ?_
      refine AWp.block ?_
      refine AWp.join (fun (u : Bool) => ⟨[(28, .v (.bool u)), (9, .v (.int .i64 (gx.kind))), (18, .v (.int .i64 ((n : Int)))), (0, .ptr 0 0 0 0), (1, .v (.int .i64 (k))), (2, .v (.int .i64 ((x : Int)))), (3, .v (.int .i64 ((y : Int))))], [(0, .cells [.slc 1 3 0 L.length, .mref 2]), (1, .rows 3 (L.map Gate.row)), (2, .tab (T.map ent))]⟩) (fun u => u = true ↔ ((k = 5 ∧ gx.kind = 1) ∨ (k = 6 ∧ gx.kind = 2))) ?_ (fun u hU => ?_)
      · refine AWp.seq ?_
        refine AWp.region ?_
        first | refine AOps.val (Y.move rfl rfl) (by decide) ?_ | refine AOps.moveU rfl (by decide) ?_
        refine AOps.val (Y.eql rfl rfl) (by decide) ?_
        first | refine AOps.val (Y.move rfl rfl) (by decide) ?_ | refine AOps.moveU rfl (by decide) ?_
        refine AOps.splitD (d := 31) rfl (fun c31 => ?_) (fun c31 => ?_)
        · refine AOps.guardRun (d := 31) rfl (by decide) rfl ?_
          first | refine AOps.val (Y.move rfl rfl) (by decide) ?_ | refine AOps.moveU rfl (by decide) ?_
          refine AOps.guardRun (d := 31) rfl (by decide) rfl ?_
          refine AOps.val (Y.eql rfl rfl) (by decide) ?_
          refine AOps.val (Y.pick rfl rfl rfl) (by decide) ?_
          first | refine AOps.val (Y.assign rfl rfl) (by decide) ?_ | refine AOps.assignU rfl (by decide) ?_
          refine AOps.nil ?_
          refine AWp.condKD rfl (fun c28 => ?_) (fun c28 => ?_)
          · (try have h28 := hU.1 c28)
            refine AWp.skip ?_
            refine ⟨_, ?_, Le.mk (SubL.cons rfl (SubL.cons rfl (SubL.cons rfl (SubL.cons rfl (SubL.cons rfl (SubL.cons rfl (SubL.cons rfl (SubL.nil)))))))) (SubL.cons rfl (SubL.cons rfl (SubL.cons rfl (SubL.nil))))⟩
            first
              | exact ⟨fun _ => by omega, fun _ => rfl⟩
              | exact ⟨fun h => (by cases h), fun h => absurd h (by omega)⟩
              | exact ⟨fun h => by have := of_decide_eq_true h; omega, fun h => decide_eq_true (by omega)⟩
          · (try have h28 : ¬ ((k = 5 ∧ gx.kind = 1) ∨ (k = 6 ∧ gx.kind = 2)) := fun h => by rw [hU.2 h] at c28; cases c28)
            refine AWp.region ?_
            first | refine AOps.val (Y.move rfl rfl) (by decide) ?_ | refine AOps.moveU rfl (by decide) ?_
            refine AOps.val (Y.eql rfl rfl) (by decide) ?_
            first | refine AOps.val (Y.move rfl rfl) (by decide) ?_ | refine AOps.moveU rfl (by decide) ?_
            refine AOps.splitD (d := 37) rfl (fun c37 => ?_) (fun c37 => ?_)
            · refine AOps.guardRun (d := 37) rfl (by decide) rfl ?_
              first | refine AOps.val (Y.move rfl rfl) (by decide) ?_ | refine AOps.moveU rfl (by decide) ?_
              refine AOps.guardRun (d := 37) rfl (by decide) rfl ?_
              refine AOps.val (Y.eql rfl rfl) (by decide) ?_
              refine AOps.val (Y.pick rfl rfl rfl) (by decide) ?_
              first | refine AOps.val (Y.assign rfl rfl) (by decide) ?_ | refine AOps.assignU rfl (by decide) ?_
              refine AOps.nil ?_
              refine ⟨_, ?_, Le.mk (SubL.cons rfl (SubL.cons rfl (SubL.cons rfl (SubL.cons rfl (SubL.cons rfl (SubL.cons rfl (SubL.cons rfl (SubL.nil)))))))) (SubL.cons rfl (SubL.cons rfl (SubL.cons rfl (SubL.nil))))⟩
              first
                | exact ⟨fun _ => by omega, fun _ => rfl⟩
                | exact ⟨fun h => (by cases h), fun h => absurd h (by omega)⟩
                | exact ⟨fun h => by have := of_decide_eq_true h; omega, fun h => decide_eq_true (by omega)⟩
            · refine AOps.guardSkipV (d := 37) rfl (by decide) (by decide) rfl rfl ?_
              refine AOps.guardSkipV (d := 37) rfl (by decide) (by decide) rfl rfl ?_
              refine AOps.val (Y.pick rfl rfl rfl) (by decide) ?_
              first | refine AOps.val (Y.assign rfl rfl) (by decide) ?_ | refine AOps.assignU rfl (by decide) ?_
              refine AOps.nil ?_
              refine ⟨_, ?_, Le.mk (SubL.cons rfl (SubL.cons rfl (SubL.cons rfl (SubL.cons rfl (SubL.cons rfl (SubL.cons rfl (SubL.cons rfl (SubL.nil)))))))) (SubL.cons rfl (SubL.cons rfl (SubL.cons rfl (SubL.nil))))⟩
              first
                | exact ⟨fun _ => by omega, fun _ => rfl⟩
                | exact ⟨fun h => (by cases h), fun h => absurd h (by omega)⟩
                | exact ⟨fun h => by have := of_decide_eq_true h; omega, fun h => decide_eq_true (by omega)⟩
        · refine AOps.guardSkipV (d := 31) rfl (by decide) (by decide) rfl rfl ?_
          refine AOps.guardSkipV (d := 31) rfl (by decide) (by decide) rfl rfl ?_
          refine AOps.val (Y.pick rfl rfl rfl) (by decide) ?_
          first | refine AOps.val (Y.assign rfl rfl) (by decide) ?_ | refine AOps.assignU rfl (by decide) ?_
          refine AOps.nil ?_
          refine AWp.condF rfl ?_
          refine AWp.region ?_
          first | refine AOps.val (Y.move rfl rfl) (by decide) ?_ | refine AOps.moveU rfl (by decide) ?_
          refine AOps.val (Y.eql rfl rfl) (by decide) ?_
          first | refine AOps.val (Y.move rfl rfl) (by decide) ?_ | refine AOps.moveU rfl (by decide) ?_
          refine AOps.splitD (d := 37) rfl (fun c37 => ?_) (fun c37 => ?_)
          · refine AOps.guardRun (d := 37) rfl (by decide) rfl ?_
            first | refine AOps.val (Y.move rfl rfl) (by decide) ?_ | refine AOps.moveU rfl (by decide) ?_
            refine AOps.guardRun (d := 37) rfl (by decide) rfl ?_
            refine AOps.val (Y.eql rfl rfl) (by decide) ?_
            refine AOps.val (Y.pick rfl rfl rfl) (by decide) ?_
            first | refine AOps.val (Y.assign rfl rfl) (by decide) ?_ | refine AOps.assignU rfl (by decide) ?_
            refine AOps.nil ?_
            refine ⟨_, ?_, Le.mk (SubL.cons rfl (SubL.cons rfl (SubL.cons rfl (SubL.cons rfl (SubL.cons rfl (SubL.cons rfl (SubL.cons rfl (SubL.nil)))))))) (SubL.cons rfl (SubL.cons rfl (SubL.cons rfl (SubL.nil))))⟩
            first
              | exact ⟨fun _ => by omega, fun _ => rfl⟩
              | exact ⟨fun h => (by cases h), fun h => absurd h (by omega)⟩
              | exact ⟨fun h => by have := of_decide_eq_true h; omega, fun h => decide_eq_true (by omega)⟩
          · refine AOps.guardSkipV (d := 37) rfl (by decide) (by decide) rfl rfl ?_
            refine AOps.guardSkipV (d := 37) rfl (by decide) (by decide) rfl rfl ?_
            refine AOps.val (Y.pick rfl rfl rfl) (by decide) ?_
            first | refine AOps.val (Y.assign rfl rfl) (by decide) ?_ | refine AOps.assignU rfl (by decide) ?_
            refine AOps.nil ?_
            refine ⟨_, ?_, Le.mk (SubL.cons rfl (SubL.cons rfl (SubL.cons rfl (SubL.cons rfl (SubL.cons rfl (SubL.cons rfl (SubL.cons rfl (SubL.nil)))))))) (SubL.cons rfl (SubL.cons rfl (SubL.cons rfl (SubL.nil))))⟩
            first
              | exact ⟨fun _ => by omega, fun _ => rfl⟩
              | exact ⟨fun h => (by cases h), fun h => absurd h (by omega)⟩
              | exact ⟨fun h => by have := of_decide_eq_true h; omega, fun h => decide_eq_true (by omega)⟩
      · refine AWp.condK rfl (fun c28 => ?_) (fun c28 => ?_)
        · (try have h28 := hU.1 c28)
          refine AWp.seq ?_
          refine AWp.region ?_
          first | refine AOps.val (Y.move rfl rfl) (by decide) ?_ | refine AOps.moveU rfl (by decide) ?_
          first | refine AOps.val (Y.assign rfl rfl) (by decide) ?_ | refine AOps.assignU rfl (by decide) ?_
          refine AOps.nil ?_
          refine AWp.ret ?_
          first
            | exact ⟨_, _, rfl, rfl, .inl ⟨by omega, by omega, L2, T2, i2, rfl, rfl, hf2, hi2, hc2⟩⟩
            | exact ⟨_, _, rfl, rfl, .inr (.inl ⟨by omega, by omega, rfl, rfl⟩)⟩
            | exact ⟨_, _, rfl, rfl, hI.out (by omega) (.inl ⟨by omega, rfl, rfl⟩)⟩
            | exact ⟨_, _, rfl, rfl, hI.out (by omega) (.inr (.inl ⟨by omega, rfl, rfl⟩))⟩
            | exact ⟨_, _, rfl, rfl, hI.out (by omega) (.inr (.inr ⟨by omega, hQ⟩))⟩
            | (obtain ⟨_, rfl, rfl, rfl, rfl, h1, h2⟩ := hI.last (by omega)
               exact ⟨_, _, rfl, rfl, .inr (.inr ⟨hI.ne, .inr (.inr ⟨⟨h1, h2⟩, L2, T2, i2, rfl, rfl, hf2, hi2, hc2⟩)⟩)⟩)
            | (exfalso; omega)
        · (try have h28 : ¬ ((k = 5 ∧ gx.kind = 1) ∨ (k = 6 ∧ gx.kind = 2)) := fun h => by rw [hU.2 h] at c28; cases c28)
          refine AWp.join (fun (u : Bool) => ⟨[(42, .v (.bool u)), (9, .v (.int .i64 (gx.kind))), (18, .v (.int .i64 ((n : Int)))), (0, .ptr 0 0 0 0), (1, .v (.int .i64 (k))), (2, .v (.int .i64 ((x : Int)))), (3, .v (.int .i64 ((y : Int))))], [(0, .cells [.slc 1 3 0 L.length, .mref 2]), (1, .rows 3 (L.map Gate.row)), (2, .tab (T.map ent))]⟩) (fun u => u = true ↔ ((k = 5 ∧ gx.kind = 2) ∨ (k = 6 ∧ gx.kind = 1) ∨ (k = 7 ∧ gx.kind = 1))) ?_ (fun u hV => ?_)
          · refine AWp.seq ?_
            refine AWp.region ?_
            first | refine AOps.val (Y.move rfl rfl) (by decide) ?_ | refine AOps.moveU rfl (by decide) ?_
            refine AOps.val (Y.eql rfl rfl) (by decide) ?_
            first | refine AOps.val (Y.move rfl rfl) (by decide) ?_ | refine AOps.moveU rfl (by decide) ?_
            refine AOps.splitD (d := 45) rfl (fun c45 => ?_) (fun c45 => ?_)
            · refine AOps.guardRun (d := 45) rfl (by decide) rfl ?_
              first | refine AOps.val (Y.move rfl rfl) (by decide) ?_ | refine AOps.moveU rfl (by decide) ?_
              refine AOps.guardRun (d := 45) rfl (by decide) rfl ?_
              refine AOps.val (Y.eql rfl rfl) (by decide) ?_
              refine AOps.val (Y.pick rfl rfl rfl) (by decide) ?_
              first | refine AOps.val (Y.assign rfl rfl) (by decide) ?_ | refine AOps.assignU rfl (by decide) ?_
              refine AOps.nil ?_
              refine AWp.condKD rfl (fun c42 => ?_) (fun c42 => ?_)
              · (try have h42 := hV.1 c42)
                refine AWp.skip ?_
                refine ⟨_, ?_, Le.mk (SubL.cons rfl (SubL.cons rfl (SubL.cons rfl (SubL.cons rfl (SubL.cons rfl (SubL.cons rfl (SubL.cons rfl (SubL.nil)))))))) (SubL.cons rfl (SubL.cons rfl (SubL.cons rfl (SubL.nil))))⟩
                first
                  | exact ⟨fun _ => by omega, fun _ => rfl⟩
                  | exact ⟨fun h => (by cases h), fun h => absurd h (by omega)⟩
                  | exact ⟨fun h => by have := of_decide_eq_true h; omega, fun h => decide_eq_true (by omega)⟩
              · (try have h42 : ¬ ((k = 5 ∧ gx.kind = 2) ∨ (k = 6 ∧ gx.kind = 1) ∨ (k = 7 ∧ gx.kind = 1)) := fun h => by rw [hV.2 h] at c42; cases c42)
                refine AWp.seq ?_
                refine AWp.region ?_
                first | refine AOps.val (Y.move rfl rfl) (by decide) ?_ | refine AOps.moveU rfl (by decide) ?_
                refine AOps.val (Y.eql rfl rfl) (by decide) ?_
                first | refine AOps.val (Y.move rfl rfl) (by decide) ?_ | refine AOps.moveU rfl (by decide) ?_
                refine AOps.splitD (d := 51) rfl (fun c51 => ?_) (fun c51 => ?_)
                · refine AOps.guardRun (d := 51) rfl (by decide) rfl ?_
                  first | refine AOps.val (Y.move rfl rfl) (by decide) ?_ | refine AOps.moveU rfl (by decide) ?_
                  refine AOps.guardRun (d := 51) rfl (by decide) rfl ?_
                  refine AOps.val (Y.eql rfl rfl) (by decide) ?_
                  refine AOps.val (Y.pick rfl rfl rfl) (by decide) ?_
                  first | refine AOps.val (Y.assign rfl rfl) (by decide) ?_ | refine AOps.assignU rfl (by decide) ?_
                  refine AOps.nil ?_
                  refine AWp.condKD rfl (fun c42 => ?_) (fun c42 => ?_)
                  · (try have h42 := hV.1 c42)
                    refine AWp.skip ?_
                    refine ⟨_, ?_, Le.mk (SubL.cons rfl (SubL.cons rfl (SubL.cons rfl (SubL.cons rfl (SubL.cons rfl (SubL.cons rfl (SubL.cons rfl (SubL.nil)))))))) (SubL.cons rfl (SubL.cons rfl (SubL.cons rfl (SubL.nil))))⟩
                    first
                      | exact ⟨fun _ => by omega, fun _ => rfl⟩
                      | exact ⟨fun h => (by cases h), fun h => absurd h (by omega)⟩
                      | exact ⟨fun h => by have := of_decide_eq_true h; omega, fun h => decide_eq_true (by omega)⟩
                  · (try have h42 : ¬ ((k = 5 ∧ gx.kind = 2) ∨ (k = 6 ∧ gx.kind = 1) ∨ (k = 7 ∧ gx.kind = 1)) := fun h => by rw [hV.2 h] at c42; cases c42)
                    refine AWp.region ?_
                    first | refine AOps.val (Y.move rfl rfl) (by decide) ?_ | refine AOps.moveU rfl (by decide) ?_
                    refine AOps.val (Y.eql rfl rfl) (by decide) ?_
                    first | refine AOps.val (Y.move rfl rfl) (by decide) ?_ | refine AOps.moveU rfl (by decide) ?_
                    refine AOps.splitD (d := 57) rfl (fun c57 => ?_) (fun c57 => ?_)
                    · refine AOps.guardRun (d := 57) rfl (by decide) rfl ?_
                      first | refine AOps.val (Y.move rfl rfl) (by decide) ?_ | refine AOps.moveU rfl (by decide) ?_
                      refine AOps.guardRun (d := 57) rfl (by decide) rfl ?_
                      refine AOps.val (Y.eql rfl rfl) (by decide) ?_
                      refine AOps.val (Y.pick rfl rfl rfl) (by decide) ?_
                      first | refine AOps.val (Y.assign rfl rfl) (by decide) ?_ | refine AOps.assignU rfl (by decide) ?_
                      refine AOps.nil ?_
                      refine ⟨_, ?_, Le.mk (SubL.cons rfl (SubL.cons rfl (SubL.cons rfl (SubL.cons rfl (SubL.cons rfl (SubL.cons rfl (SubL.cons rfl (SubL.nil)))))))) (SubL.cons rfl (SubL.cons rfl (SubL.cons rfl (SubL.nil))))⟩
                      first
                        | exact ⟨fun _ => by omega, fun _ => rfl⟩
                        | exact ⟨fun h => (by cases h), fun h => absurd h (by omega)⟩
                        | exact ⟨fun h => by have := of_decide_eq_true h; omega, fun h => decide_eq_true (by omega)⟩
                    · refine AOps.guardSkipV (d := 57) rfl (by decide) (by decide) rfl rfl ?_
                      refine AOps.guardSkipV (d := 57) rfl (by decide) (by decide) rfl rfl ?_
                      refine AOps.val (Y.pick rfl rfl rfl) (by decide) ?_
                      first | refine AOps.val (Y.assign rfl rfl) (by decide) ?_ | refine AOps.assignU rfl (by decide) ?_
                      refine AOps.nil ?_
                      refine ⟨_, ?_, Le.mk (SubL.cons rfl (SubL.cons rfl (SubL.cons rfl (SubL.cons rfl (SubL.cons rfl (SubL.cons rfl (SubL.cons rfl (SubL.nil)))))))) (SubL.cons rfl (SubL.cons rfl (SubL.cons rfl (SubL.nil))))⟩
                      first
                        | exact ⟨fun _ => by omega, fun _ => rfl⟩
                        | exact ⟨fun h => (by cases h), fun h => absurd h (by omega)⟩
                        | exact ⟨fun h => by have := of_decide_eq_true h; omega, fun h => decide_eq_true (by omega)⟩
                · refine AOps.guardSkipV (d := 51) rfl (by decide) (by decide) rfl rfl ?_
                  refine AOps.guardSkipV (d := 51) rfl (by decide) (by decide) rfl rfl ?_
                  refine AOps.val (Y.pick rfl rfl rfl) (by decide) ?_
                  first | refine AOps.val (Y.assign rfl rfl) (by decide) ?_ | refine AOps.assignU rfl (by decide) ?_
                  refine AOps.nil ?_
                  refine AWp.condF rfl ?_
                  refine AWp.region ?_
                  first | refine AOps.val (Y.move rfl rfl) (by decide) ?_ | refine AOps.moveU rfl (by decide) ?_
                  refine AOps.val (Y.eql rfl rfl) (by decide) ?_
                  first | refine AOps.val (Y.move rfl rfl) (by decide) ?_ | refine AOps.moveU rfl (by decide) ?_
                  refine AOps.splitD (d := 57) rfl (fun c57 => ?_) (fun c57 => ?_)
                  · refine AOps.guardRun (d := 57) rfl (by decide) rfl ?_
                    first | refine AOps.val (Y.move rfl rfl) (by decide) ?_ | refine AOps.moveU rfl (by decide) ?_
                    refine AOps.guardRun (d := 57) rfl (by decide) rfl ?_
                    refine AOps.val (Y.eql rfl rfl) (by decide) ?_
                    refine AOps.val (Y.pick rfl rfl rfl) (by decide) ?_
                    first | refine AOps.val (Y.assign rfl rfl) (by decide) ?_ | refine AOps.assignU rfl (by decide) ?_
                    refine AOps.nil ?_
                    refine ⟨_, ?_, Le.mk (SubL.cons rfl (SubL.cons rfl (SubL.cons rfl (SubL.cons rfl (SubL.cons rfl (SubL.cons rfl (SubL.cons rfl (SubL.nil)))))))) (SubL.cons rfl (SubL.cons rfl (SubL.cons rfl (SubL.nil))))⟩
                    first
                      | exact ⟨fun _ => by omega, fun _ => rfl⟩
                      | exact ⟨fun h => (by cases h), fun h => absurd h (by omega)⟩
                      | exact ⟨fun h => by have := of_decide_eq_true h; omega, fun h => decide_eq_true (by omega)⟩
                  · refine AOps.guardSkipV (d := 57) rfl (by decide) (by decide) rfl rfl ?_
                    refine AOps.guardSkipV (d := 57) rfl (by decide) (by decide) rfl rfl ?_
                    refine AOps.val (Y.pick rfl rfl rfl) (by decide) ?_
                    first | refine AOps.val (Y.assign rfl rfl) (by decide) ?_ | refine AOps.assignU rfl (by decide) ?_
                    refine AOps.nil ?_
                    refine ⟨_, ?_, Le.mk (SubL.cons rfl (SubL.cons rfl (SubL.cons rfl (SubL.cons rfl (SubL.cons rfl (SubL.cons rfl (SubL.cons rfl (SubL.nil)))))))) (SubL.cons rfl (SubL.cons rfl (SubL.cons rfl (SubL.nil))))⟩
                    first
                      | exact ⟨fun _ => by omega, fun _ => rfl⟩
                      | exact ⟨fun h => (by cases h), fun h => absurd h (by omega)⟩
                      | exact ⟨fun h => by have := of_decide_eq_true h; omega, fun h => decide_eq_true (by omega)⟩
            · refine AOps.guardSkipV (d := 45) rfl (by decide) (by decide) rfl rfl ?_
              refine AOps.guardSkipV (d := 45) rfl (by decide) (by decide) rfl rfl ?_
              refine AOps.val (Y.pick rfl rfl rfl) (by decide) ?_
              first | refine AOps.val (Y.assign rfl rfl) (by decide) ?_ | refine AOps.assignU rfl (by decide) ?_
              refine AOps.nil ?_
              refine AWp.condF rfl ?_
              refine AWp.seq ?_
              refine AWp.region ?_
              first | refine AOps.val (Y.move rfl rfl) (by decide) ?_ | refine AOps.moveU rfl (by decide) ?_
              refine AOps.val (Y.eql rfl rfl) (by decide) ?_
              first | refine AOps.val (Y.move rfl rfl) (by decide) ?_ | refine AOps.moveU rfl (by decide) ?_
              refine AOps.splitD (d := 51) rfl (fun c51 => ?_) (fun c51 => ?_)
              · refine AOps.guardRun (d := 51) rfl (by decide) rfl ?_
                first | refine AOps.val (Y.move rfl rfl) (by decide) ?_ | refine AOps.moveU rfl (by decide) ?_
                refine AOps.guardRun (d := 51) rfl (by decide) rfl ?_
                refine AOps.val (Y.eql rfl rfl) (by decide) ?_
                refine AOps.val (Y.pick rfl rfl rfl) (by decide) ?_
                first | refine AOps.val (Y.assign rfl rfl) (by decide) ?_ | refine AOps.assignU rfl (by decide) ?_
                refine AOps.nil ?_
                refine AWp.condKD rfl (fun c42 => ?_) (fun c42 => ?_)
                · (try have h42 := hV.1 c42)
                  refine AWp.skip ?_
                  refine ⟨_, ?_, Le.mk (SubL.cons rfl (SubL.cons rfl (SubL.cons rfl (SubL.cons rfl (SubL.cons rfl (SubL.cons rfl (SubL.cons rfl (SubL.nil)))))))) (SubL.cons rfl (SubL.cons rfl (SubL.cons rfl (SubL.nil))))⟩
                  first
                    | exact ⟨fun _ => by omega, fun _ => rfl⟩
                    | exact ⟨fun h => (by cases h), fun h => absurd h (by omega)⟩
                    | exact ⟨fun h => by have := of_decide_eq_true h; omega, fun h => decide_eq_true (by omega)⟩
                · (try have h42 : ¬ ((k = 5 ∧ gx.kind = 2) ∨ (k = 6 ∧ gx.kind = 1) ∨ (k = 7 ∧ gx.kind = 1)) := fun h => by rw [hV.2 h] at c42; cases c42)
                  refine AWp.region ?_
                  first | refine AOps.val (Y.move rfl rfl) (by decide) ?_ | refine AOps.moveU rfl (by decide) ?_
                  refine AOps.val (Y.eql rfl rfl) (by decide) ?_
                  first | refine AOps.val (Y.move rfl rfl) (by decide) ?_ | refine AOps.moveU rfl (by decide) ?_
                  refine AOps.splitD (d := 57) rfl (fun c57 => ?_) (fun c57 => ?_)
                  · refine AOps.guardRun (d := 57) rfl (by decide) rfl ?_
                    first | refine AOps.val (Y.move rfl rfl) (by decide) ?_ | refine AOps.moveU rfl (by decide) ?_
                    refine AOps.guardRun (d := 57) rfl (by decide) rfl ?_
                    refine AOps.val (Y.eql rfl rfl) (by decide) ?_
                    refine AOps.val (Y.pick rfl rfl rfl) (by decide) ?_
                    first | refine AOps.val (Y.assign rfl rfl) (by decide) ?_ | refine AOps.assignU rfl (by decide) ?_
                    refine AOps.nil ?_
                    refine ⟨_, ?_, Le.mk (SubL.cons rfl (SubL.cons rfl (SubL.cons rfl (SubL.cons rfl (SubL.cons rfl (SubL.cons rfl (SubL.cons rfl (SubL.nil)))))))) (SubL.cons rfl (SubL.cons rfl (SubL.cons rfl (SubL.nil))))⟩
                    first
                      | exact ⟨fun _ => by omega, fun _ => rfl⟩
                      | exact ⟨fun h => (by cases h), fun h => absurd h (by omega)⟩
                      | exact ⟨fun h => by have := of_decide_eq_true h; omega, fun h => decide_eq_true (by omega)⟩
                  · refine AOps.guardSkipV (d := 57) rfl (by decide) (by decide) rfl rfl ?_
                    refine AOps.guardSkipV (d := 57) rfl (by decide) (by decide) rfl rfl ?_
                    refine AOps.val (Y.pick rfl rfl rfl) (by decide) ?_
                    first | refine AOps.val (Y.assign rfl rfl) (by decide) ?_ | refine AOps.assignU rfl (by decide) ?_
                    refine AOps.nil ?_
                    refine ⟨_, ?_, Le.mk (SubL.cons rfl (SubL.cons rfl (SubL.cons rfl (SubL.cons rfl (SubL.cons rfl (SubL.cons rfl (SubL.cons rfl (SubL.nil)))))))) (SubL.cons rfl (SubL.cons rfl (SubL.cons rfl (SubL.nil))))⟩
                    first
                      | exact ⟨fun _ => by omega, fun _ => rfl⟩
                      | exact ⟨fun h => (by cases h), fun h => absurd h (by omega)⟩
                      | exact ⟨fun h => by have := of_decide_eq_true h; omega, fun h => decide_eq_true (by omega)⟩
              · refine AOps.guardSkipV (d := 51) rfl (by decide) (by decide) rfl rfl ?_
                refine AOps.guardSkipV (d := 51) rfl (by decide) (by decide) rfl rfl ?_
                refine AOps.val (Y.pick rfl rfl rfl) (by decide) ?_
                first | refine AOps.val (Y.assign rfl rfl) (by decide) ?_ | refine AOps.assignU rfl (by decide) ?_
                refine AOps.nil ?_
                refine AWp.condF rfl ?_
                refine AWp.region ?_
                first | refine AOps.val (Y.move rfl rfl) (by decide) ?_ | refine AOps.moveU rfl (by decide) ?_
                refine AOps.val (Y.eql rfl rfl) (by decide) ?_
                first | refine AOps.val (Y.move rfl rfl) (by decide) ?_ | refine AOps.moveU rfl (by decide) ?_
                refine AOps.splitD (d := 57) rfl (fun c57 => ?_) (fun c57 => ?_)
                · refine AOps.guardRun (d := 57) rfl (by decide) rfl ?_
                  first | refine AOps.val (Y.move rfl rfl) (by decide) ?_ | refine AOps.moveU rfl (by decide) ?_
                  refine AOps.guardRun (d := 57) rfl (by decide) rfl ?_
                  refine AOps.val (Y.eql rfl rfl) (by decide) ?_
                  refine AOps.val (Y.pick rfl rfl rfl) (by decide) ?_
                  first | refine AOps.val (Y.assign rfl rfl) (by decide) ?_ | refine AOps.assignU rfl (by decide) ?_
                  refine AOps.nil ?_
                  refine ⟨_, ?_, Le.mk (SubL.cons rfl (SubL.cons rfl (SubL.cons rfl (SubL.cons rfl (SubL.cons rfl (SubL.cons rfl (SubL.cons rfl (SubL.nil)))))))) (SubL.cons rfl (SubL.cons rfl (SubL.cons rfl (SubL.nil))))⟩
                  first
                    | exact ⟨fun _ => by omega, fun _ => rfl⟩
                    | exact ⟨fun h => (by cases h), fun h => absurd h (by omega)⟩
                    | exact ⟨fun h => by have := of_decide_eq_true h; omega, fun h => decide_eq_true (by omega)⟩
                · refine AOps.guardSkipV (d := 57) rfl (by decide) (by decide) rfl rfl ?_
                  refine AOps.guardSkipV (d := 57) rfl (by decide) (by decide) rfl rfl ?_
                  refine AOps.val (Y.pick rfl rfl rfl) (by decide) ?_
                  first | refine AOps.val (Y.assign rfl rfl) (by decide) ?_ | refine AOps.assignU rfl (by decide) ?_
                  refine AOps.nil ?_
                  refine ⟨_, ?_, Le.mk (SubL.cons rfl (SubL.cons rfl (SubL.cons rfl (SubL.cons rfl (SubL.cons rfl (SubL.cons rfl (SubL.cons rfl (SubL.nil)))))))) (SubL.cons rfl (SubL.cons rfl (SubL.cons rfl (SubL.nil))))⟩
                  first
                    | exact ⟨fun _ => by omega, fun _ => rfl⟩
                    | exact ⟨fun h => (by cases h), fun h => absurd h (by omega)⟩
                    | exact ⟨fun h => by have := of_decide_eq_true h; omega, fun h => decide_eq_true (by omega)⟩
          · refine AWp.condK rfl (fun c42 => ?_) (fun c42 => ?_)
            · (try have h42 := hV.1 c42)
              refine AWp.seq ?_
              refine AWp.region ?_
              first | refine AOps.val (Y.move rfl rfl) (by decide) ?_ | refine AOps.moveU rfl (by decide) ?_
              first | refine AOps.val (Y.assign rfl rfl) (by decide) ?_ | refine AOps.assignU rfl (by decide) ?_
              refine AOps.nil ?_
              refine AWp.ret ?_
              first
                | exact ⟨_, _, rfl, rfl, .inl ⟨by omega, by omega, L2, T2, i2, rfl, rfl, hf2, hi2, hc2⟩⟩
                | exact ⟨_, _, rfl, rfl, .inr (.inl ⟨by omega, by omega, rfl, rfl⟩)⟩
                | exact ⟨_, _, rfl, rfl, hI.out (by omega) (.inl ⟨by omega, rfl, rfl⟩)⟩
                | exact ⟨_, _, rfl, rfl, hI.out (by omega) (.inr (.inl ⟨by omega, rfl, rfl⟩))⟩
                | exact ⟨_, _, rfl, rfl, hI.out (by omega) (.inr (.inr ⟨by omega, hQ⟩))⟩
                | (obtain ⟨_, rfl, rfl, rfl, rfl, h1, h2⟩ := hI.last (by omega)
                   exact ⟨_, _, rfl, rfl, .inr (.inr ⟨hI.ne, .inr (.inr ⟨⟨h1, h2⟩, L2, T2, i2, rfl, rfl, hf2, hi2, hc2⟩)⟩)⟩)
                | (exfalso; omega)
            · (try have h42 : ¬ ((k = 5 ∧ gx.kind = 2) ∨ (k = 6 ∧ gx.kind = 1) ∨ (k = 7 ∧ gx.kind = 1)) := fun h => by rw [hV.2 h] at c42; cases c42)
              refine AWp.seq ?_
              refine AWp.region ?_
              first | refine AOps.val (Y.move rfl rfl) (by decide) ?_ | refine AOps.moveU rfl (by decide) ?_
              refine AOps.val (Y.eql rfl rfl) (by decide) ?_
              first | refine AOps.val (Y.move rfl rfl) (by decide) ?_ | refine AOps.moveU rfl (by decide) ?_
              refine AOps.splitD (d := 65) rfl (fun c65 => ?_) (fun c65 => ?_)
              · refine AOps.guardRun (d := 65) rfl (by decide) rfl ?_
                first | refine AOps.val (Y.move rfl rfl) (by decide) ?_ | refine AOps.moveU rfl (by decide) ?_
                refine AOps.guardRun (d := 65) rfl (by decide) rfl ?_
                refine AOps.val (Y.eql rfl rfl) (by decide) ?_
                refine AOps.val (Y.pick rfl rfl rfl) (by decide) ?_
                first | refine AOps.val (Y.assign rfl rfl) (by decide) ?_ | refine AOps.assignU rfl (by decide) ?_
                refine AOps.nil ?_
                refine AWp.condD rfl (fun c62 => ?_) (fun c62 => ?_)
                · refine AWp.seq ?_
                  refine AWp.region ?_
                  first | refine AOps.val (Y.move rfl rfl) (by decide) ?_ | refine AOps.moveU rfl (by decide) ?_
                  first | refine AOps.val (Y.move rfl rfl) (by decide) ?_ | refine AOps.moveU rfl (by decide) ?_
                  refine AOps.callO [0, 1, 2] [] ok25 (not_spec hl hf hI.hy) rfl (.keep rfl rfl (.keep rfl rfl .nil)) ⟨rfl, rfl, rfl, trivial⟩ rfl (by decide) (fun _ h => by cases h) (fun _ h => by cases h) (by decide) (by decide) ?_
                  intro r objs' hQ hol
                  obtain ⟨m2, L2, T2, rfl, rfl⟩ := notQ_form hQ
                  refine ⟨⟨rfl, fobjs_lt _ _, .inl rfl⟩, ?_⟩
                  first | refine AOps.val (Y.assign rfl rfl) (by decide) ?_ | refine AOps.assignU rfl (by decide) ?_
                  refine AOps.nil ?_
                  refine AWp.ret ?_
                  first
                    | exact ⟨_, _, rfl, rfl, .inl ⟨by omega, by omega, L2, T2, i2, rfl, rfl, hf2, hi2, hc2⟩⟩
                    | exact ⟨_, _, rfl, rfl, .inr (.inl ⟨by omega, by omega, rfl, rfl⟩)⟩
                    | exact ⟨_, _, rfl, rfl, hI.out (by omega) (.inl ⟨by omega, rfl, rfl⟩)⟩
                    | exact ⟨_, _, rfl, rfl, hI.out (by omega) (.inr (.inl ⟨by omega, rfl, rfl⟩))⟩
                    | exact ⟨_, _, rfl, rfl, hI.out (by omega) (.inr (.inr ⟨by omega, hQ⟩))⟩
                    | (obtain ⟨_, rfl, rfl, rfl, rfl, h1, h2⟩ := hI.last (by omega)
                       exact ⟨_, _, rfl, rfl, .inr (.inr ⟨hI.ne, .inr (.inr ⟨⟨h1, h2⟩, L2, T2, i2, rfl, rfl, hf2, hi2, hc2⟩)⟩)⟩)
                    | (exfalso; omega)
                · refine AWp.skip ?_
                  refine AWp.region ?_
                  first | refine AOps.val (Y.move rfl rfl) (by decide) ?_ | refine AOps.moveU rfl (by decide) ?_
                  first | refine AOps.val (Y.move rfl rfl) (by decide) ?_ | refine AOps.moveU rfl (by decide) ?_
                  first | refine AOps.val (Y.assign rfl rfl) (by decide) ?_ | refine AOps.assignU rfl (by decide) ?_
                  first | refine AOps.val (Y.assign rfl rfl) (by decide) ?_ | refine AOps.assignU rfl (by decide) ?_
                  refine AOps.nil ?_
                  refine AWp.region ?_
                  first | refine AOps.val (Y.addI rfl rfl (by omega)) (by decide) ?_ | refine AOps.val (Y.add rfl rfl rfl) (by decide) ?_
                  first | refine AOps.val (Y.move rfl rfl) (by decide) ?_ | refine AOps.moveU rfl (by decide) ?_
                  refine AOps.nil ?_
                  exact ⟨(n + 1, y, gy, x, gx), ⟨hI.next (by omega) (fun h => by unfold Cst at h; omega), by simp only; omega⟩, by simp only; omega, Le.mk (by repeat (first | exact SubL.nil | refine SubL.cons rfl ?_)) (by repeat (first | exact SubL.nil | refine SubL.cons rfl ?_))⟩
              · refine AOps.guardSkipV (d := 65) rfl (by decide) (by decide) rfl rfl ?_
                refine AOps.guardSkipV (d := 65) rfl (by decide) (by decide) rfl rfl ?_
                refine AOps.val (Y.pick rfl rfl rfl) (by decide) ?_
                first | refine AOps.val (Y.assign rfl rfl) (by decide) ?_ | refine AOps.assignU rfl (by decide) ?_
                refine AOps.nil ?_
                refine AWp.condF rfl ?_
                refine AWp.skip ?_
                refine AWp.region ?_
                first | refine AOps.val (Y.move rfl rfl) (by decide) ?_ | refine AOps.moveU rfl (by decide) ?_
                first | refine AOps.val (Y.move rfl rfl) (by decide) ?_ | refine AOps.moveU rfl (by decide) ?_
                first | refine AOps.val (Y.assign rfl rfl) (by decide) ?_ | refine AOps.assignU rfl (by decide) ?_
                first | refine AOps.val (Y.assign rfl rfl) (by decide) ?_ | refine AOps.assignU rfl (by decide) ?_
                refine AOps.nil ?_
                refine AWp.region ?_
                first | refine AOps.val (Y.addI rfl rfl (by omega)) (by decide) ?_ | refine AOps.val (Y.add rfl rfl rfl) (by decide) ?_
                first | refine AOps.val (Y.move rfl rfl) (by decide) ?_ | refine AOps.moveU rfl (by decide) ?_
                refine AOps.nil ?_
                exact ⟨(n + 1, y, gy, x, gx), ⟨hI.next (by omega) (fun h => by unfold Cst at h; omega), by simp only; omega⟩, by simp only; omega, Le.mk (by repeat (first | exact SubL.nil | refine SubL.cons rfl ?_)) (by repeat (first | exact SubL.nil | refine SubL.cons rfl ?_))⟩
    · refine AWp.exit ?_
      refine AWp.seq ?_
      refine AWp.region ?_
      first | refine AOps.val (Y.move rfl rfl) (by decide) ?_ | refine AOps.moveU rfl (by decide) ?_
      first | refine AOps.val (Y.move rfl rfl) (by decide) ?_ | refine AOps.moveU rfl (by decide) ?_
      first | refine AOps.val (Y.move rfl rfl) (by decide) ?_ | refine AOps.moveU rfl (by decide) ?_
      first | refine AOps.val (Y.move rfl rfl) (by decide) ?_ | refine AOps.moveU rfl (by decide) ?_
      refine AOps.val (Y.build pl38 ze38 rfl rfl rfl) (by decide) ?_
      refine AOps.callO [0, 1, 2] [] ok27 (put_spec (g := ⟨k, x, y⟩) hl hf (binG_wf hk (by omega) (by omega))) rfl (.keep rfl rfl (.keep rfl rfl .nil)) ⟨rfl, rfl, rfl, trivial⟩ rfl (by decide) (fun _ h => by cases h) (fun _ h => by cases h) (by decide) (by decide) ?_
      rintro r objs' ⟨L2, T2, i2, rfl, rfl, hf2, hi2, hc2⟩ _
      refine ⟨⟨rfl, fobjs_lt _ _, .inl rfl⟩, ?_⟩
      first | refine AOps.val (Y.assign rfl rfl) (by decide) ?_ | refine AOps.assignU rfl (by decide) ?_
      refine AOps.nil ?_
      refine AWp.ret ?_
      first
        | exact ⟨_, _, rfl, rfl, .inl ⟨by omega, by omega, L2, T2, i2, rfl, rfl, hf2, hi2, hc2⟩⟩
        | exact ⟨_, _, rfl, rfl, .inr (.inl ⟨by omega, by omega, rfl, rfl⟩)⟩
        | exact ⟨_, _, rfl, rfl, hI.out (by omega) (.inl ⟨by omega, rfl, rfl⟩)⟩
        | exact ⟨_, _, rfl, rfl, hI.out (by omega) (.inr (.inl ⟨by omega, rfl, rfl⟩))⟩
        | exact ⟨_, _, rfl, rfl, hI.out (by omega) (.inr (.inr ⟨by omega, hQ⟩))⟩
        | (obtain ⟨_, rfl, rfl, rfl, rfl, h1, h2⟩ := hI.last (by omega)
           exact ⟨_, _, rfl, rfl, .inr (.inr ⟨hI.ne, .inr (.inr ⟨⟨h1, h2⟩, L2, T2, i2, rfl, rfl, hf2, hi2, hc2⟩)⟩)⟩)
        | (exfalso; omega)

end Go.Proofs.Ytiehdnjcapjacaa
/- The walk through Fold. -/
namespace Go.Proofs.Ytiehdnjcapjacaa
open Go Go.AW Go.Proofs



set_option maxHeartbeats 1000000 in
theorem fold_spec {l : List Gate} {keep : List Nat} (hl : l.length ≤ 1000) (hkl0 : keep.length ≤ 1048576) (hgood : Good l) (hkeep : ∀ x ∈ keep, x < l.length) : ACalls Try.prog 21 [.fz 3 (l.map Gate.row), .fz 1 (keep.map nrow)] [] [] (FoldQ l keep) := by
  refine ACalls.of Try.func21 rfl rfl rfl (n := 91) (by decide) (Nat.le_of_ble_eq_true rfl) ?_
  have hkl := fun (i : Nat) (h : i < keep.length) => hkeep _ (mem_getD (d := 0) h)
  have gwf := fun (i : Nat) (h : i < l.length) => good_wf hgood (by omega) h
  refine AWp.seq ?_
  refine AWp.region ?_
  refine AOps.val (Y.assign rfl rfl) (by decide) ?_
  refine AOps.val (Y.assign rfl rfl) (by decide) ?_
  refine AOps.nil ?_
  refine AWp.seq ?_
  refine AWp.seq ?_
  refine AWp.region ?_
  refine AOps.val (Y.move rfl rfl) (by decide) ?_
  refine AOps.callP ok12 (check_spec (l := l) (by omega)) rfl (.keep rfl rfl .nil) (by decide) rfl ?_
  refine AOps.val (Y.neq rfl rfl) (by decide) ?_
  refine AOps.nil ?_
  refine AWp.condD rfl (fun c14 => ?_) (fun c14 => ?_)
  · exact absurd (check_good hgood) c14
  · refine AWp.skip ?_
    refine AWp.seq ?_
    refine AWp.seq ?_
    refine AWp.region ?_
    refine AOps.val (Y.move rfl rfl) (by decide) ?_
    refine AOps.val (Y.len (n := keep.length) sl42 rfl (congrArg some (List.length_map ..))) (by decide) ?_
    refine AOps.val (Y.move rfl rfl) (by decide) ?_
    refine AOps.nil ?_
    refine AWp.block ?_
    refine AWp.loop1 (fun (q_4 : Nat) => ⟨[(0, .fz 3 (l.map Gate.row)), (1, .fz 1 (keep.map nrow)), (15, .fz 1 (keep.map nrow)), (16, .v (.int .i64 (keep.length : Nat))), (17, .v (.int .i64 (q_4 : Int)))], []⟩) (fun (q_4 : Nat) => ((q_4 : Int) ≤ (keep.length : Nat))) (fun (q_4 : Nat) => ((keep.length : Nat) - (q_4 : Int)).toNat) 0 (by first | omega | (simp [-List.getD_eq_getElem?_getD]; done) | (simp [-List.getD_eq_getElem?_getD]; omega)) (Le.mk (SubL.cons rfl (SubL.cons rfl (SubL.cons rfl (SubL.cons rfl (SubL.cons (look_int rfl (by first | rfl | omega)) (SubL.nil)))))) (SubL.nil)) (fun q_4 hI4 => ?_)
    have hb4 := hI4
    refine AWp.seq ?_
    refine AWp.region ?_
    refine AOps.val (Y.lss rfl rfl) (by decide) ?_
    refine AOps.nil ?_
    refine AWp.seq ?_
    refine AWp.condD rfl (fun c18 => ?_) (fun c18 => ?_)
    · have hk1 := hkl q_4 (by omega)
      refine AWp.skip ?_
      refine AWp.seq ?_
      refine AWp.block ?_
      refine AWp.seq ?_
      refine AWp.region ?_
      refine AOps.val (Y.indexF (m := q_4) sl42 rfl rfl (by first | rfl | omega) (row_getD (d := 0) (by first | omega | (simp [-List.getD_eq_getElem?_getD]; done) | (simp [-List.getD_eq_getElem?_getD]; omega)))) (by decide) ?_
      refine AOps.val (Y.load sh3 rfl rfl rfl rfl) (by decide) ?_
      refine AOps.val (Y.assign rfl rfl) (by decide) ?_
      refine AOps.nil ?_
      refine AWp.seq ?_
      refine AWp.region ?_
      refine AOps.val (Y.move rfl rfl) (by decide) ?_
      refine AOps.val (Y.lss rfl rfl) (by decide) ?_
      refine AOps.val (Y.move rfl rfl) (by decide) ?_
      refine AOps.splitD (d := 23) rfl (fun c23 => ?_) (fun c23 => ?_)
      · exfalso; omega
      · refine AOps.guardRun (d := 23) rfl (by decide) rfl ?_
        refine AOps.val (Y.move rfl rfl) (by decide) ?_
        refine AOps.guardRun (d := 23) rfl (by decide) rfl ?_
        refine AOps.val (Y.move rfl rfl) (by decide) ?_
        refine AOps.guardRun (d := 23) rfl (by decide) rfl ?_
        refine AOps.val (Y.len (n := l.length) sl22 rfl (congrArg some (List.length_map ..))) (by decide) ?_
        refine AOps.guardRun (d := 23) rfl (by decide) rfl ?_
        refine AOps.val (Y.geq rfl rfl) (by decide) ?_
        refine AOps.val (Y.pick rfl rfl rfl) (by decide) ?_
        refine AOps.nil ?_
        refine AWp.condD rfl (fun c28 => ?_) (fun c28 => ?_)
        · exfalso; omega
        · refine AWp.skip ?_
          refine AWp.region ?_
          refine AOps.val (Y.addI rfl rfl (by first | omega | (simp [-List.getD_eq_getElem?_getD]; done) | (simp [-List.getD_eq_getElem?_getD]; omega))) (by decide) ?_
          refine AOps.val (Y.move rfl rfl) (by decide) ?_
          refine AOps.nil ?_
          exact ⟨q_4 + 1, by first | omega | (simp [-List.getD_eq_getElem?_getD]; done) | (simp [-List.getD_eq_getElem?_getD]; omega), by omega, Le.mk (SubL.cons rfl (SubL.cons rfl (SubL.cons rfl (SubL.cons rfl (SubL.cons (look_int rfl (by first | rfl | omega)) (SubL.nil)))))) (SubL.nil)⟩
    · refine AWp.exit ?_
      refine AWp.seq ?_
      refine AWp.region ?_
      refine AOps.makeMap 130 (by decide) (by decide) ?_
      refine AOps.val (Y.build pl61 ze61 rfl rfl rfl) (by decide) ?_
      refine AOps.sh (Sh.nilA (d := 31) 131 3 [] [.mref 130] rfl rfl rfl (by decide)) ?_
      refine AOps.box 132 rfl rfl rfl rfl rfl (by decide) ?_
      refine AOps.val (Y.assign rfl rfl) (by decide) ?_
      refine AOps.nil ?_
      refine AWp.seq ?_
      refine AWp.region ?_
      refine AOps.val (Y.move rfl rfl) (by decide) ?_
      refine AOps.val (Y.len (n := l.length) sl22 rfl (congrArg some (List.length_map ..))) (by decide) ?_
      refine AOps.makeSlice (n := l.length) sl42 ze3 rfl rfl rfl rfl (by first | omega | (simp [-List.getD_eq_getElem?_getD]; done) | (simp [-List.getD_eq_getElem?_getD]; omega)) (by first | omega | (simp [-List.getD_eq_getElem?_getD]; done) | (simp [-List.getD_eq_getElem?_getD]; omega)) (by decide) ?_
      refine AOps.assignX rfl (by decide) ?_
      refine AOps.sh (Sh.adoptE (d := 9) (n := l.length) 109 ((List.replicate l.length 0).map nrow) rfl (by first | rfl | exact rep_map rfl) (len_map (by simp)) (by decide)) ?_
      refine AOps.nil ?_
      refine AWp.seq ?_
      refine AWp.seq ?_
      refine AWp.region ?_
      refine AOps.val (Y.move rfl rfl) (by decide) ?_
      refine AOps.val (Y.len (n := l.length) sl22 rfl (congrArg some (List.length_map ..))) (by decide) ?_
      refine AOps.val (Y.move rfl rfl) (by decide) ?_
      refine AOps.nil ?_
      refine AWp.block ?_
      refine AWp.loop4 (fun (m_12 : Nat) (idx_12 : List Nat) (T_12 : List (Gate × Nat)) (L_12 : List Gate) => ⟨[(1, .fz 1 (keep.map nrow)), (8, .ptr 132 0 0 0), (9, .slc 109 1 0 l.length), (36, .fz 3 (l.map Gate.row)), (37, .v (.int .i64 (l.length : Nat))), (38, .v (.int .i64 (m_12 : Int)))], [(109, .rows 1 (idx_12.map nrow)), (130, .tab (T_12.map ent)), (131, .rows 3 (L_12.map Gate.row)), (132, .cells [.slc 131 3 0 L_12.length, .mref 130])]⟩) (fun (m_12 : Nat) (idx_12 : List Nat) (T_12 : List (Gate × Nat)) (L_12 : List Gate) => (idx_12.length = l.length) ∧ ((m_12 : Int) ≤ (l.length : Nat)) ∧ (FoldRel l m_12 L_12 (idx_12.take m_12)) ∧ (FOk L_12 T_12)) (fun (m_12 : Nat) (idx_12 : List Nat) (T_12 : List (Gate × Nat)) (L_12 : List Gate) => ((l.length : Nat) - (m_12 : Int)).toNat) 0 (List.replicate l.length 0) ([] : List (Gate × Nat)) ([] : List Gate) (⟨by first | omega | (simp [-List.getD_eq_getElem?_getD]; done) | (simp [-List.getD_eq_getElem?_getD]; omega), by first | omega | (simp [-List.getD_eq_getElem?_getD]; done) | (simp [-List.getD_eq_getElem?_getD]; omega), .zero, FOk.nil⟩) (Le.mk (SubL.cons rfl (SubL.cons rfl (SubL.cons rfl (SubL.cons rfl (SubL.cons rfl (SubL.cons (look_int rfl (by first | rfl | omega)) (SubL.nil))))))) (SubL.cons rfl (SubL.cons rfl (SubL.cons rfl (SubL.cons (look_cells rfl (by first | rfl | (simp only [List.cons.injEq, X.v.injEq, X.slc.injEq, Value.int.injEq, and_true, true_and]; omega) | simp_all)) (SubL.nil)))))) (fun m_12 idx_12 T_12 L_12 hI12 => ?_)
      obtain ⟨hl109, hb12, hfr, hf⟩ := hI12
      refine AWp.seq ?_
      refine AWp.region ?_
      refine AOps.val (Y.lss rfl rfl) (by decide) ?_
      refine AOps.nil ?_
      refine AWp.seq ?_
      refine AWp.condD rfl (fun c39 => ?_) (fun c39 => ?_)
      · have hg1 := good_at hgood (show m_12 < l.length by omega)
        have hg2 := good_at hgood (show m_12 < l.length by omega)
        simp only [okGate, okArg, operands] at hg1
        have hfo := hfr.ok hgood
        have hfl := hfo.small
        have hia := fun (x : Nat) (h : x < m_12) => idx_lt hfo hl109 h
        refine AWp.skip ?_
        refine AWp.join3 (fun (idx_j22 : List Nat) (T_j22 : List (Gate × Nat)) (L_j22 : List Gate) => ⟨[(1, .fz 1 (keep.map nrow)), (8, .ptr 132 0 0 0), (9, .slc 109 1 0 l.length), (36, .fz 3 (l.map Gate.row)), (37, .v (.int .i64 (l.length : Nat))), (38, .v (.int .i64 (m_12 : Int)))], [(109, .rows 1 (idx_j22.map nrow)), (130, .tab (T_j22.map ent)), (131, .rows 3 (L_j22.map Gate.row)), (132, .cells [.slc 131 3 0 L_j22.length, .mref 130])]⟩) (fun (idx_j22 : List Nat) (T_j22 : List (Gate × Nat)) (L_j22 : List Gate) => (idx_j22.length = l.length) ∧ (FoldRel l (m_12 + 1) L_j22 (idx_j22.take (m_12 + 1)) ∧ FOk L_j22 T_j22)) ?_ (fun idx_j22 T_j22 L_j22 hJx22 => ?_)
        · refine AWp.block ?_
          refine AWp.seq ?_
          refine AWp.region ?_
          refine AOps.val (Y.move rfl rfl) (by decide) ?_
          refine AOps.val (Y.indexF (m := m_12) sl22 rfl rfl (by first | rfl | omega) (row_getD (d := default) (by first | omega | (simp [-List.getD_eq_getElem?_getD]; done) | (simp [-List.getD_eq_getElem?_getD]; omega)))) (by decide) ?_
          refine AOps.val (Y.loadA sh38 rfl rfl (Nat.le_of_ble_eq_true rfl) rfl rfl) (by decide) ?_
          refine AOps.alloc 111 ze38 rfl rfl (by decide) ?_
          refine AOps.val (Y.assign rfl rfl) (by decide) ?_
          refine AOps.storeC si38 rfl rfl rfl rfl rfl rfl (Nat.le_of_ble_eq_true rfl) rfl ?_
          refine AOps.nil ?_
          refine AWp.seq ?_
          refine AWp.region ?_
          refine AOps.val (Y.fieldAddr fl38_0 rfl rfl) (by decide) ?_
          refine AOps.val (Y.load sh3 rfl rfl rfl rfl) (by decide) ?_
          refine AOps.nil ?_
          refine AWp.block ?_
          refine AWp.seq ?_
          refine AWp.region ?_
          refine AOps.val (Y.eql rfl rfl) (by decide) ?_
          refine AOps.val (Y.assign rfl rfl) (by decide) ?_
          refine AOps.nil ?_
          refine AWp.condD rfl (fun c51 => ?_) (fun c51 => ?_)
          · have ha1 := (hia (l.getD m_12 default).a.toNat (by omega)).2
            refine AWp.region ?_
            refine AOps.val (Y.move rfl rfl) (by decide) ?_
            refine AOps.val (Y.move rfl rfl) (by decide) ?_
            refine AOps.val (Y.move rfl rfl) (by decide) ?_
            refine AOps.val (Y.move rfl rfl) (by decide) ?_
            refine AOps.val (Y.fieldAddr fl38_1 rfl rfl) (by decide) ?_
            refine AOps.val (Y.load sh3 rfl rfl rfl rfl) (by decide) ?_
            refine AOps.val (Y.indexO (m := ((l.getD m_12 default).a).toNat) sl42 rfl rfl (by first | omega | (simp [-List.getD_eq_getElem?_getD]; done) | (simp [-List.getD_eq_getElem?_getD]; omega)) (by first | omega | (simp [-List.getD_eq_getElem?_getD]; done) | (simp [-List.getD_eq_getElem?_getD]; omega))) (by decide) ?_
            refine AOps.val (Y.load sh3 rfl (row_getD0 (d := 0) (by first | omega | (simp [-List.getD_eq_getElem?_getD]; done) | (simp [-List.getD_eq_getElem?_getD]; omega))) rfl rfl) (by decide) ?_
            refine AOps.callO [132, 131, 130] [] ok25 (not_spec (L := L_12) (T := T_12) (a := idx_12.getD (((l.getD m_12 default).a).toNat) 0) (by omega) hf (getD_at (d := default) (by omega))) rfl (.named rfl rfl (.keep rfl rfl .nil)) ⟨rfl, rfl, rfl, trivial⟩ rfl (by decide) (fun _ h => by cases h) (fun _ h => by cases h) (by decide) (by decide) ?_
            rintro r objs' hQ61 _
            obtain ⟨L61, T61, x61, rfl, rfl, hf61, hx61, hr61⟩ := NotQ.held hf hfo.good (getD_at (by omega)) hQ61
            refine ⟨⟨rfl, fobjs_lt _ _, .inl rfl⟩, ?_⟩
            refine AOps.val (Y.indexO (m := m_12) sl42 rfl rfl (by first | rfl | omega) (by first | omega | (simp [-List.getD_eq_getElem?_getD]; done) | (simp [-List.getD_eq_getElem?_getD]; omega))) (by decide) ?_
            refine AOps.storeE ((idx_12.set m_12 x61).map nrow) si3 rfl rfl rfl rfl rfl rfl rfl (row_getD0 (d := 0) (by first | omega | (simp [-List.getD_eq_getElem?_getD]; done) | (simp [-List.getD_eq_getElem?_getD]; omega))) (Nat.le_of_ble_eq_true rfl) (set_map0 rfl) ?_
            refine AOps.nil ?_
            exact ⟨idx_12.set m_12 x61, T61, L61, ⟨by first | omega | (simp [-List.getD_eq_getElem?_getD]; done) | (simp [-List.getD_eq_getElem?_getD]; omega), ⟨fold_not hfr (by omega) (by omega) c51 (by omega) hr61, hf61⟩⟩, Le.mk (SubL.cons rfl (SubL.cons rfl (SubL.cons rfl (SubL.cons rfl (SubL.cons rfl (SubL.cons rfl (SubL.nil))))))) (SubL.cons rfl (SubL.cons rfl (SubL.cons rfl (SubL.cons (look_cells rfl (by first | rfl | (simp only [List.cons.injEq, X.v.injEq, X.slc.injEq, Value.int.injEq, and_true, true_and]; omega) | simp_all)) (SubL.nil)))))⟩
          · refine AWp.seq ?_
            refine AWp.seq ?_
            refine AWp.region ?_
            refine AOps.val (Y.eql rfl rfl) (by decide) ?_
            refine AOps.val (Y.assign rfl rfl) (by decide) ?_
            refine AOps.nil ?_
            refine AWp.condKD rfl (fun c63 => ?_) (fun c63 => ?_)
            · have ha1 := (hia (l.getD m_12 default).a.toNat (by omega)).2
              have hb1 := (hia (l.getD m_12 default).b.toNat (by omega)).2
              refine AWp.skip ?_
              refine AWp.condT rfl ?_
              refine AWp.regionAny rfl ?_
              refine AAny.blind 0 rfl (by kernel_rfl) (Blind.move rfl rfl) (by decide) ?_
              refine AAny.blind 1 rfl (by kernel_rfl) (Blind.move rfl rfl) (by decide) ?_
              refine AAny.quietN (n := 3) [2, 3, 4, 5, 6, 7, 8, 9, 10, 11, 12, 13, 14] [15, 16, 17] 15 rfl (by kernel_rfl) ?_
              refine AQ.cons (i := 2) rfl (by kernel_rfl) (Y.move rfl rfl) (by decide) ?_
              refine AQ.cons (i := 3) rfl (by kernel_rfl) (Y.fieldAddr fl38_0 rfl rfl) (by decide) ?_
              refine AQ.cons (i := 4) rfl (by kernel_rfl) (Y.load sh3 rfl rfl rfl rfl) (by decide) ?_
              refine AQ.cons (i := 5) rfl (by kernel_rfl) (Y.move rfl rfl) (by decide) ?_
              refine AQ.cons (i := 6) rfl (by kernel_rfl) (Y.fieldAddr fl38_1 rfl rfl) (by decide) ?_
              refine AQ.cons (i := 7) rfl (by kernel_rfl) (Y.load sh3 rfl rfl rfl rfl) (by decide) ?_
              refine AQ.cons (i := 8) rfl (by kernel_rfl) (Y.indexO (m := ((l.getD m_12 default).a).toNat) sl42 rfl rfl (by first | omega | (simp [-List.getD_eq_getElem?_getD]; done) | (simp [-List.getD_eq_getElem?_getD]; omega)) (by first | omega | (simp [-List.getD_eq_getElem?_getD]; done) | (simp [-List.getD_eq_getElem?_getD]; omega))) (by decide) ?_
              refine AQ.cons (i := 9) rfl (by kernel_rfl) (Y.load sh3 rfl (row_getD0 (d := 0) (by first | omega | (simp [-List.getD_eq_getElem?_getD]; done) | (simp [-List.getD_eq_getElem?_getD]; omega))) rfl rfl) (by decide) ?_
              refine AQ.cons (i := 10) rfl (by kernel_rfl) (Y.move rfl rfl) (by decide) ?_
              refine AQ.cons (i := 11) rfl (by kernel_rfl) (Y.fieldAddr fl38_2 rfl rfl) (by decide) ?_
              refine AQ.cons (i := 12) rfl (by kernel_rfl) (Y.load sh3 rfl rfl rfl rfl) (by decide) ?_
              refine AQ.cons (i := 13) rfl (by kernel_rfl) (Y.indexO (m := ((l.getD m_12 default).b).toNat) sl42 rfl rfl (by first | omega | (simp [-List.getD_eq_getElem?_getD]; done) | (simp [-List.getD_eq_getElem?_getD]; omega)) (by first | omega | (simp [-List.getD_eq_getElem?_getD]; done) | (simp [-List.getD_eq_getElem?_getD]; omega))) (by decide) ?_
              refine AQ.cons (i := 14) rfl (by kernel_rfl) (Y.load sh3 rfl (row_getD0 (d := 0) (by first | omega | (simp [-List.getD_eq_getElem?_getD]; done) | (simp [-List.getD_eq_getElem?_getD]; omega))) rfl rfl) (by decide) ?_
              refine AQ.nil ?_
              refine AAny.one 15 rfl (by kernel_rfl) ?_
              refine AOps.callO [132, 131, 130] [] ok26 (binary_spec (L := L_12) (T := T_12) (a := idx_12.getD (((l.getD m_12 default).a).toNat) 0) (b := idx_12.getD (((l.getD m_12 default).b).toNat) 0) (by omega) hf (by omega) (getD_at (d := default) (by omega)) (getD_at (d := default) (by omega))) rfl (.named rfl rfl (.keep rfl rfl (.keep rfl rfl (.keep rfl rfl .nil)))) ⟨rfl, rfl, rfl, trivial⟩ rfl (by decide) (fun _ h => by cases h) (fun _ h => by cases h) (by decide) (by decide) ?_
              rintro r objs' hQ82 _
              obtain ⟨L82, T82, x82, rfl, rfl, hf82, hx82, hr82⟩ := BinQ.held hf hfo.good (getD_at (by omega)) (getD_at (by omega)) hQ82
              refine ⟨⟨rfl, fobjs_lt _ _, .inl rfl⟩, ?_⟩
              refine AOps.nil ⟨rfl, ?_⟩
              refine AAny.one 16 rfl (by kernel_rfl) ?_
              refine AOps.val (Y.indexO (m := m_12) sl42 rfl rfl (by first | rfl | omega) (by first | omega | (simp [-List.getD_eq_getElem?_getD]; done) | (simp [-List.getD_eq_getElem?_getD]; omega))) (by decide) ?_
              refine AOps.nil ⟨rfl, ?_⟩
              refine AAny.one 17 rfl (by kernel_rfl) ?_
              refine AOps.storeE ((idx_12.set m_12 x82).map nrow) si3 rfl rfl rfl rfl rfl rfl rfl (row_getD0 (d := 0) (by first | omega | (simp [-List.getD_eq_getElem?_getD]; done) | (simp [-List.getD_eq_getElem?_getD]; omega))) (Nat.le_of_ble_eq_true rfl) (set_map0 rfl) ?_
              refine AOps.nil ⟨rfl, ?_⟩
              refine AAny.done (by kernel_rfl) ?_
              exact ⟨idx_12.set m_12 x82, T82, L82, ⟨by first | omega | (simp [-List.getD_eq_getElem?_getD]; done) | (simp [-List.getD_eq_getElem?_getD]; omega), ⟨fold_bin hfr (by omega) (by omega) (by omega) (by omega) (by omega) hr82, hf82⟩⟩, Le.mk (SubL.cons rfl (SubL.cons rfl (SubL.cons rfl (SubL.cons rfl (SubL.cons rfl (SubL.cons rfl (SubL.nil))))))) (SubL.cons rfl (SubL.cons rfl (SubL.cons rfl (SubL.cons (look_cells rfl (by first | rfl | (simp only [List.cons.injEq, X.v.injEq, X.slc.injEq, Value.int.injEq, and_true, true_and]; omega) | simp_all)) (SubL.nil)))))⟩
            · refine AWp.seq ?_
              refine AWp.region ?_
              refine AOps.val (Y.eql rfl rfl) (by decide) ?_
              refine AOps.val (Y.assign rfl rfl) (by decide) ?_
              refine AOps.nil ?_
              refine AWp.condKD rfl (fun c63 => ?_) (fun c63 => ?_)
              · have ha1 := (hia (l.getD m_12 default).a.toNat (by omega)).2
                have hb1 := (hia (l.getD m_12 default).b.toNat (by omega)).2
                refine AWp.skip ?_
                refine AWp.condT rfl ?_
                refine AWp.regionAny rfl ?_
                refine AAny.blind 0 rfl (by kernel_rfl) (Blind.move rfl rfl) (by decide) ?_
                refine AAny.blind 1 rfl (by kernel_rfl) (Blind.move rfl rfl) (by decide) ?_
                refine AAny.quietN (n := 3) [2, 3, 4, 5, 6, 7, 8, 9, 10, 11, 12, 13, 14] [15, 16, 17] 15 rfl (by kernel_rfl) ?_
                refine AQ.cons (i := 2) rfl (by kernel_rfl) (Y.move rfl rfl) (by decide) ?_
                refine AQ.cons (i := 3) rfl (by kernel_rfl) (Y.fieldAddr fl38_0 rfl rfl) (by decide) ?_
                refine AQ.cons (i := 4) rfl (by kernel_rfl) (Y.load sh3 rfl rfl rfl rfl) (by decide) ?_
                refine AQ.cons (i := 5) rfl (by kernel_rfl) (Y.move rfl rfl) (by decide) ?_
                refine AQ.cons (i := 6) rfl (by kernel_rfl) (Y.fieldAddr fl38_1 rfl rfl) (by decide) ?_
                refine AQ.cons (i := 7) rfl (by kernel_rfl) (Y.load sh3 rfl rfl rfl rfl) (by decide) ?_
                refine AQ.cons (i := 8) rfl (by kernel_rfl) (Y.indexO (m := ((l.getD m_12 default).a).toNat) sl42 rfl rfl (by first | omega | (simp [-List.getD_eq_getElem?_getD]; done) | (simp [-List.getD_eq_getElem?_getD]; omega)) (by first | omega | (simp [-List.getD_eq_getElem?_getD]; done) | (simp [-List.getD_eq_getElem?_getD]; omega))) (by decide) ?_
                refine AQ.cons (i := 9) rfl (by kernel_rfl) (Y.load sh3 rfl (row_getD0 (d := 0) (by first | omega | (simp [-List.getD_eq_getElem?_getD]; done) | (simp [-List.getD_eq_getElem?_getD]; omega))) rfl rfl) (by decide) ?_
                refine AQ.cons (i := 10) rfl (by kernel_rfl) (Y.move rfl rfl) (by decide) ?_
                refine AQ.cons (i := 11) rfl (by kernel_rfl) (Y.fieldAddr fl38_2 rfl rfl) (by decide) ?_
                refine AQ.cons (i := 12) rfl (by kernel_rfl) (Y.load sh3 rfl rfl rfl rfl) (by decide) ?_
                refine AQ.cons (i := 13) rfl (by kernel_rfl) (Y.indexO (m := ((l.getD m_12 default).b).toNat) sl42 rfl rfl (by first | omega | (simp [-List.getD_eq_getElem?_getD]; done) | (simp [-List.getD_eq_getElem?_getD]; omega)) (by first | omega | (simp [-List.getD_eq_getElem?_getD]; done) | (simp [-List.getD_eq_getElem?_getD]; omega))) (by decide) ?_
                refine AQ.cons (i := 14) rfl (by kernel_rfl) (Y.load sh3 rfl (row_getD0 (d := 0) (by first | omega | (simp [-List.getD_eq_getElem?_getD]; done) | (simp [-List.getD_eq_getElem?_getD]; omega))) rfl rfl) (by decide) ?_
                refine AQ.nil ?_
                refine AAny.one 15 rfl (by kernel_rfl) ?_
                refine AOps.callO [132, 131, 130] [] ok26 (binary_spec (L := L_12) (T := T_12) (a := idx_12.getD (((l.getD m_12 default).a).toNat) 0) (b := idx_12.getD (((l.getD m_12 default).b).toNat) 0) (by omega) hf (by omega) (getD_at (d := default) (by omega)) (getD_at (d := default) (by omega))) rfl (.named rfl rfl (.keep rfl rfl (.keep rfl rfl (.keep rfl rfl .nil)))) ⟨rfl, rfl, rfl, trivial⟩ rfl (by decide) (fun _ h => by cases h) (fun _ h => by cases h) (by decide) (by decide) ?_
                rintro r objs' hQ82 _
                obtain ⟨L82, T82, x82, rfl, rfl, hf82, hx82, hr82⟩ := BinQ.held hf hfo.good (getD_at (by omega)) (getD_at (by omega)) hQ82
                refine ⟨⟨rfl, fobjs_lt _ _, .inl rfl⟩, ?_⟩
                refine AOps.nil ⟨rfl, ?_⟩
                refine AAny.one 16 rfl (by kernel_rfl) ?_
                refine AOps.val (Y.indexO (m := m_12) sl42 rfl rfl (by first | rfl | omega) (by first | omega | (simp [-List.getD_eq_getElem?_getD]; done) | (simp [-List.getD_eq_getElem?_getD]; omega))) (by decide) ?_
                refine AOps.nil ⟨rfl, ?_⟩
                refine AAny.one 17 rfl (by kernel_rfl) ?_
                refine AOps.storeE ((idx_12.set m_12 x82).map nrow) si3 rfl rfl rfl rfl rfl rfl rfl (row_getD0 (d := 0) (by first | omega | (simp [-List.getD_eq_getElem?_getD]; done) | (simp [-List.getD_eq_getElem?_getD]; omega))) (Nat.le_of_ble_eq_true rfl) (set_map0 rfl) ?_
                refine AOps.nil ⟨rfl, ?_⟩
                refine AAny.done (by kernel_rfl) ?_
                exact ⟨idx_12.set m_12 x82, T82, L82, ⟨by first | omega | (simp [-List.getD_eq_getElem?_getD]; done) | (simp [-List.getD_eq_getElem?_getD]; omega), ⟨fold_bin hfr (by omega) (by omega) (by omega) (by omega) (by omega) hr82, hf82⟩⟩, Le.mk (SubL.cons rfl (SubL.cons rfl (SubL.cons rfl (SubL.cons rfl (SubL.cons rfl (SubL.cons rfl (SubL.nil))))))) (SubL.cons rfl (SubL.cons rfl (SubL.cons rfl (SubL.cons (look_cells rfl (by first | rfl | (simp only [List.cons.injEq, X.v.injEq, X.slc.injEq, Value.int.injEq, and_true, true_and]; omega) | simp_all)) (SubL.nil)))))⟩
              · refine AWp.region ?_
                refine AOps.val (Y.eql rfl rfl) (by decide) ?_
                refine AOps.val (Y.assign rfl rfl) (by decide) ?_
                refine AOps.nil ?_
                refine AWp.condKD rfl (fun c63 => ?_) (fun c63 => ?_)
                · have ha1 := (hia (l.getD m_12 default).a.toNat (by omega)).2
                  have hb1 := (hia (l.getD m_12 default).b.toNat (by omega)).2
                  refine AWp.regionAny rfl ?_
                  refine AAny.blind 0 rfl (by kernel_rfl) (Blind.move rfl rfl) (by decide) ?_
                  refine AAny.blind 1 rfl (by kernel_rfl) (Blind.move rfl rfl) (by decide) ?_
                  refine AAny.quietN (n := 3) [2, 3, 4, 5, 6, 7, 8, 9, 10, 11, 12, 13, 14] [15, 16, 17] 15 rfl (by kernel_rfl) ?_
                  refine AQ.cons (i := 2) rfl (by kernel_rfl) (Y.move rfl rfl) (by decide) ?_
                  refine AQ.cons (i := 3) rfl (by kernel_rfl) (Y.fieldAddr fl38_0 rfl rfl) (by decide) ?_
                  refine AQ.cons (i := 4) rfl (by kernel_rfl) (Y.load sh3 rfl rfl rfl rfl) (by decide) ?_
                  refine AQ.cons (i := 5) rfl (by kernel_rfl) (Y.move rfl rfl) (by decide) ?_
                  refine AQ.cons (i := 6) rfl (by kernel_rfl) (Y.fieldAddr fl38_1 rfl rfl) (by decide) ?_
                  refine AQ.cons (i := 7) rfl (by kernel_rfl) (Y.load sh3 rfl rfl rfl rfl) (by decide) ?_
                  refine AQ.cons (i := 8) rfl (by kernel_rfl) (Y.indexO (m := ((l.getD m_12 default).a).toNat) sl42 rfl rfl (by first | omega | (simp [-List.getD_eq_getElem?_getD]; done) | (simp [-List.getD_eq_getElem?_getD]; omega)) (by first | omega | (simp [-List.getD_eq_getElem?_getD]; done) | (simp [-List.getD_eq_getElem?_getD]; omega))) (by decide) ?_
                  refine AQ.cons (i := 9) rfl (by kernel_rfl) (Y.load sh3 rfl (row_getD0 (d := 0) (by first | omega | (simp [-List.getD_eq_getElem?_getD]; done) | (simp [-List.getD_eq_getElem?_getD]; omega))) rfl rfl) (by decide) ?_
                  refine AQ.cons (i := 10) rfl (by kernel_rfl) (Y.move rfl rfl) (by decide) ?_
                  refine AQ.cons (i := 11) rfl (by kernel_rfl) (Y.fieldAddr fl38_2 rfl rfl) (by decide) ?_
                  refine AQ.cons (i := 12) rfl (by kernel_rfl) (Y.load sh3 rfl rfl rfl rfl) (by decide) ?_
                  refine AQ.cons (i := 13) rfl (by kernel_rfl) (Y.indexO (m := ((l.getD m_12 default).b).toNat) sl42 rfl rfl (by first | omega | (simp [-List.getD_eq_getElem?_getD]; done) | (simp [-List.getD_eq_getElem?_getD]; omega)) (by first | omega | (simp [-List.getD_eq_getElem?_getD]; done) | (simp [-List.getD_eq_getElem?_getD]; omega))) (by decide) ?_
                  refine AQ.cons (i := 14) rfl (by kernel_rfl) (Y.load sh3 rfl (row_getD0 (d := 0) (by first | omega | (simp [-List.getD_eq_getElem?_getD]; done) | (simp [-List.getD_eq_getElem?_getD]; omega))) rfl rfl) (by decide) ?_
                  refine AQ.nil ?_
                  refine AAny.one 15 rfl (by kernel_rfl) ?_
                  refine AOps.callO [132, 131, 130] [] ok26 (binary_spec (L := L_12) (T := T_12) (a := idx_12.getD (((l.getD m_12 default).a).toNat) 0) (b := idx_12.getD (((l.getD m_12 default).b).toNat) 0) (by omega) hf (by omega) (getD_at (d := default) (by omega)) (getD_at (d := default) (by omega))) rfl (.named rfl rfl (.keep rfl rfl (.keep rfl rfl (.keep rfl rfl .nil)))) ⟨rfl, rfl, rfl, trivial⟩ rfl (by decide) (fun _ h => by cases h) (fun _ h => by cases h) (by decide) (by decide) ?_
                  rintro r objs' hQ82 _
                  obtain ⟨L82, T82, x82, rfl, rfl, hf82, hx82, hr82⟩ := BinQ.held hf hfo.good (getD_at (by omega)) (getD_at (by omega)) hQ82
                  refine ⟨⟨rfl, fobjs_lt _ _, .inl rfl⟩, ?_⟩
                  refine AOps.nil ⟨rfl, ?_⟩
                  refine AAny.one 16 rfl (by kernel_rfl) ?_
                  refine AOps.val (Y.indexO (m := m_12) sl42 rfl rfl (by first | rfl | omega) (by first | omega | (simp [-List.getD_eq_getElem?_getD]; done) | (simp [-List.getD_eq_getElem?_getD]; omega))) (by decide) ?_
                  refine AOps.nil ⟨rfl, ?_⟩
                  refine AAny.one 17 rfl (by kernel_rfl) ?_
                  refine AOps.storeE ((idx_12.set m_12 x82).map nrow) si3 rfl rfl rfl rfl rfl rfl rfl (row_getD0 (d := 0) (by first | omega | (simp [-List.getD_eq_getElem?_getD]; done) | (simp [-List.getD_eq_getElem?_getD]; omega))) (Nat.le_of_ble_eq_true rfl) (set_map0 rfl) ?_
                  refine AOps.nil ⟨rfl, ?_⟩
                  refine AAny.done (by kernel_rfl) ?_
                  exact ⟨idx_12.set m_12 x82, T82, L82, ⟨by first | omega | (simp [-List.getD_eq_getElem?_getD]; done) | (simp [-List.getD_eq_getElem?_getD]; omega), ⟨fold_bin hfr (by omega) (by omega) (by omega) (by omega) (by omega) hr82, hf82⟩⟩, Le.mk (SubL.cons rfl (SubL.cons rfl (SubL.cons rfl (SubL.cons rfl (SubL.cons rfl (SubL.cons rfl (SubL.nil))))))) (SubL.cons rfl (SubL.cons rfl (SubL.cons rfl (SubL.cons (look_cells rfl (by first | rfl | (simp only [List.cons.injEq, X.v.injEq, X.slc.injEq, Value.int.injEq, and_true, true_and]; omega) | simp_all)) (SubL.nil)))))⟩
                · refine AWp.region ?_
                  refine AOps.val (Y.move rfl rfl) (by decide) ?_
                  refine AOps.val (Y.move rfl rfl) (by decide) ?_
                  refine AOps.val (Y.move rfl rfl) (by decide) ?_
                  refine AOps.val (Y.loadA sh38 rfl rfl (Nat.le_of_ble_eq_true rfl) rfl rfl) (by decide) ?_
                  refine AOps.callO [132, 131, 130] [] ok27 (put_spec (L := L_12) (T := T_12) (g := (l.getD m_12 default)) (by omega) hf (gwf _ (by omega))) rfl (.named rfl rfl (.keep rfl rfl .nil)) ⟨rfl, rfl, rfl, trivial⟩ rfl (by decide) (fun _ h => by cases h) (fun _ h => by cases h) (by decide) (by decide) ?_
                  rintro r objs' hQ49 _
                  obtain ⟨L49, T49, x49, rfl, rfl, hf49, hx49, hr49⟩ := PutQ.held hQ49
                  refine ⟨⟨rfl, fobjs_lt _ _, .inl rfl⟩, ?_⟩
                  refine AOps.val (Y.indexO (m := m_12) sl42 rfl rfl (by first | rfl | omega) (by first | omega | (simp [-List.getD_eq_getElem?_getD]; done) | (simp [-List.getD_eq_getElem?_getD]; omega))) (by decide) ?_
                  refine AOps.storeE ((idx_12.set m_12 x49).map nrow) si3 rfl rfl rfl rfl rfl rfl rfl (row_getD0 (d := 0) (by first | omega | (simp [-List.getD_eq_getElem?_getD]; done) | (simp [-List.getD_eq_getElem?_getD]; omega))) (Nat.le_of_ble_eq_true rfl) (set_map0 rfl) ?_
                  refine AOps.nil ?_
                  exact ⟨idx_12.set m_12 x49, T49, L49, ⟨by first | omega | (simp [-List.getD_eq_getElem?_getD]; done) | (simp [-List.getD_eq_getElem?_getD]; omega), ⟨fold_put hfr (by omega) (by omega) c51 (by omega) hr49, hf49⟩⟩, Le.mk (SubL.cons rfl (SubL.cons rfl (SubL.cons rfl (SubL.cons rfl (SubL.cons rfl (SubL.cons rfl (SubL.nil))))))) (SubL.cons rfl (SubL.cons rfl (SubL.cons rfl (SubL.cons (look_cells rfl (by first | rfl | (simp only [List.cons.injEq, X.v.injEq, X.slc.injEq, Value.int.injEq, and_true, true_and]; omega) | simp_all)) (SubL.nil)))))⟩
        · obtain ⟨hlj22_109, hJ22⟩ := hJx22
          refine AWp.region ?_
          refine AOps.val (Y.addI rfl rfl (by first | omega | (simp [-List.getD_eq_getElem?_getD]; done) | (simp [-List.getD_eq_getElem?_getD]; omega))) (by decide) ?_
          refine AOps.val (Y.move rfl rfl) (by decide) ?_
          refine AOps.nil ?_
          exact ⟨m_12 + 1, idx_j22, T_j22, L_j22, ⟨by first | omega | (simp [-List.getD_eq_getElem?_getD]; done) | (simp [-List.getD_eq_getElem?_getD]; omega), by first | omega | (simp [-List.getD_eq_getElem?_getD]; done) | (simp [-List.getD_eq_getElem?_getD]; omega), hJ22.1, hJ22.2⟩, by omega, Le.mk (SubL.cons rfl (SubL.cons rfl (SubL.cons rfl (SubL.cons rfl (SubL.cons rfl (SubL.cons (look_int rfl (by first | rfl | omega)) (SubL.nil))))))) (SubL.cons rfl (SubL.cons rfl (SubL.cons rfl (SubL.cons (look_cells rfl (by first | rfl | (simp only [List.cons.injEq, X.v.injEq, X.slc.injEq, Value.int.injEq, and_true, true_and]; omega) | simp_all)) (SubL.nil)))))⟩
      · refine AWp.exit ?_
        refine AWp.seq ?_
        have hfo := hfr.ok hgood
        have hfs := hfo.small
        have hkix : ∀ x ∈ keep, x < idx_12.length := fun x hx => by rw [hl109]; exact hkeep x hx
        have hix : ∀ x, x < idx_12.length → idx_12.getD x 0 < L_12.length := fun x h => (idx_lt hfo hl109 (by omega)).2
        refine AWp.sh (Sh.detach (d := 9) (o := 109) rfl rfl (len_map (by first | omega | (simp [-List.getD_eq_getElem?_getD]; done) | (simp [-List.getD_eq_getElem?_getD]; omega))) (by decide)) ?_
        refine AWp.sh (Sh.freezeE (d := 9) (idx_12.map nrow) rfl (by first | rfl | exact rep_map rfl) (Frees.map nrow_frees)) ?_
        refine AWp.region ?_
        refine AOps.val (Y.move rfl rfl) (by decide) ?_
        refine AOps.val (Y.move rfl rfl) (by decide) ?_
        refine AOps.val (Y.move rfl rfl) (by decide) ?_
        refine AOps.callO [132, 131, 130] [] ok28 (sweep_spec (L := L_12) (T := T_12) (idx := idx_12) (keep := keep) (by omega) (by omega) hfo.good hkix hix) rfl (.named rfl rfl (.keep rfl rfl (.keep rfl rfl .nil))) ⟨rfl, rfl, rfl, trivial⟩ rfl (by decide) (fun _ h => by cases h) (fun _ h => by cases h) (by decide) (by decide) ?_
        rintro r objs' ⟨rfl, rfl⟩ _
        refine ⟨⟨rfl, fobjs_lt _ _, .inl rfl⟩, ?_⟩
        refine AOps.extractU rfl rfl (by decide) ?_
        refine AOps.extractU rfl rfl (by decide) ?_
        refine AOps.assignX rfl (by decide) ?_
        refine AOps.assignX rfl (by decide) ?_
        refine AOps.nil ?_
        refine AWp.ret ?_
        exact ⟨_, _, rfl, rfl, L_12, idx_12, by rw [show m_12 = l.length by omega, List.take_of_length_le (by omega)] at hfr; exact hfr, rfl, rfl⟩

end Go.Proofs.Ytiehdnjcapjacaa
/- What the sweep keeps, in plain Lean. -/
namespace Go.Proofs.Ytiehdnjcapjacaa
open Go Go.AW

section
variable {L : List Gate} {u : List Bool}
/-- The gate j stays. -/
def St (L : List Gate) (u : List Bool) (j : Nat) : Prop := ¬ (u.getD j false = false ∧ (L.getD j default).kind ≠ 3)
/-- How many of the first i stay. -/
def cS (L : List Gate) (u : List Bool) (i : Nat) : Nat := (swept L u i).1.length
theorem cS_stay {i : Nat} (hi : i < L.length) (h : St L u i) : cS L u (i + 1) = cS L u i + 1 := by
  unfold cS; rw [swept_keep (getD_at (d := default) hi) h]; simp
theorem cS_skip {i : Nat} (hi : i < L.length) (h : ¬ St L u i) : cS L u (i + 1) = cS L u i := by
  unfold cS; rw [swept_skip (getD_at (d := default) hi) (Classical.not_not.1 h)]
theorem cS_mono {i : Nat} : ∀ {k : Nat}, i ≤ k → k ≤ L.length → cS L u i ≤ cS L u k
  | 0, h, _ => by rw [show i = 0 by omega]; exact Nat.le_refl _
  | k + 1, h, hk => by
    rcases Nat.lt_or_ge i (k + 1) with h1 | h1
    · have := cS_mono (i := i) (k := k) (by omega) (by omega)
      by_cases hs : St L u k
      · rw [cS_stay (by omega) hs]; omega
      · rw [cS_skip (by omega) hs]; exact this
    · rw [show i = k + 1 by omega]; exact Nat.le_refl _
theorem cS_lt {i k : Nat} (h : i < k) (hk : k ≤ L.length) (hs : St L u i) : cS L u i < cS L u k := by
  have h1 := cS_stay (by omega) hs
  have h2 := cS_mono (L := L) (u := u) (i := i + 1) (k := k) (by omega) hk
  omega
theorem cS_inj {i k : Nat} (hi : i < L.length) (hk : k < L.length) (hs : St L u i) (hs' : St L u k) (h : cS L u i = cS L u k) : i = k := by
  rcases Nat.lt_trichotomy i k with h1 | h1 | h1
  · have := cS_lt h1 (by omega) hs; omega
  · exact h1
  · have := cS_lt h1 (by omega) hs'; omega
/-- The new number of a gate that stays. -/
theorem sw_num {i j : Nat} (hj : j < i) (hi : i ≤ L.length) (hs : St L u j) : (swept L u i).2.getD j 0 = cS L u j :=
  getD_of (swept_at (getD_at (d := default) (by omega)) hs hj hi).1
/-- A gate with new numbers. -/
def rn (L : List Gate) (u : List Bool) (j : Nat) : Gate :=
  ⟨(L.getD j default).kind, if 0 < operands (L.getD j default).kind then ((cS L u (L.getD j default).a.toNat : Nat) : Int) else (L.getD j default).a,
    if 1 < operands (L.getD j default).kind then ((cS L u (L.getD j default).b.toNat : Nat) : Int) else (L.getD j default).b⟩
/-- What stays is closed under arguments. -/
def Closed (L : List Gate) (u : List Bool) : Prop := ∀ j, j < L.length → St L u j → (0 < operands (L.getD j default).kind → St L u (L.getD j default).a.toNat) ∧ (1 < operands (L.getD j default).kind → St L u (L.getD j default).b.toNat)
theorem sw_get (hL : Good L) (hc : Closed L u) {j : Nat} (hj : j < L.length) (hs : St L u j) : (swept L u L.length).1.getD (cS L u j) default = rn L u j := by
  have h1 := (swept_at (getD_at (d := default) hj) hs hj (Nat.le_refl _)).2
  rw [show (swept L u j).1.length = cS L u j from rfl] at h1
  rw [getD_of h1]
  have hok := good_at hL hj
  simp only [okGate, okArg] at hok
  unfold renum rn
  congr 1
  · split
    · rename_i h
      rw [sw_num (by omega) (by omega) ((hc j hj hs).1 h)]
    · rfl
  · split
    · rename_i h
      rw [sw_num (by omega) (by omega) ((hc j hj hs).2 h)]
    · rfl
theorem sw_inv : ∀ {i x : Nat}, i ≤ L.length → x < cS L u i → ∃ j, j < i ∧ St L u j ∧ cS L u j = x
  | 0, x, _, h => by simp [cS, swept] at h
  | i + 1, x, hi, h => by
    by_cases hs : St L u i
    · rw [cS_stay (by omega) hs] at h
      rcases Nat.lt_or_ge x (cS L u i) with h1 | h1
      · obtain ⟨j, hj, h2⟩ := sw_inv (i := i) (by omega) h1
        exact ⟨j, by omega, h2⟩
      · exact ⟨i, by omega, hs, by omega⟩
    · rw [cS_skip (by omega) hs] at h
      obtain ⟨j, hj, h2⟩ := sw_inv (i := i) (by omega) h
      exact ⟨j, by omega, h2⟩
theorem sw_len : (swept L u L.length).1.length = cS L u L.length := rfl
theorem sw_nin : ∀ {i : Nat}, i ≤ L.length → nin (swept L u i).1 = nin (L.take i)
  | 0, _ => rfl
  | i + 1, hi => by
    have hg := getD_at (d := (default : Gate)) (show i < L.length by omega)
    have ih := sw_nin (i := i) (by omega)
    rw [nin_succ hg]
    by_cases hs : St L u i
    · rw [swept_keep hg hs, nin_app, nin_one, ih]; rfl
    · have h2 := Classical.not_not.1 hs
      rw [swept_skip hg h2, ih, if_neg h2.2]; rfl
theorem sw_prefix {j : Nat} : ∀ {i : Nat}, j ≤ i → i ≤ L.length → (swept L u i).1.take (cS L u j) = (swept L u j).1
  | 0, h, _ => by rw [show j = 0 by omega]; exact List.take_of_length_le (Nat.le_refl _)
  | i + 1, h, hi => by
    rcases Nat.lt_or_ge j (i + 1) with h1 | h1
    · have ih := sw_prefix (j := j) (i := i) (by omega) (by omega)
      have hg := getD_at (d := (default : Gate)) (show i < L.length by omega)
      by_cases hs : St L u i
      · rw [swept_keep hg hs, List.take_append_of_le_length (cS_mono (by omega) (by omega))]; exact ih
      · rw [swept_skip hg (Classical.not_not.1 hs)]; exact ih
    · rw [show j = i + 1 by omega]; exact List.take_of_length_le (Nat.le_refl _)
theorem sw_good (hL : Good L) (hc : Closed L u) : Good (swept L u L.length).1 := by
  intro x g hg
  obtain ⟨j, hj, hs, rfl⟩ := sw_inv (Nat.le_refl _) (List.getElem?_eq_some_iff.1 hg).1
  have h1 := sw_get hL hc hj hs
  rw [getD_of hg] at h1
  subst h1
  have hok := good_at hL hj
  simp only [okGate, okArg] at hok ⊢
  simp only [rn]
  refine ⟨hok.1, ⟨fun h => ?_, fun h => ?_⟩, ⟨fun h => ?_, fun h => ?_⟩⟩
  · rw [if_pos h]
    have := cS_lt (L := L) (u := u) (i := (L.getD j default).a.toNat) (k := j) (by omega) (by omega) ((hc j hj hs).1 h)
    omega
  · rw [if_neg h]; exact hok.2.1.2 h
  · rw [if_pos h]
    have := cS_lt (L := L) (u := u) (i := (L.getD j default).b.toNat) (k := j) (by omega) (by omega) ((hc j hj hs).2 h)
    omega
  · rw [if_neg h]; exact hok.2.2.2 h
theorem sw_val (hL : Good L) (hc : Closed L u) (ins : List Bool) : ∀ (n j : Nat), j < n → j < L.length → St L u j → vAt (swept L u L.length).1 ins (cS L u j) = vAt L ins j
  | 0, _, h, _, _ => by omega
  | n + 1, j, hn, hj, hs => by
    have hok := good_at hL hj
    simp only [okGate, okArg] at hok
    have hlt : cS L u j < (swept L u L.length).1.length := cS_lt hj (Nat.le_refl _) hs
    have hg := getD_at (d := (default : Gate)) hlt
    rw [sw_get hL hc hj hs] at hg
    rw [vAt_eq (sw_good hL hc) hg, vAt_eq hL (getD_at (d := default) hj)]
    have hnin : nin ((swept L u L.length).1.take (cS L u j)) = nin (L.take j) := by rw [sw_prefix (by omega) (Nat.le_refl _), sw_nin (by omega)]
    have ha : 0 < operands (L.getD j default).kind → vAt (swept L u L.length).1 ins (rn L u j).a.toNat = vAt L ins (L.getD j default).a.toNat := fun h => by
      simp only [rn]; rw [if_pos h, Int.toNat_natCast]
      exact sw_val hL hc ins n _ (by omega) (by omega) ((hc j hj hs).1 h)
    have hb : 1 < operands (L.getD j default).kind → vAt (swept L u L.length).1 ins (rn L u j).b.toNat = vAt L ins (L.getD j default).b.toNat := fun h => by
      simp only [rn]; rw [if_pos h, Int.toNat_natCast]
      exact sw_val hL hc ins n _ (by omega) (by omega) ((hc j hj hs).2 h)
    rw [hnin, show (rn L u j).kind = (L.getD j default).kind from rfl]
    by_cases h4 : (L.getD j default).kind = 4
    · rw [ha (by simp only [operands]; omega), if_pos h4, if_pos h4]
    · by_cases h5 : (L.getD j default).kind = 5 ∨ (L.getD j default).kind = 6 ∨ (L.getD j default).kind = 7
      · have h2 : operands (L.getD j default).kind = 2 := by simp only [operands]; omega
        rw [ha (by omega), hb (by omega)]
      · simp only [not_or] at h5
        rw [if_neg h4, if_neg h5.1, if_neg h5.2.1, if_neg h5.2.2, if_neg h4, if_neg h5.1, if_neg h5.2.1, if_neg h5.2.2]
theorem sw_time (hL : Good L) (hc : Closed L u) {ins : List Int} (hz : Zeros ins) : ∀ (n j : Nat), j < n → j < L.length → St L u j → tAt (swept L u L.length).1 ins (cS L u j) = tAt L ins j
  | 0, _, h, _, _ => by omega
  | n + 1, j, hn, hj, hs => by
    have hok := good_at hL hj
    simp only [okGate, okArg] at hok
    have hlt : cS L u j < (swept L u L.length).1.length := cS_lt hj (Nat.le_refl _) hs
    have hg := getD_at (d := (default : Gate)) hlt
    rw [sw_get hL hc hj hs] at hg
    rw [tAt_gt hz (sw_good hL hc) hg, tAt_gt hz hL (getD_at (d := default) hj)]
    have ha : 0 < operands (L.getD j default).kind → tAt (swept L u L.length).1 ins (rn L u j).a.toNat = tAt L ins (L.getD j default).a.toNat := fun h => by
      simp only [rn]; rw [if_pos h, Int.toNat_natCast]
      exact sw_time hL hc hz n _ (by omega) (by omega) ((hc j hj hs).1 h)
    have hb : 1 < operands (L.getD j default).kind → tAt (swept L u L.length).1 ins (rn L u j).b.toNat = tAt L ins (L.getD j default).b.toNat := fun h => by
      simp only [rn]; rw [if_pos h, Int.toNat_natCast]
      exact sw_time hL hc hz n _ (by omega) (by omega) ((hc j hj hs).2 h)
    unfold gt
    rw [show (rn L u j).kind = (L.getD j default).kind from rfl]
    by_cases h4 : (L.getD j default).kind = 4
    · rw [if_pos h4, if_pos h4, ha (by simp only [operands]; omega)]
    · by_cases h5 : (L.getD j default).kind = 5 ∨ (L.getD j default).kind = 6 ∨ (L.getD j default).kind = 7
      · have h2 : operands (L.getD j default).kind = 2 := by simp only [operands]; omega
        rw [if_neg h4, if_neg h4, if_pos h5, if_pos h5, ha (by omega), hb (by omega)]
      · rw [if_neg h4, if_neg h4, if_neg h5, if_neg h5]
theorem op_of4 {k : Int} (hk : k ≤ 7) (h : 4 ≤ k) : 0 < operands k := by simp only [operands]; omega
theorem op_of5 {k : Int} (hk : k ≤ 7) (h : 5 ≤ k) : 1 < operands k := by simp only [operands]; omega
theorem op4_of {k : Int} (h : 0 < operands k) : 4 ≤ k := by simp only [operands] at h; omega
theorem op5_of {k : Int} (h : 1 < operands k) : 5 ≤ k := by simp only [operands] at h; omega
theorem sw_clean (hL : Good L) (hc : Closed L u) (hcl : Clean L) : Clean (swept L u L.length).1 := by
  refine ⟨fun x g hg => ?_, fun x y g hx hy h3 => ?_⟩
  · obtain ⟨j, hj, hs, rfl⟩ := sw_inv (Nat.le_refl _) (List.getElem?_eq_some_iff.1 hg).1
    have h1 := sw_get hL hc hj hs
    rw [getD_of hg] at h1
    subst h1
    have hok := good_at hL hj
    simp only [okGate, okArg] at hok
    obtain ⟨hca, hcb⟩ := clean_at hcl hj
    refine ⟨fun h4 => ?_, fun h5 => ?_⟩
    · have h4' : 4 ≤ (L.getD j default).kind := h4
      have ho := op_of4 (by omega) h4'
      have hsa := (hc j hj hs).1 ho
      have hlt : cS L u (L.getD j default).a.toNat < (swept L u L.length).1.length := cS_lt (by omega) (Nat.le_refl _) hsa
      refine ⟨rn L u (L.getD j default).a.toNat, ?_, (hca h4').1, fun hk => (hca h4').2 hk⟩
      simp only [rn]; rw [if_pos ho, Int.toNat_natCast, getD_at (d := default) hlt, sw_get hL hc (by omega) hsa]
      rfl
    · have h5' : 5 ≤ (L.getD j default).kind := h5
      have ho := op_of5 (by omega) h5'
      have hsb := (hc j hj hs).2 ho
      have hsa := (hc j hj hs).1 (by omega)
      have hlt : cS L u (L.getD j default).b.toNat < (swept L u L.length).1.length := cS_lt (by omega) (Nat.le_refl _) hsb
      refine ⟨rn L u (L.getD j default).b.toNat, ?_, (hcb h5').1, ?_⟩
      · simp only [rn]; rw [if_pos ho, Int.toNat_natCast, getD_at (d := default) hlt, sw_get hL hc (by omega) hsb]
        rfl
      · simp only [rn]; rw [if_pos ho, if_pos (by omega)]
        have := (hcb h5').2
        have := cS_lt (L := L) (u := u) (i := (L.getD j default).a.toNat) (k := (L.getD j default).b.toNat) (by omega) (by omega) hsa
        omega
  · obtain ⟨j, hj, hs, rfl⟩ := sw_inv (Nat.le_refl _) (List.getElem?_eq_some_iff.1 hx).1
    obtain ⟨k, hk, hs', rfl⟩ := sw_inv (Nat.le_refl _) (List.getElem?_eq_some_iff.1 hy).1
    have h1 := sw_get hL hc hj hs
    have h2 := sw_get hL hc hk hs'
    rw [getD_of hx] at h1
    rw [getD_of hy] at h2
    subst h1
    have hj0 := good_at hL hj
    have hk0 := good_at hL hk
    simp only [okGate, okArg] at hj0 hk0
    have hkind : (L.getD j default).kind = (L.getD k default).kind := by
      have h3 : (rn L u j).kind = (rn L u k).kind := by rw [h2]
      exact h3
    have ha : (L.getD j default).a = (L.getD k default).a := by
      have h3 := congrArg Gate.a h2
      simp only [rn] at h3
      by_cases ho : 0 < operands (L.getD j default).kind
      · rw [if_pos ho, if_pos (by rw [← hkind]; exact ho)] at h3
        have ho' : 0 < operands (L.getD k default).kind := by rw [← hkind]; exact ho
        have := cS_inj (by omega) (by omega) ((hc j hj hs).1 ho) ((hc k hk hs').1 ho') (by omega)
        omega
      · rw [hj0.2.1.2 ho, hk0.2.1.2 (by rw [← hkind]; exact ho)]
    have hb : (L.getD j default).b = (L.getD k default).b := by
      have h3 := congrArg Gate.b h2
      simp only [rn] at h3
      by_cases ho : 1 < operands (L.getD j default).kind
      · rw [if_pos ho, if_pos (by rw [← hkind]; exact ho)] at h3
        have ho' : 1 < operands (L.getD k default).kind := by rw [← hkind]; exact ho
        have := cS_inj (by omega) (by omega) ((hc j hj hs).2 ho) ((hc k hk hs').2 ho') (by omega)
        omega
      · rw [hj0.2.2.2 ho, hk0.2.2.2 (by rw [← hkind]; exact ho)]
    have hjk : j = k := by
      refine hcl.one j k (L.getD j default) (getD_at hj) ?_ h3
      rw [getD_at (d := default) hk]
      cases hq : L.getD j default
      cases hr : L.getD k default
      simp only [hq, hr] at hkind ha hb
      rw [hkind, ha, hb]
    rw [hjk]
end
end Go.Proofs.Ytiehdnjcapjacaa
/- Folding, all together, in plain Lean. -/
namespace Go.Proofs.Ytiehdnjcapjacaa
open Go Go.AW

section
variable {L : List Gate} {idx keep : List Nat}
theorem mark0_why {N j : Nat} : ∀ {i : Nat}, (mark0 N idx keep i).getD j false = true → ∃ n, n < keep.length ∧ idx.getD (keep.getD n 0) 0 = j
  | 0, h => by
    rw [mark0, List.getD_eq_getElem?_getD, List.getElem?_replicate] at h
    split at h <;> cases h
  | i + 1, h => by
    rw [mark0] at h
    split at h
    · rename_i k hk
      rw [lset_eq] at h
      split at h
      · rename_i h1
        exact ⟨i, (List.getElem?_eq_some_iff.1 hk).1, by rw [getD_of hk]; exact h1.1⟩
      · exact mark0_why h
    · exact mark0_why h
theorem mark0_has {N n : Nat} (hn : n < keep.length) (hx : idx.getD (keep.getD n 0) 0 < N) : ∀ {i : Nat}, n < i → i ≤ keep.length → (mark0 N idx keep i).getD (idx.getD (keep.getD n 0) 0) false = true
  | 0, h, _ => by omega
  | i + 1, h, hi => by
    rw [← mark0_succ (by omega)]
    rcases Nat.lt_or_ge n i with h1 | h1
    · exact set_get (mark0_has hn hx h1 (by omega))
    · obtain rfl : n = i := by omega
      exact set_self (by rw [mark0_length]; exact hx)
theorem markOne_why {u : List Bool} {i j : Nat} (h : (markOne L u i).getD j false = true) : u.getD j false = true ∨ (i < L.length ∧ u.getD i false = true ∧
    ((0 < operands (L.getD i default).kind ∧ (L.getD i default).a.toNat = j) ∨ (1 < operands (L.getD i default).kind ∧ (L.getD i default).b.toNat = j))) := by
  unfold markOne at h
  split at h
  · rename_i g hg
    have hgd := getD_of (d := default) hg
    split at h
    · rename_i hu
      dsimp only at h
      have hi := (List.getElem?_eq_some_iff.1 hg).1
      rw [hgd]
      have one : ∀ {v : List Bool} {x : Nat}, (v.set x true).getD j false = true → x = j ∨ v.getD j false = true := by
        intro v x hv
        rw [lset_eq] at hv
        split at hv
        · rename_i h3; exact .inl h3.1
        · exact .inr hv
      by_cases h1 : 1 < operands g.kind
      · rw [if_pos h1, if_pos (by omega)] at h
        rcases one h with h2 | h2
        · exact .inr ⟨hi, hu, .inr ⟨h1, h2⟩⟩
        · rcases one h2 with h3 | h3
          · exact .inr ⟨hi, hu, .inl ⟨by omega, h3⟩⟩
          · exact .inl h3
      · rw [if_neg h1] at h
        by_cases h0 : 0 < operands g.kind
        · rw [if_pos h0] at h
          rcases one h with h3 | h3
          · exact .inr ⟨hi, hu, .inl ⟨h0, h3⟩⟩
          · exact .inl h3
        · rw [if_neg h0] at h
          exact .inl h
    · exact .inl h
  · exact .inl h
theorem mark1_why {j : Nat} : ∀ (i : Nat) (u : List Bool), (mark1 L u i).getD j false = true → u.getD j false = true ∨ ∃ k, k < L.length ∧ (mark1 L u i).getD k false = true ∧
    ((0 < operands (L.getD k default).kind ∧ (L.getD k default).a.toNat = j) ∨ (1 < operands (L.getD k default).kind ∧ (L.getD k default).b.toNat = j))
  | 0, _, h => .inl h
  | i + 1, u, h => by
    rw [mark1] at h
    rcases mark1_why i _ h with h1 | ⟨k, hk, h2, h3⟩
    · rcases markOne_why h1 with h1 | ⟨hi, hu, h2⟩
      · exact .inl h1
      · exact .inr ⟨i, hi, by rw [mark1]; exact mark1_get i _ (markOne_get hu), h2⟩
    · exact .inr ⟨k, hk, by rw [mark1]; exact h2, h3⟩
theorem swUsed_closed (hL : Good L) : Closed L (swUsed L idx keep) := by
  intro j hj hs
  by_cases hu : (swUsed L idx keep).getD j false = true
  · have h := mark1_closed hL L.length (mark0 L.length idx keep keep.length) (mark0_length _) j _ hj (getD_at (d := default) hj) hu
    refine ⟨fun h0 => ?_, fun h0 => ?_⟩
    · intro hn
      have h1 := hn.1
      unfold swUsed at h1
      rw [h.1 h0] at h1
      cases h1
    · intro hn
      have h1 := hn.1
      unfold swUsed at h1
      rw [h.2 h0] at h1
      cases h1
  · have h3 : (L.getD j default).kind = 3 := Classical.byContradiction fun h => hs ⟨by simpa using hu, h⟩
    rw [h3]
    exact ⟨fun h => by simp [operands] at h, fun h => by simp [operands] at h⟩
theorem kept_used (hk : ∀ x ∈ keep, x < idx.length) (hi : ∀ x, x < idx.length → idx.getD x 0 < L.length) {n : Nat} (hn : n < keep.length) : (swUsed L idx keep).getD (idx.getD (keep.getD n 0) 0) false = true :=
  mark1_get _ _ (mark0_has hn (hi _ (hk _ (mem_getD hn))) hn (Nat.le_refl _))
theorem kept_at (hk : ∀ x ∈ keep, x < idx.length) (hi : ∀ x, x < idx.length → idx.getD x 0 < L.length) {n : Nat} (hn : n < keep.length) :
    St L (swUsed L idx keep) (idx.getD (keep.getD n 0) 0) ∧ (swKept L idx keep).getD n 0 = cS L (swUsed L idx keep) (idx.getD (keep.getD n 0) 0) := by
  have hu := kept_used hk hi hn
  have hs : St L (swUsed L idx keep) (idx.getD (keep.getD n 0) 0) := fun h => by rw [hu] at h; cases h.1
  refine ⟨hs, ?_⟩
  unfold swKept
  rw [getD_map (d := 0) hn, sw_num (hi _ (hk _ (mem_getD hn))) (Nat.le_refl _) hs]
theorem swKept_len : (swKept L idx keep).length = keep.length := by unfold swKept; rw [List.length_map]
theorem sw_allUsed (hL : Good L) (hk : ∀ x ∈ keep, x < idx.length) (hi : ∀ x, x < idx.length → idx.getD x 0 < L.length) : AllUsed (swOut L idx keep) (swKept L idx keep) := by
  have hc := swUsed_closed (idx := idx) (keep := keep) hL
  intro x hx
  obtain ⟨j, hj, hs, rfl⟩ := sw_inv (Nat.le_refl _) hx
  have hget := sw_get hL hc hj hs
  have hok := good_at hL hj
  unfold swOut
  rw [hget]
  by_cases h3 : (L.getD j default).kind = 3
  · exact .inl h3
  · right
    have hu : (swUsed L idx keep).getD j false = true := Classical.byContradiction fun h => hs ⟨by simpa using h, h3⟩
    rcases mark1_why L.length _ hu with h0 | ⟨k, hkl, huk, harg⟩
    · left
      obtain ⟨n, hn, rfl⟩ := mark0_why h0
      rw [← (kept_at hk hi hn).2]
      exact mem_getD (by rw [swKept_len]; exact hn)
    · right
      have hsk : St L (swUsed L idx keep) k := fun h => by have h1 := h.1; unfold swUsed at h1; rw [huk] at h1; cases h1
      have hokk := good_at hL hkl
      simp only [okGate, okArg] at hokk
      refine ⟨cS L (swUsed L idx keep) k, cS_lt hkl (Nat.le_refl _) hsk, ?_⟩
      rw [sw_get hL hc hkl hsk]
      rcases harg with ⟨ho, rfl⟩ | ⟨ho, rfl⟩
      · exact .inl ⟨op4_of ho, by simp only [rn]; rw [if_pos ho, Int.toNat_natCast]⟩
      · exact .inr ⟨op5_of ho, by simp only [rn]; rw [if_pos ho, Int.toNat_natCast]⟩
end

/-- What folding gives. -/
structure Folding (l : List Gate) (keep : List Nat) (m : List Gate) (kept : List Nat) : Prop where
  good : Good m
  len : kept.length = keep.length
  nin : nin m = Go.Proofs.Ytiehdnjcapjacaa.nin l
  lt : ∀ x ∈ kept, x < m.length
  val : ∀ (ins : List Bool) (i : Nat), i < keep.length → vAt m ins (kept.getD i 0) = vAt l ins (keep.getD i 0)
  clean : Clean m
  used : AllUsed m kept
  time : ∀ (ins : List Int), Zeros ins → Small 65535 ins → ∀ i : Nat, i < keep.length → tAt m ins (kept.getD i 0) ≤ tAt l ins (keep.getD i 0)
  small : m.length ≤ l.length
theorem folding {l L : List Gate} {idx keep : List Nat} (hl : Good l) (hr : FoldRel l l.length L idx) (hkeep : ∀ x ∈ keep, x < l.length) : Folding l keep (swOut L idx keep) (swKept L idx keep) := by
  have hok := hr.ok hl
  have hkx : ∀ x ∈ keep, x < idx.length := fun x hx => by rw [hok.len]; exact hkeep x hx
  have hix : ∀ x, x < idx.length → idx.getD x 0 < L.length := fun x hx => hok.lt _ (mem_getD hx)
  have hc := swUsed_closed (idx := idx) (keep := keep) hok.good
  refine ⟨sw_good hok.good hc, swKept_len, ?_, ?_, ?_, sw_clean hok.good hc (hr.clean hl), sw_allUsed hok.good hkx hix, ?_, ?_⟩
  · have h1 := (hr.val (ins := []) hl).nin
    rw [List.take_length] at h1
    rw [← h1]
    have h2 := sw_nin (L := L) (u := swUsed L idx keep) (Nat.le_refl _)
    rw [List.take_length] at h2
    exact h2
  · intro x hx
    obtain ⟨n, hn, rfl⟩ := mem_exists_getD hx 0
    rw [swKept_len] at hn
    obtain ⟨h1, h2⟩ := kept_at hkx hix hn
    rw [h2]
    exact cS_lt (hix _ (hkx _ (mem_getD hn))) (Nat.le_refl _) h1
  · intro ins i hi
    obtain ⟨h1, h2⟩ := kept_at hkx hix hi
    have hxl := hix _ (hkx _ (mem_getD (d := 0) hi))
    rw [h2, swOut, sw_val hok.good hc ins _ _ (Nat.lt_succ_self _) hxl h1]
    exact (hr.val (ins := ins) hl).val _ _ (getD_at (hkx _ (mem_getD hi)))
  · intro ins hz hsm i hi
    obtain ⟨h1, h2⟩ := kept_at hkx hix hi
    have hxl := hix _ (hkx _ (mem_getD (d := 0) hi))
    rw [h2, swOut, sw_time hok.good hc hz _ _ (Nat.lt_succ_self _) hxl h1]
    exact hr.time hz hsm hl _ _ (getD_at (hkx _ (mem_getD hi)))
  · have h1 := swept_out_le (L := L) (u := swUsed L idx keep) (Nat.le_refl L.length)
    have h2 := hok.small
    unfold swOut
    omega
/-- Folding what is folded changes nothing. -/
theorem fold_same {m : List Gate} (hm : Good m) (hc : Clean m) : ∀ {i : Nat} {L : List Gate} {idx : List Nat}, FoldRel m i L idx → L = m.take i ∧ idx = List.range i := by
  intro i L idx h
  induction h with
  | zero => exact ⟨rfl, rfl⟩
  | step hr hg hs ih =>
    rename_i i L idx g L' x
    obtain ⟨rfl, rfl⟩ := ih
    have hil := (List.getElem?_eq_some_iff.1 hg).1
    have hok := hm i g hg
    simp only [okGate, okArg, operands] at hok
    have hcg := hc.arg i g hg
    have hlen : (m.take i).length = i := by rw [List.length_take]; omega
    have hnot : g.kind ≠ 3 → g ∉ m.take i := by
      intro h3 hmem
      obtain ⟨j, hj⟩ := List.getElem?_of_mem hmem
      have hji := (List.getElem?_eq_some_iff.1 hj).1
      rw [List.getElem?_take_of_lt (by omega)] at hj
      have := hc.one i j g hg hj h3
      omega
    have hput : ∀ q : Gate, q = g → PutRel (m.take i) q L' x → (q.kind = 5 ∨ q.kind = 6 ∨ q.kind = 7 → q.a < q.b) → L' = m.take (i + 1) ∧ List.range i ++ [x] = List.range (i + 1) := by
      intro q hq hp hab
      subst hq
      have hsw : swp q = q := by
        unfold swp
        rw [if_neg]
        simp only [operands]
        intro h
        have := hab (by omega)
        omega
      obtain ⟨h1, h2⟩ := hp
      rw [hsw] at h1 h2
      rcases h2 with ⟨rfl, h3⟩ | ⟨rfl, rfl, _⟩
      · exact absurd (List.mem_of_getElem? h1) (hnot h3)
      · rw [List.take_add_one, hg, List.range_succ, hlen]
        exact ⟨rfl, rfl⟩
    have hrg : ∀ a : Nat, a < i → (List.range i).getD a 0 = a := fun a ha => by
      rw [List.getD_eq_getElem?_getD, List.getElem?_range ha]; rfl
    have hat : ∀ {a : Nat} {h : Gate}, a < i → m[a]? = some h → ∀ h', (m.take i)[a]? = some h' → h' = h := by
      intro a h ha h1 h' h2
      rw [List.getElem?_take_of_lt ha, h1] at h2
      cases h2; rfl
    unfold StepRel at hs
    split at hs
    · rename_i h4
      rw [hrg _ (by omega)] at hs
      obtain ⟨h, hh, hcase⟩ := hs
      obtain ⟨h0, hh0, hk3, hk4⟩ := hcg.1 (by omega)
      have := hat (by omega) hh0 h hh
      subst this
      have hk4' := hk4 h4
      rcases hcase with ⟨h1, _⟩ | ⟨h1, _⟩ | ⟨h1, _⟩ | ⟨_, hp⟩
      · omega
      · omega
      · exact absurd h1 hk4'
      · refine hput _ ?_ hp (fun h => by simp only at h; omega)
        cases g with | mk k a b =>
        simp only at h4 hok ⊢
        have hb0 : b = 0 := by omega
        have ha0 : ((a.toNat : Nat) : Int) = a := by omega
        rw [h4, hb0, ha0]
    · split at hs
      · rename_i h4 h5
        rw [hrg _ (by omega), hrg _ (by omega)] at hs
        obtain ⟨ga, gb, ha, hb, hcase⟩ := hs
        obtain ⟨a0, ha0, hka, _⟩ := hcg.1 (by omega)
        obtain ⟨b0, hb0, hkb, hlt⟩ := hcg.2 (by omega)
        have e1 := hat (by omega) ha0 ga ha
        have e2 := hat (by omega) hb0 gb hb
        subst e1 e2
        rcases hcase with ⟨h1, _⟩ | ⟨h1, _⟩ | ⟨_, h1 | ⟨_, h1⟩ | ⟨_, hp⟩⟩
        · omega
        · omega
        · rcases h1 with ⟨h1, _⟩ | ⟨h1, _⟩ | ⟨h1, _⟩ <;> omega
        · rcases h1 with ⟨h1, _⟩ | ⟨h1, _⟩ | ⟨h1, _⟩ <;> omega
        · refine hput _ ?_ hp (fun _ => by simp only; omega)
          cases g with | mk k a b =>
          simp only at hok h4 h5 ⊢
          have ha1 : ((a.toNat : Nat) : Int) = a := by omega
          have hb1 : ((b.toNat : Nat) : Int) = b := by omega
          rw [ha1, hb1]
      · rename_i h4 h5
        exact hput g rfl hs (fun h => absurd h h5)
theorem cS_all {L : List Gate} {u : List Bool} (h : ∀ j, j < L.length → St L u j) : ∀ {i : Nat}, i ≤ L.length → cS L u i = i
  | 0, _ => rfl
  | i + 1, hi => by rw [cS_stay (by omega) (h i (by omega)), cS_all h (by omega)]
theorem sweep_all {m : List Gate} {keep : List Nat} (hm : Good m) (hu : AllUsed m keep) (hk : ∀ x ∈ keep, x < m.length) : (swOut m (List.range m.length) keep).length = m.length := by
  have hrg : ∀ a : Nat, a < m.length → (List.range m.length).getD a 0 = a := fun a ha => by
    rw [List.getD_eq_getElem?_getD, List.getElem?_range ha]; rfl
  have hc := swUsed_closed (idx := List.range m.length) (keep := keep) hm
  have hall : ∀ d j, m.length - j = d → j < m.length → (m.getD j default).kind ≠ 3 → (swUsed m (List.range m.length) keep).getD j false = true := by
    intro d
    induction d using Nat.strongRecOn with
    | _ d ih =>
      intro j hd hj h3
      rcases hu j hj with h | h | ⟨k, hkl, harg⟩
      · exact absurd h h3
      · obtain ⟨n, hn, rfl⟩ := mem_exists_getD h 0
        have := kept_used (L := m) (idx := List.range m.length) (keep := keep) (fun x hx => by rw [List.length_range]; exact hk x hx) (fun x hx => by rw [List.length_range] at hx; rw [hrg x hx]; exact hx) hn
        rw [hrg _ hj] at this
        exact this
      · have hokk := good_at hm hkl
        simp only [okGate, okArg] at hokk
        have hkk : (m.getD k default).kind ≠ 3 ∧ j < k := by
          rcases harg with ⟨h4, rfl⟩ | ⟨h5, rfl⟩
          · exact ⟨by omega, by have := hokk.2.1.1 (op_of4 (by omega) h4); omega⟩
          · exact ⟨by omega, by have := hokk.2.2.1 (op_of5 (by omega) h5); omega⟩
        have huk := ih (m.length - k) (by omega) k rfl hkl hkk.1
        have hcl := mark1_closed hm m.length (mark0 m.length (List.range m.length) keep keep.length) (mark0_length _) k _ hkl (getD_at (d := default) hkl) huk
        rcases harg with ⟨h4, rfl⟩ | ⟨h5, rfl⟩
        · exact hcl.1 (op_of4 (by omega) h4)
        · exact hcl.2 (op_of5 (by omega) h5)
  have hst : ∀ j, j < m.length → St m (swUsed m (List.range m.length) keep) j := by
    intro j hj hn
    have := hall _ j rfl hj hn.2
    rw [this] at hn
    cases hn.1
  exact cS_all hst (Nat.le_refl _)
theorem fold_twice {m L : List Gate} {idx keep : List Nat} (hm : Good m) (hc : Clean m) (hu : AllUsed m keep) (hk : ∀ x ∈ keep, x < m.length) (hr : FoldRel m m.length L idx) :
    (swOut L idx keep).length = m.length ∧ (swKept L idx keep).length = keep.length := by
  obtain ⟨h1, rfl⟩ := fold_same hm hc hr
  rw [List.take_length] at h1
  subst h1
  exact ⟨sweep_all hm hu hk, swKept_len⟩
end Go.Proofs.Ytiehdnjcapjacaa
/- The walks through the functions that make gates of parts, and inputs. -/
namespace Go.Proofs.Ytiehdnjcapjacaa
open Go Go.AW Go.Proofs



set_option maxHeartbeats 1000000 in
theorem made_spec {ps : List Part} (hl : ps.length ≤ 1048576) (hok : partsOk ps) : ACalls Try.prog 16 [.fz 3 (ps.map Part.row)] [] [] (fun r o => r = .uni 3 ((made ps ps.length).map Gate.row) ∧ o = []) := by
  refine ACalls.of Try.func16 rfl rfl rfl (n := 62) (by decide) (Nat.le_of_ble_eq_true rfl) ?_
  refine AWp.seq ?_
  refine AWp.region ?_
  refine AOps.val (Y.assign rfl rfl) (by decide) ?_
  refine AOps.nil ?_
  refine AWp.seq ?_
  refine AWp.region ?_
  refine AOps.val (Y.build pl38 ze38 rfl rfl rfl) (by decide) ?_
  refine AOps.buildSlice (([⟨3, 0, 0⟩] : List Gate).map Gate.row) sl22 ze38 rfl rfl rfl rfl rfl (by intro r hr; simp at hr; (first | subst hr | (rcases hr with rfl | rfl)) <;> rfl) rfl rfl rfl (by decide) ?_
  first | refine AOps.val (Y.assign rfl rfl) (by decide) ?_ | refine AOps.assignU rfl (by decide) ?_
  refine AOps.nil ?_
  refine AWp.seq ?_
  refine AWp.seq ?_
  refine AWp.sh (Sh.adoptN (d := 3) (n := 1) 103 rfl rfl (by decide)) ?_
  refine AWp.region ?_
  refine AOps.val (Y.assign rfl rfl) (by decide) ?_
  refine AOps.nil ?_
  refine AWp.block ?_
  refine AWp.loop (fun (ix : Nat) => ⟨[(4, .v (.int .i64 ((ix : Int)))), (0, .fz 3 (ps.map Part.row)), (3, .slc 103 3 0 (ix + 1))], [(103, .rows 3 ((made ps ix).map Gate.row))]⟩) (fun ix => ix ≤ ps.length) (fun ix => ps.length - ix) (0) (by omega) (Le.mk (by repeat (first | exact SubL.nil | refine SubL.cons rfl ?_)) (by repeat (first | exact SubL.nil | refine SubL.cons rfl ?_))) (fun ix hI => ?_)
  refine AWp.seq ?_
  refine AWp.seq ?_
  refine AWp.region ?_
  first | refine AOps.val (Y.move rfl rfl) (by decide) ?_ | refine AOps.moveU rfl (by decide) ?_
  first | refine AOps.val (Y.move rfl rfl) (by decide) ?_ | refine AOps.moveU rfl (by decide) ?_
  refine AOps.val (Y.len sl33 rfl (n := ps.length) (congrArg some (List.length_map ..))) (by decide) ?_
  refine AOps.val (Y.lss rfl rfl) (by decide) ?_
  refine AOps.nil ?_
  refine AWp.condD rfl (fun c11 => ?_) (fun c11 => ?_)
  · obtain ⟨q, hg⟩ : ∃ q, ps[ix]? = some q := ⟨_, List.getElem?_eq_getElem (by omega)⟩
    have hq := hok.get hg
    have hma := mod_in (x := q.a) (n := ix + 1) (by omega)
    have hmb := mod_in (x := q.b) (n := ix + 1) (by omega)
    refine AWp.skip ?_
    refine AWp.seq ?_
    refine AWp.block ?_
    refine AWp.seq ?_
    refine AWp.region ?_
    first | refine AOps.val (Y.move rfl rfl) (by decide) ?_ | refine AOps.moveU rfl (by decide) ?_
    first | refine AOps.val (Y.move rfl rfl) (by decide) ?_ | refine AOps.moveU rfl (by decide) ?_
    refine AOps.val (Y.indexF sl33 rfl rfl rfl (getElem?_map' hg)) (by decide) ?_
    refine AOps.val (Y.fieldAddr fl57_0 rfl rfl) (by decide) ?_
    refine AOps.val (Y.load sh5 rfl rfl rfl rfl) (by decide) ?_
    first | refine AOps.val (Y.remI rfl rfl (by omega)) (by decide) ?_ | refine AOps.val (Y.rem rfl rfl (by omega) rfl) (by decide) ?_
    first | refine AOps.val (Y.convI ii5 ii3 rfl (by omega)) (by decide) ?_ | refine AOps.val (Y.conv ii5 ii3 rfl rfl) (by decide) ?_
    first | refine AOps.val (Y.addI rfl rfl (by omega)) (by decide) ?_ | refine AOps.val (Y.add rfl rfl rfl) (by decide) ?_
    refine AOps.val (Y.build pl38 ze38 rfl rfl rfl) (by decide) ?_
    refine AOps.alloc 105 ze38 rfl rfl (by decide) ?_
    first | refine AOps.storeC si38 rfl rfl rfl rfl rfl rfl (Nat.le_of_ble_eq_true rfl) rfl ?_ | refine AOps.storeR si38 rfl rfl rfl rfl rfl rfl rfl (by first | assumption | exact getElem?_map' (by assumption)) (Nat.le_of_ble_eq_true rfl) ?_
    refine AOps.nil ?_
    refine AWp.join (fun (a : Int) => ⟨[(5, .ptr 105 0 0 0), (4, .v (.int .i64 ((ix : Int)))), (0, .fz 3 (ps.map Part.row)), (3, .slc 103 3 0 (ix + 1))], [(105, .cells [.v (.int .i64 (1 + q.kind % 7)), .v (.int .i64 (a)), .v (.int .i64 (0))]), (103, .rows 3 ((made ps ix).map Gate.row))]⟩) (fun a => a = (gateOf (ix + 1) q).a) ?_ (fun a ha => ?_)
    · refine AWp.seq ?_
      refine AWp.region ?_
      refine AOps.val (Y.fieldAddr fl38_0 rfl rfl) (by decide) ?_
      refine AOps.val (Y.load sh3 rfl rfl rfl rfl) (by decide) ?_
      refine AOps.val (Y.geq rfl rfl) (by decide) ?_
      refine AOps.nil ?_
      refine AWp.condD rfl (fun c25 => ?_) (fun c25 => ?_)
      · refine AWp.region ?_
        first | refine AOps.val (Y.move rfl rfl) (by decide) ?_ | refine AOps.moveU rfl (by decide) ?_
        refine AOps.val (Y.len sl22 rfl rfl) (by decide) ?_
        first | refine AOps.val (Y.subI rfl rfl (by omega)) (by decide) ?_ | refine AOps.val (Y.sub rfl rfl rfl) (by decide) ?_
        first | refine AOps.val (Y.move rfl rfl) (by decide) ?_ | refine AOps.moveU rfl (by decide) ?_
        first | refine AOps.val (Y.move rfl rfl) (by decide) ?_ | refine AOps.moveU rfl (by decide) ?_
        refine AOps.val (Y.indexF sl33 rfl rfl rfl (getElem?_map' hg)) (by decide) ?_
        refine AOps.val (Y.fieldAddr fl57_1 rfl rfl) (by decide) ?_
        refine AOps.val (Y.load sh5 rfl rfl rfl rfl) (by decide) ?_
        first | refine AOps.val (Y.convI ii5 ii3 rfl (by omega)) (by decide) ?_ | refine AOps.val (Y.conv ii5 ii3 rfl rfl) (by decide) ?_
        first | refine AOps.val (Y.move rfl rfl) (by decide) ?_ | refine AOps.moveU rfl (by decide) ?_
        refine AOps.val (Y.len sl22 rfl rfl) (by decide) ?_
        first | refine AOps.val (Y.remI rfl rfl (by omega)) (by decide) ?_ | refine AOps.val (Y.rem rfl rfl (by omega) rfl) (by decide) ?_
        first | refine AOps.val (Y.subI rfl rfl (by omega)) (by decide) ?_ | refine AOps.val (Y.sub rfl rfl rfl) (by decide) ?_
        refine AOps.val (Y.fieldAddr fl38_1 rfl rfl) (by decide) ?_
        first | refine AOps.storeC si3 rfl rfl rfl rfl rfl rfl (Nat.le_of_ble_eq_true rfl) rfl ?_ | refine AOps.storeR si3 rfl rfl rfl rfl rfl rfl rfl (by first | assumption | exact getElem?_map' (by assumption)) (Nat.le_of_ble_eq_true rfl) ?_
        refine AOps.nil ?_
        refine ⟨_, ?_, Le.mk (SubL.cons rfl (SubL.cons rfl (SubL.cons rfl (SubL.cons rfl (SubL.nil))))) (SubL.cons rfl (SubL.cons rfl (SubL.nil)))⟩
        simp only [gateOf]
        first | (rw [if_pos (by omega)]; done) | (rw [if_neg (by omega)]; done)
      · refine AWp.skip ?_
        refine ⟨_, ?_, Le.mk (SubL.cons rfl (SubL.cons rfl (SubL.cons rfl (SubL.cons rfl (SubL.nil))))) (SubL.cons rfl (SubL.cons rfl (SubL.nil)))⟩
        simp only [gateOf]
        first | (rw [if_pos (by omega)]; done) | (rw [if_neg (by omega)]; done)
    · refine AWp.join (fun (b : Int) => ⟨[(5, .ptr 105 0 0 0), (4, .v (.int .i64 ((ix : Int)))), (0, .fz 3 (ps.map Part.row)), (3, .slc 103 3 0 (ix + 1))], [(105, .cells [.v (.int .i64 (1 + q.kind % 7)), .v (.int .i64 (a)), .v (.int .i64 (b))]), (103, .rows 3 ((made ps ix).map Gate.row))]⟩) (fun b => b = (gateOf (ix + 1) q).b) ?_ (fun b hb => ?_)
      · refine AWp.seq ?_
        refine AWp.region ?_
        refine AOps.val (Y.fieldAddr fl38_0 rfl rfl) (by decide) ?_
        refine AOps.val (Y.load sh3 rfl rfl rfl rfl) (by decide) ?_
        refine AOps.val (Y.geq rfl rfl) (by decide) ?_
        refine AOps.nil ?_
        refine AWp.condD rfl (fun c42 => ?_) (fun c42 => ?_)
        · refine AWp.region ?_
          first | refine AOps.val (Y.move rfl rfl) (by decide) ?_ | refine AOps.moveU rfl (by decide) ?_
          refine AOps.val (Y.len sl22 rfl rfl) (by decide) ?_
          first | refine AOps.val (Y.subI rfl rfl (by omega)) (by decide) ?_ | refine AOps.val (Y.sub rfl rfl rfl) (by decide) ?_
          first | refine AOps.val (Y.move rfl rfl) (by decide) ?_ | refine AOps.moveU rfl (by decide) ?_
          first | refine AOps.val (Y.move rfl rfl) (by decide) ?_ | refine AOps.moveU rfl (by decide) ?_
          refine AOps.val (Y.indexF sl33 rfl rfl rfl (getElem?_map' hg)) (by decide) ?_
          refine AOps.val (Y.fieldAddr fl57_2 rfl rfl) (by decide) ?_
          refine AOps.val (Y.load sh5 rfl rfl rfl rfl) (by decide) ?_
          first | refine AOps.val (Y.convI ii5 ii3 rfl (by omega)) (by decide) ?_ | refine AOps.val (Y.conv ii5 ii3 rfl rfl) (by decide) ?_
          first | refine AOps.val (Y.move rfl rfl) (by decide) ?_ | refine AOps.moveU rfl (by decide) ?_
          refine AOps.val (Y.len sl22 rfl rfl) (by decide) ?_
          first | refine AOps.val (Y.remI rfl rfl (by omega)) (by decide) ?_ | refine AOps.val (Y.rem rfl rfl (by omega) rfl) (by decide) ?_
          first | refine AOps.val (Y.subI rfl rfl (by omega)) (by decide) ?_ | refine AOps.val (Y.sub rfl rfl rfl) (by decide) ?_
          refine AOps.val (Y.fieldAddr fl38_2 rfl rfl) (by decide) ?_
          first | refine AOps.storeC si3 rfl rfl rfl rfl rfl rfl (Nat.le_of_ble_eq_true rfl) rfl ?_ | refine AOps.storeR si3 rfl rfl rfl rfl rfl rfl rfl (by first | assumption | exact getElem?_map' (by assumption)) (Nat.le_of_ble_eq_true rfl) ?_
          refine AOps.nil ?_
          refine ⟨_, ?_, Le.mk (SubL.cons rfl (SubL.cons rfl (SubL.cons rfl (SubL.cons rfl (SubL.nil))))) (SubL.cons rfl (SubL.cons rfl (SubL.nil)))⟩
          simp only [gateOf]
          first | (rw [if_pos (by omega)]; done) | (rw [if_neg (by omega)]; done)
        · refine AWp.skip ?_
          refine ⟨_, ?_, Le.mk (SubL.cons rfl (SubL.cons rfl (SubL.cons rfl (SubL.cons rfl (SubL.nil))))) (SubL.cons rfl (SubL.cons rfl (SubL.nil)))⟩
          simp only [gateOf]
          first | (rw [if_pos (by omega)]; done) | (rw [if_neg (by omega)]; done)
      · refine AWp.region ?_
        first | refine AOps.val (Y.move rfl rfl) (by decide) ?_ | refine AOps.moveU rfl (by decide) ?_
        refine AOps.val (Y.loadA sh38 rfl rfl (Nat.le_of_ble_eq_true rfl) rfl rfl) (by decide) ?_
        have hge : Gate.row (gateOf (ix + 1) q) = [.v (.int .i64 (1 + q.kind % 7)), .v (.int .i64 (a)), .v (.int .i64 (b))] := by rw [ha, hb]; rfl
        refine AOps.buildSlice [Gate.row (gateOf (ix + 1) q)] sl22 ze38 rfl rfl rfl rfl (by rw [hge]; rfl) (by intro r hr; simp only [List.mem_singleton] at hr; subst hr; rfl) rfl rfl rfl (by decide) ?_
        refine AOps.appendE ((made ps (ix + 1)).map Gate.row) (ix + 2) sl22 ze38 rfl rfl rfl rfl (by rw [List.length_map, made_length (by omega)]; omega) (made_app hg (by omega) rfl) rfl (by omega) (by omega) (by decide) (by decide) ?_
        first | refine AOps.val (Y.assign rfl rfl) (by decide) ?_ | refine AOps.assignU rfl (by decide) ?_
        refine AOps.nil ?_
        refine AWp.region ?_
        first | refine AOps.val (Y.move rfl rfl) (by decide) ?_ | refine AOps.moveU rfl (by decide) ?_
        first | refine AOps.val (Y.addI rfl rfl (by omega)) (by decide) ?_ | refine AOps.val (Y.add rfl rfl rfl) (by decide) ?_
        first | refine AOps.val (Y.assign rfl rfl) (by decide) ?_ | refine AOps.assignU rfl (by decide) ?_
        refine AOps.nil ?_
        exact ⟨ix + 1, by omega, by omega, Le.mk (by repeat (first | exact SubL.nil | refine SubL.cons rfl ?_)) (by repeat (first | exact SubL.nil | refine SubL.cons rfl ?_))⟩
  · refine AWp.exit ?_
    refine AWp.seq ?_
    refine AWp.region ?_
    first | refine AOps.val (Y.move rfl rfl) (by decide) ?_ | refine AOps.moveU rfl (by decide) ?_
    first | refine AOps.val (Y.assign rfl rfl) (by decide) ?_ | refine AOps.assignU rfl (by decide) ?_
    refine AOps.sh (Sh.detach (d := 2) (o := 103) rfl rfl (by rw [List.length_map, made_length hI]) (by decide)) ?_
    refine AOps.nil ?_
    refine AWp.ret ?_
    exact ⟨_, _, rfl, rfl, (by have h : ix = ps.length := (by omega); subst h; rfl), rfl⟩

set_option maxHeartbeats 1000000 in
theorem open_spec {l : List Gate} {xs : List Bool} (hl : l.length ≤ 8796093022208) : ACalls Try.prog 18 [.fz 3 (l.map Gate.row), .fz 1 (xs.map brow)] [] [] (fun r o => r = .uni 1 ((opened xs (nin l)).map brow) ∧ o = []) := by
  refine ACalls.of Try.func18 rfl rfl rfl (n := 30) (by decide) (Nat.le_of_ble_eq_true rfl) ?_
  refine AWp.seq ?_
  refine AWp.region ?_
  refine AOps.val (Y.assign rfl rfl) (by decide) ?_
  refine AOps.nil ?_
  refine AWp.seq ?_
  refine AWp.region ?_
  refine AOps.val (Y.assign rfl rfl) (by decide) ?_
  refine AOps.nil ?_
  refine AWp.seq ?_
  refine AWp.seq ?_
  refine AWp.sh (Sh.nil (d := 5) 105 1 rfl (by decide)) ?_
  refine AWp.region ?_
  refine AOps.val (Y.assign rfl rfl) (by decide) ?_
  refine AOps.nil ?_
  refine AWp.block ?_
  refine AWp.loop (fun (ix : Nat) => ⟨[(6, .v (.int .i64 ((ix : Int)))), (0, .fz 3 (l.map Gate.row)), (1, .fz 1 (xs.map brow)), (5, .slc 105 1 0 ix)], [(105, .rows 1 ((opened xs ix).map brow))]⟩) (fun ix => ix ≤ nin l) (fun ix => nin l - ix) (0) (by omega) (Le.mk (by repeat (first | exact SubL.nil | refine SubL.cons rfl ?_)) (by repeat (first | exact SubL.nil | refine SubL.cons rfl ?_))) (fun ix hI => ?_)
  refine AWp.seq ?_
  refine AWp.seq ?_
  refine AWp.region ?_
  first | refine AOps.val (Y.move rfl rfl) (by decide) ?_ | refine AOps.moveU rfl (by decide) ?_
  first | refine AOps.val (Y.move rfl rfl) (by decide) ?_ | refine AOps.moveU rfl (by decide) ?_
  refine AOps.callP ok14 (refInputs_spec (by omega)) rfl (.keep rfl rfl .nil) (by decide) rfl ?_
  refine AOps.val (Y.lss rfl rfl) (by decide) ?_
  refine AOps.nil ?_
  refine AWp.condD rfl (fun c10 => ?_) (fun c10 => ?_)
  · refine AWp.skip ?_
    refine AWp.seq ?_
    refine AWp.block ?_
    have hnl := nin_le l
    refine AWp.region ?_
    first | refine AOps.val (Y.move rfl rfl) (by decide) ?_ | refine AOps.moveU rfl (by decide) ?_
    first | refine AOps.val (Y.move rfl rfl) (by decide) ?_ | refine AOps.moveU rfl (by decide) ?_
    refine AOps.val (Y.len sl27 rfl (n := xs.length) (congrArg some (List.length_map ..))) (by decide) ?_
    refine AOps.val (Y.gtr rfl rfl) (by decide) ?_
    first | refine AOps.val (Y.move rfl rfl) (by decide) ?_ | refine AOps.moveU rfl (by decide) ?_
    refine AOps.splitD (d := 17) rfl (fun c17 => ?_) (fun c17 => ?_)
    · have hmx : (if (1 : Int) > (xs.length : Int) then 1 else (xs.length : Int)) = (xs.length : Int) := if_neg (by omega)
      have hmd := mod_in (x := (ix : Int)) (n := xs.length) (by omega)
      refine AOps.guardRun (d := 17) rfl (by decide) rfl ?_
      first | refine AOps.val (Y.move rfl rfl) (by decide) ?_ | refine AOps.moveU rfl (by decide) ?_
      refine AOps.guardRun (d := 17) rfl (by decide) rfl ?_
      first | refine AOps.val (Y.move rfl rfl) (by decide) ?_ | refine AOps.moveU rfl (by decide) ?_
      refine AOps.guardRun (d := 17) rfl (by decide) rfl ?_
      first | refine AOps.val (Y.move rfl rfl) (by decide) ?_ | refine AOps.moveU rfl (by decide) ?_
      refine AOps.guardRun (d := 17) rfl (by decide) rfl ?_
      refine AOps.val (Y.len sl27 rfl (n := xs.length) (congrArg some (List.length_map ..))) (by decide) ?_
      refine AOps.guardRun (d := 17) rfl (by decide) rfl ?_
      refine AOps.val (Y.max rfl rfl hmx.symm) (by decide) ?_
      refine AOps.guardRun (d := 17) rfl (by decide) rfl ?_
      refine AOps.val (Y.remI rfl rfl (by omega)) (by decide) ?_
      refine AOps.guardRun (d := 17) rfl (by decide) rfl ?_
      refine AOps.val (Y.indexF sl27 rfl rfl (m := ix % xs.length) (Int.natCast_emod ix xs.length).symm (map_row (f := brow) false (by omega))) (by decide) ?_
      refine AOps.guardRun (d := 17) rfl (by decide) rfl ?_
      refine AOps.val (Y.load sh4 rfl rfl rfl rfl) (by decide) ?_
      refine AOps.val (Y.pick rfl rfl rfl) (by decide) ?_
      refine AOps.buildSlice [[.v (.bool (openB xs ix))]] sl27 ze4 rfl rfl rfl rfl (by first | (rw [openB, if_pos (by omega)]; rfl) | (rw [openB, if_neg (by omega)]; rfl)) (by intro r hr; simp only [List.mem_singleton] at hr; subst hr; rfl) rfl rfl rfl (by decide) ?_
      refine AOps.appendE ((opened xs (ix + 1)).map brow) (ix + 1) sl27 ze4 rfl rfl rfl rfl (by rw [List.length_map, opened_length]; omega) (opened_app rfl) rfl (by omega) (by omega) (by decide) (by decide) ?_
      first | refine AOps.val (Y.assign rfl rfl) (by decide) ?_ | refine AOps.assignU rfl (by decide) ?_
      refine AOps.nil ?_
      refine AWp.region ?_
      first | refine AOps.val (Y.move rfl rfl) (by decide) ?_ | refine AOps.moveU rfl (by decide) ?_
      first | refine AOps.val (Y.addI rfl rfl (by omega)) (by decide) ?_ | refine AOps.val (Y.add rfl rfl rfl) (by decide) ?_
      first | refine AOps.val (Y.assign rfl rfl) (by decide) ?_ | refine AOps.assignU rfl (by decide) ?_
      refine AOps.nil ?_
      exact ⟨ix + 1, by omega, by omega, Le.mk (by repeat (first | exact SubL.nil | refine SubL.cons rfl ?_)) (by repeat (first | exact SubL.nil | refine SubL.cons rfl ?_))⟩
    · refine AOps.guardSkipV (d := 17) rfl (by decide) (by decide) rfl rfl ?_
      refine AOps.guardSkipV (d := 17) rfl (by decide) (by decide) rfl rfl ?_
      refine AOps.guardSkipV (d := 17) rfl (by decide) (by decide) rfl rfl ?_
      refine AOps.guardSkipV (d := 17) rfl (by decide) (by decide) rfl rfl ?_
      refine AOps.guardSkipV (d := 17) rfl (by decide) (by decide) rfl rfl ?_
      refine AOps.guardSkipV (d := 17) rfl (by decide) (by decide) rfl rfl ?_
      refine AOps.guardSkipV (d := 17) rfl (by decide) (by decide) rfl rfl ?_
      refine AOps.guardSkipV (d := 17) rfl (by decide) (by decide) rfl rfl ?_
      refine AOps.val (Y.pick rfl rfl rfl) (by decide) ?_
      refine AOps.buildSlice [[.v (.bool (openB xs ix))]] sl27 ze4 rfl rfl rfl rfl (by first | (rw [openB, if_pos (by omega)]; rfl) | (rw [openB, if_neg (by omega)]; rfl)) (by intro r hr; simp only [List.mem_singleton] at hr; subst hr; rfl) rfl rfl rfl (by decide) ?_
      refine AOps.appendE ((opened xs (ix + 1)).map brow) (ix + 1) sl27 ze4 rfl rfl rfl rfl (by rw [List.length_map, opened_length]; omega) (opened_app rfl) rfl (by omega) (by omega) (by decide) (by decide) ?_
      first | refine AOps.val (Y.assign rfl rfl) (by decide) ?_ | refine AOps.assignU rfl (by decide) ?_
      refine AOps.nil ?_
      refine AWp.region ?_
      first | refine AOps.val (Y.move rfl rfl) (by decide) ?_ | refine AOps.moveU rfl (by decide) ?_
      first | refine AOps.val (Y.addI rfl rfl (by omega)) (by decide) ?_ | refine AOps.val (Y.add rfl rfl rfl) (by decide) ?_
      first | refine AOps.val (Y.assign rfl rfl) (by decide) ?_ | refine AOps.assignU rfl (by decide) ?_
      refine AOps.nil ?_
      exact ⟨ix + 1, by omega, by omega, Le.mk (by repeat (first | exact SubL.nil | refine SubL.cons rfl ?_)) (by repeat (first | exact SubL.nil | refine SubL.cons rfl ?_))⟩
  · refine AWp.exit ?_
    refine AWp.seq ?_
    refine AWp.region ?_
    first | refine AOps.val (Y.move rfl rfl) (by decide) ?_ | refine AOps.moveU rfl (by decide) ?_
    first | refine AOps.val (Y.assign rfl rfl) (by decide) ?_ | refine AOps.assignU rfl (by decide) ?_
    refine AOps.sh (Sh.detach (d := 4) (o := 105) rfl rfl (by rw [List.length_map, opened_length]) (by decide)) ?_
    refine AOps.nil ?_
    refine AWp.ret ?_
    exact ⟨_, _, rfl, rfl, (by have h : ix = nin l := (by omega); subst h; rfl), rfl⟩

end Go.Proofs.Ytiehdnjcapjacaa
/- What the law's calls give, in the forms that the laws on folding use. -/
namespace Go.Proofs.Ytiehdnjcapjacaa
open Go Go.AW

/-- A byte that is known as a number. -/
def nu8row (n : Nat) : List X := [.v (.int .u8 (n : Int))]
theorem nu8row_frees (n : Nat) : X.frees (nu8row n) = true := rfl
theorem made_rel {ps : List Part} (hl : ps.length ≤ 1048576) (hok : partsOk ps) : ACalls Try.prog 16 [.fz 3 (ps.map Part.row)] [] [] (fun r o => ∃ l : List Gate, Good l ∧ l.length = ps.length + 1 ∧ r = .uni 3 (l.map Gate.row) ∧ o = []) :=
  (made_spec hl hok).mono fun _ _ h => ⟨_, made_good (Nat.le_refl _), made_length (Nat.le_refl _), h⟩
theorem fold_rel {l : List Gate} {keep : List Nat} (hl : l.length ≤ 1000) (hk : keep.length ≤ 1048576) (hgood : Good l) (hkeep : ∀ x ∈ keep, x < l.length) :
    ACalls Try.prog 21 [.fz 3 (l.map Gate.row), .fz 1 (keep.map nrow)] [] [] (fun r o => ∃ (m : List Gate) (kp : List Nat), Folding l keep m kp ∧ r = .tup [.uni 3 (m.map Gate.row), .uni 1 (kp.map nrow)] ∧ o = []) :=
  (fold_spec hl hk hgood hkeep).mono fun _ _ ⟨_, _, hr, h1, h2⟩ => ⟨_, _, folding hgood hr hkeep, h1, h2⟩
theorem fold_again {l : List Gate} {keep : List Nat} (hl : l.length ≤ 1000) (hk : keep.length ≤ 1048576) (hgood : Good l) (hkeep : ∀ x ∈ keep, x < l.length) (hc : Clean l) (hu : AllUsed l keep) :
    ACalls Try.prog 21 [.fz 3 (l.map Gate.row), .fz 1 (keep.map nrow)] [] [] (fun r o => ∃ (m : List Gate) (kp : List Nat), (m.length = l.length ∧ kp.length = keep.length) ∧ r = .tup [.uni 3 (m.map Gate.row), .uni 1 (kp.map nrow)] ∧ o = []) :=
  (fold_spec hl hk hgood hkeep).mono fun _ _ ⟨_, _, hr, h1, h2⟩ => ⟨_, _, fold_twice hgood hc hu hkeep hr, h1, h2⟩
theorem formed_ok {l : List Gate} (hl : l.length ≤ 4611686018427387904) (h : Good l) : ACalls Try.prog 11 [.fz 3 (l.map Gate.row)] [] [] (fun r o => r = .v (.bool true) ∧ o = []) :=
  (formed_spec hl).mono fun _ _ h1 => by rw [formed_good h] at h1; exact h1
theorem small_rep {n : Nat} : Small 65535 (List.replicate n (0 : Int)) := by
  intro x hx
  obtain ⟨_, rfl⟩ := List.mem_replicate.1 hx
  omega
theorem refDepths_zero {l : List Gate} {n : Nat} (hl : l.length ≤ 1073741824) (hb : Good l) (hn : n = nin l) :
    ACalls Try.prog 20 [.fz 3 (l.map Gate.row), .fz 1 ((List.replicate n (0 : Nat)).map nrow)] [] [] (fun r o => r = .uni 1 ((touts l (List.replicate n 0) l.length).map irow) ∧ o = []) := by
  have h := refDepths_spec (l := l) (ins := List.replicate n 0) hl hb (by rw [List.length_replicate]; exact hn) small_rep
  rw [List.map_replicate] at h ⊢
  exact h
end Go.Proofs.Ytiehdnjcapjacaa
