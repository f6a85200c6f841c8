/- Texts that stand behind one another: CmpL. No condition. -/
import Derived.Test.YtkogehkmldbhgaaDoorP22
import Derived.Test.YtkogehkmldbhgaaDoorP15
/- The walks of deponentlaw10's hasher and same, on ranges that are alike. Condition: none. -/
namespace Go.Proofs.YtkogehkmldbhgaaDoor
open Go Go.RowKit
attribute [local irreducible] mixW
attribute [local go_sem] n8_lo n8_hi n64_lo n64_hi n32_lo n32_hi
set_option maxRecDepth 100000 in
theorem hasher10_any (x : Int) (w : World) :
    Calls Tryd.prog 15 #[.int .i64 x] w fun e w' => ∃ v, e = .returned v ∧ Hsr w' w'.heap.size v (cutW x) ∧ Below w.heap.size w w' := by
  go_enter Tryd.func15, Tryd.ntmps15
  go_wp2_with fail
  refine (new_any w).mono ?_
  rintro e w1 ⟨t, rfl, hT, hb⟩
  go_wp2_with fail
  refine (new8_any t x w1 hT).mono ?_
  rintro e w2 ⟨v, rfl, hv, hb2⟩
  go_wp2_with fail
  go_ret
  exact ⟨_, rfl, hv, hb.trans (hb2.mono hb.size)⟩
set_option maxHeartbeats 1000000 in
set_option maxRecDepth 100000 in
theorem same10_any (b e : Nat) (A A' : Option Addr) (c c' : Nat) (ds : List (List UInt8)) (hall : ∀ d ∈ ds, d.length = 32) (hn : ds.length ≤ 1000000) (w : World) (hu : DX w (.slice A ds.length c) ds) (hv : DX w (.slice A' ds.length c') ds) :
    Calls Tryd.prog 16 #[.agg (rgC b e (.slice A ds.length c)), .agg (rgC b e (.slice A' ds.length c'))] w fun r w' => r = .returned (.bool true) ∧ Below w.heap.size w w' := by
  have Hall := Lib.hid hall
  clear hall
  have hb1 := below_new1 w (Obj.cells #[.int .u64 (b : Int), .int .u64 (e : Int), .slice A ds.length c] 31)
  have hb2 := hb1.alloc hb1.size (Obj.cells #[.int .u64 (b : Int), .int .u64 (e : Int), .slice A' ds.length c'] 35)
  have hA := (Blk.new w 31 #[.int .u64 (b : Int), .int .u64 (e : Int), .slice A ds.length c]).alloc (Obj.cells #[.int .u64 (b : Int), .int .u64 (e : Int), .slice A' ds.length c'] 35)
  have hB := Blk.new2 w (Obj.cells #[.int .u64 (b : Int), .int .u64 (e : Int), .slice A ds.length c] 31) 35 #[.int .u64 (b : Int), .int .u64 (e : Int), .slice A' ds.length c']
  unfold rgC
  simp only [nU]
  go_enter Tryd.func16, Tryd.ntmps16
  go_wp2_with fail
  refine calls_at (fun W => Below w.heap.size w W) hb2 ?_
  clear hA hB hb1 hb2
  rintro W hbel
  refine (sameX_any _ _ ds Hall.out (by omega) W (hu.next hbel) (hv.next hbel)).mono ?_
  rintro r w2 ⟨rfl, hb2⟩
  go_wp2_with fail
  go_ret
  exact ⟨rfl, hbel.trans (hb2.mono hbel.size)⟩
end Go.Proofs.YtkogehkmldbhgaaDoor
