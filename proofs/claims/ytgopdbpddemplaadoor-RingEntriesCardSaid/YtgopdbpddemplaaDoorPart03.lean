/- Whole arrays loaded, stored and laid, as rules of the walk (printed by gen_arr.py). -/
import Derived.Test.YtgopdbpddemplaaDoorRows
import Derived.Test.YtgopdbpddemplaaDoorPart02
set_option linter.unusedSimpArgs false
set_option linter.unusedVariables false
namespace Go.Proofs.YtgopdbpddemplaaDoor
section
/- Whole arrays loaded, stored and laid, as rules of the walk (printed by gen_arr.py). -/
open Go.RowKit

def zerosOf (k : IntKind) (n : Nat) : Array Value := Array.replicate n (.int k 0)
@[simp] theorem zerosOf_size (k : IntKind) (n : Nat) : (zerosOf k n).size = n := by simp [zerosOf]
theorem zerosOf_get (k : IntKind) (n i : Nat) (h : i < n) : (zerosOf k n)[i]? = some (.int k 0) := by simp [zerosOf, h]

theorem OneC.zeros (k : IntKind) (n : Nat) : OneC (zerosOf k n) := fun i v hv => by
  unfold zerosOf at hv
  rw [Array.getElem?_replicate] at hv
  split at hv
  · cases hv; rfl
  · cases hv
/-- what lies at a block's number (a name of its own, so that the walk's rules leave it alone) -/
def objAt (w : World) (g : Nat) : Option Obj := w.heap[g]?
theorem objAt_of {w : World} {g : Nat} {o : Obj} (h : w.heap[g]? = some o) : objAt w g = some o := h
@[go_sem] theorem objAt_drew (w : World) (g : Nat) : objAt w.drew g = objAt w g := rfl
@[go_sem] theorem objAt_drewN (w : World) (n g : Nat) : objAt (w.drewN n) g = objAt w g := rfl
@[go_sem] theorem objAt_draw (w : World) (n g : Nat) : objAt { heap := w.heap, tape := w.tape, drawn := n, os := w.os, output := w.output } g = objAt w g := rfl
@[go_sem] theorem objAt_setRow_ne {w : World} {g k : Nat} (cs : Array Value) (h : k ≠ g) : objAt (w.setRow g cs) k = objAt w k := setRow_other w g k cs h
@[go_sem] theorem objAt_setCell_ne {w : World} {a : Addr} {k : Nat} (v : Value) (h : k ≠ a.block) : objAt (w.setCell a v) k = objAt w k := heap_setCell_other w a k v h
@[go_sem] theorem objAt_alloc_past {w : World} {k : Nat} (o : Obj) (h : k < w.heap.size) : objAt (w.alloc o) k = objAt w k := Below.heap_alloc w o k h
@[go_sem] theorem objAt_alloc_at {w : World} {k : Nat} (o : Obj) (h : k = w.heap.size) : objAt (w.alloc o) k = some o := by subst h; exact heap_alloc_new w o
theorem objAt_setRow_at {w : World} {g : Nat} {old cs : Array Value} {t : TypeId} {fr : Nat × Nat} (h : objAt w g = some (.cells old t fr)) : objAt (w.setRow g cs) g = some (.cells cs t fr) := setRow_heap w g old cs t fr h

def partOf (o : Option Obj) (off n : Nat) : Array Value := match o with | some (.cells cs _ _) => cs.extract off (off + n) | _ => #[]
def holdsPart (o : Option Obj) (off n : Nat) : Bool := match o with | some (.cells cs _ _) => decide (off + n ≤ cs.size) | _ => false
def holdsOpen (o : Option Obj) (off n : Nat) : Bool := match o with | some (.cells cs _ fr) => decide (fr = (0, 0)) && decide (off + n ≤ cs.size) | _ => false
def overObj (o : Option Obj) (off : Nat) (vs : List Value) : Array Value := match o with | some (.cells cs _ _) => over cs off vs | _ => #[]
@[go_sem] theorem partOf_some (cs : Array Value) (t : TypeId) (fr : Nat × Nat) (off n : Nat) : partOf (some (.cells cs t fr)) off n = cs.extract off (off + n) := rfl
@[go_sem] theorem holdsPart_some (cs : Array Value) (t : TypeId) (fr : Nat × Nat) (off n : Nat) : holdsPart (some (.cells cs t fr)) off n = decide (off + n ≤ cs.size) := rfl
@[go_sem] theorem holdsOpen_some (cs : Array Value) (t : TypeId) (off n : Nat) : holdsOpen (some (.cells cs t (0, 0))) off n = decide (off + n ≤ cs.size) := by simp [holdsOpen]
@[go_sem] theorem overObj_some (cs : Array Value) (t : TypeId) (fr : Nat × Nat) (off : Nat) (vs : List Value) : overObj (some (.cells cs t fr)) off vs = over cs off vs := rfl

def okLoad (w : World) (v : Value) (n : Nat) : Bool := match v with | .pointer (some ⟨g, off, none⟩) => holdsPart (objAt w g) off n | _ => false
def loadedV (w : World) (v : Value) (n : Nat) : Value := match v with | .pointer (some ⟨g, off, none⟩) => .agg (partOf (objAt w g) off n) | _ => undef
def okStore (w : World) (v u : Value) (n : Nat) : Bool := match v, u with | .pointer (some ⟨g, off, none⟩), .agg cells => decide (cells.size = n) && oneCells cells && holdsOpen (objAt w g) off n | _, _ => false
def storedW (w : World) (v u : Value) : World := match v, u with | .pointer (some ⟨g, off, none⟩), .agg cells => w.setRow g (overObj (objAt w g) off cells.toList) | _, _ => w
@[go_sem] theorem okLoad_ptr (w : World) (g off n : Nat) : okLoad w (.pointer (some ⟨g, off, none⟩)) n = holdsPart (objAt w g) off n := rfl
@[go_sem] theorem loadedV_ptr (w : World) (g off n : Nat) : loadedV w (.pointer (some ⟨g, off, none⟩)) n = .agg (partOf (objAt w g) off n) := rfl
@[go_sem] theorem okStore_ptr (w : World) (g off n : Nat) (cells : Array Value) : okStore w (.pointer (some ⟨g, off, none⟩)) (.agg cells) n = (decide (cells.size = n) && oneCells cells && holdsOpen (objAt w g) off n) := rfl
@[go_sem] theorem storedW_ptr (w : World) (g off : Nat) (cells : Array Value) : storedW w (.pointer (some ⟨g, off, none⟩)) (.agg cells) = w.setRow g (overObj (objAt w g) off cells.toList) := rfl

section
variable {P : Program} {ρ : Operand → Value} {w : World}
theorem exec_load_arr (ty n : Nat) (d : TypeDesc) (hu : P.underlying ty = some d) (hd : (match d with | .struct _ | .array _ _ => true | _ => false) = true) (hi : (P.info? ty).map (·.size) = some n)
    {dst : Option Tmp} {t : TypeId} {p : String} {e : Array Edge} {gd : Option (Nat × Bool)} {x : Operand}
    (h : okLoad w (ρ x) n = true) :
    (execOp ρ ⟨dst, .load ty x, t, p, e, gd⟩).run P w = .ok (.value (loadedV w (ρ x) n)) w := by
  unfold okLoad at h
  split at h
  · rename_i g off hx
    unfold holdsPart at h
    split at h
    · rename_i cs et fr hc
      rw [hx, loadedV_ptr, hc, partOf_some]
      unfold execOp
      simp only [hx, Instr.loadAt, Instr.sureAddr, Sem.run_bind, Sem.run_pure, Result.andThen_ok, run_loadVar_part w g off n et ty cs fr d hc hu hd hi (by simpa using h)]
    · cases h
  · cases h
theorem exec_store_arr (ty n : Nat) (hi : (P.info? ty).map (·.size) = some n)
    {dst : Option Tmp} {t : TypeId} {p : String} {e : Array Edge} {gd : Option (Nat × Bool)} {x v : Operand}
    (h : okStore w (ρ x) (ρ v) n = true) :
    (execOp ρ ⟨dst, .store ty x v, t, p, e, gd⟩).run P w = .ok .skip (storedW w (ρ x) (ρ v)) := by
  unfold okStore at h
  split at h
  · rename_i g off cells hx hv
    simp only [Bool.and_eq_true, decide_eq_true_eq] at h
    obtain ⟨⟨hs, h1⟩, hg⟩ := h
    subst hs
    unfold holdsOpen at hg
    split at hg
    · rename_i old et fr hc
      simp only [Bool.and_eq_true, decide_eq_true_eq] at hg
      obtain ⟨rfl, hn⟩ := hg
      rw [hx, hv, storedW_ptr, hc, overObj_some]
      unfold execOp
      simp only [hx, hv, Instr.storeAt, Instr.sureAddr, Sem.run_bind, Sem.run_pure, Result.andThen_ok, run_storeVar_part w g off et ty old cells hc hi hn (fun v hv => List.all_eq_true.1 h1 v hv)]
    · cases hg
  · cases h
theorem exec_alloc_arr (ty : Nat) (z : Array Value) (hz : (P.info? ty).map (·.zero) = some (some (.agg z)))
    {dst : Option Tmp} {t : TypeId} {p : String} {e : Array Edge} {gd : Option (Nat × Bool)} :
    (execOp ρ ⟨dst, .alloc ty, t, p, e, gd⟩).run P w = .ok (.value (.pointer (some ⟨w.heap.size, 0, none⟩))) (w.alloc (.cells z ty)) := by
  cases hq : P.info? ty with
  | none => simp [hq] at hz
  | some i =>
    have hi : i.zero = some (.agg z) := by simpa [hq] using hz
    have hsz : (zeroValue ty).run P w = .ok (.agg z) w := by simp [zeroValue, typeInfo, hq, hi]
    unfold execOp
    simp [Instr.alloc, Sem.run_bind, hsz, newVar, newRow, Value.cells]
theorem exec_box_arr (ty : Nat)
    {dst : Option Tmp} {t : TypeId} {p : String} {e : Array Edge} {gd : Option (Nat × Bool)} {x : Operand} :
    (execOp ρ ⟨dst, .box ty x, t, p, e, gd⟩).run P w = .ok (.value (.pointer (some ⟨w.heap.size, 0, none⟩))) (w.alloc (.cells (ρ x).cells ty)) := by
  unfold execOp
  simp [Instr.box, newVar, newRow]
end

theorem info_u32x8 : (Tryd.prog.info? 142).map (fun i => (i.size, i.zero)) = some (8, some (.agg (zerosOf .u32 8))) := by kernel_rfl
theorem size_u32x8 : (Tryd.prog.info? 142).map (·.size) = some 8 := by kernel_rfl
theorem exec_load_u32x8 {ρ : Operand → Value} {w : World} {dst : Option Tmp} {t : TypeId} {p : String} {e : Array Edge} {gd : Option (Nat × Bool)} {x : Operand} (h : okLoad w (ρ x) 8 = true) : (execOp ρ ⟨dst, .load 142 x, t, p, e, gd⟩).run Tryd.prog w = .ok (.value (loadedV w (ρ x) 8)) w := exec_load_arr 142 8 _ Tryd.underlying142 rfl size_u32x8 h
theorem exec_store_u32x8 {ρ : Operand → Value} {w : World} {dst : Option Tmp} {t : TypeId} {p : String} {e : Array Edge} {gd : Option (Nat × Bool)} {x v : Operand} (h : okStore w (ρ x) (ρ v) 8 = true) : (execOp ρ ⟨dst, .store 142 x v, t, p, e, gd⟩).run Tryd.prog w = .ok .skip (storedW w (ρ x) (ρ v)) := exec_store_arr 142 8 size_u32x8 h
theorem exec_alloc_u32x8 {ρ : Operand → Value} {w : World} {dst : Option Tmp} {t : TypeId} {p : String} {e : Array Edge} {gd : Option (Nat × Bool)} : (execOp ρ ⟨dst, .alloc 142, t, p, e, gd⟩).run Tryd.prog w = .ok (.value (.pointer (some ⟨w.heap.size, 0, none⟩))) (w.alloc (.cells (zerosOf .u32 8) 142)) := exec_alloc_arr 142 _ (by have := info_u32x8; revert this; cases Tryd.prog.info? 142 <;> simp <;> exact fun _ h => h)
theorem exec_box_u32x8 {ρ : Operand → Value} {w : World} {dst : Option Tmp} {t : TypeId} {p : String} {e : Array Edge} {gd : Option (Nat × Bool)} {x : Operand} : (execOp ρ ⟨dst, .box 142 x, t, p, e, gd⟩).run Tryd.prog w = .ok (.value (.pointer (some ⟨w.heap.size, 0, none⟩))) (w.alloc (.cells (ρ x).cells 142)) := exec_box_arr 142

theorem info_u8x64 : (Tryd.prog.info? 143).map (fun i => (i.size, i.zero)) = some (64, some (.agg (zerosOf .u8 64))) := by kernel_rfl
theorem size_u8x64 : (Tryd.prog.info? 143).map (·.size) = some 64 := by kernel_rfl
theorem exec_load_u8x64 {ρ : Operand → Value} {w : World} {dst : Option Tmp} {t : TypeId} {p : String} {e : Array Edge} {gd : Option (Nat × Bool)} {x : Operand} (h : okLoad w (ρ x) 64 = true) : (execOp ρ ⟨dst, .load 143 x, t, p, e, gd⟩).run Tryd.prog w = .ok (.value (loadedV w (ρ x) 64)) w := exec_load_arr 143 64 _ Tryd.underlying143 rfl size_u8x64 h
theorem exec_store_u8x64 {ρ : Operand → Value} {w : World} {dst : Option Tmp} {t : TypeId} {p : String} {e : Array Edge} {gd : Option (Nat × Bool)} {x v : Operand} (h : okStore w (ρ x) (ρ v) 64 = true) : (execOp ρ ⟨dst, .store 143 x v, t, p, e, gd⟩).run Tryd.prog w = .ok .skip (storedW w (ρ x) (ρ v)) := exec_store_arr 143 64 size_u8x64 h
theorem exec_alloc_u8x64 {ρ : Operand → Value} {w : World} {dst : Option Tmp} {t : TypeId} {p : String} {e : Array Edge} {gd : Option (Nat × Bool)} : (execOp ρ ⟨dst, .alloc 143, t, p, e, gd⟩).run Tryd.prog w = .ok (.value (.pointer (some ⟨w.heap.size, 0, none⟩))) (w.alloc (.cells (zerosOf .u8 64) 143)) := exec_alloc_arr 143 _ (by have := info_u8x64; revert this; cases Tryd.prog.info? 143 <;> simp <;> exact fun _ h => h)
theorem exec_box_u8x64 {ρ : Operand → Value} {w : World} {dst : Option Tmp} {t : TypeId} {p : String} {e : Array Edge} {gd : Option (Nat × Bool)} {x : Operand} : (execOp ρ ⟨dst, .box 143 x, t, p, e, gd⟩).run Tryd.prog w = .ok (.value (.pointer (some ⟨w.heap.size, 0, none⟩))) (w.alloc (.cells (ρ x).cells 143)) := exec_box_arr 143

theorem info_dig : (Tryd.prog.info? 125).map (fun i => (i.size, i.zero)) = some (32, some (.agg (zerosOf .u8 32))) := by kernel_rfl
theorem size_dig : (Tryd.prog.info? 125).map (·.size) = some 32 := by kernel_rfl
theorem exec_load_dig {ρ : Operand → Value} {w : World} {dst : Option Tmp} {t : TypeId} {p : String} {e : Array Edge} {gd : Option (Nat × Bool)} {x : Operand} (h : okLoad w (ρ x) 32 = true) : (execOp ρ ⟨dst, .load 125 x, t, p, e, gd⟩).run Tryd.prog w = .ok (.value (loadedV w (ρ x) 32)) w := exec_load_arr 125 32 _ Tryd.underlying125 rfl size_dig h
theorem exec_store_dig {ρ : Operand → Value} {w : World} {dst : Option Tmp} {t : TypeId} {p : String} {e : Array Edge} {gd : Option (Nat × Bool)} {x v : Operand} (h : okStore w (ρ x) (ρ v) 32 = true) : (execOp ρ ⟨dst, .store 125 x v, t, p, e, gd⟩).run Tryd.prog w = .ok .skip (storedW w (ρ x) (ρ v)) := exec_store_arr 125 32 size_dig h
theorem exec_alloc_dig {ρ : Operand → Value} {w : World} {dst : Option Tmp} {t : TypeId} {p : String} {e : Array Edge} {gd : Option (Nat × Bool)} : (execOp ρ ⟨dst, .alloc 125, t, p, e, gd⟩).run Tryd.prog w = .ok (.value (.pointer (some ⟨w.heap.size, 0, none⟩))) (w.alloc (.cells (zerosOf .u8 32) 125)) := exec_alloc_arr 125 _ (by have := info_dig; revert this; cases Tryd.prog.info? 125 <;> simp <;> exact fun _ h => h)
theorem exec_box_dig {ρ : Operand → Value} {w : World} {dst : Option Tmp} {t : TypeId} {p : String} {e : Array Edge} {gd : Option (Nat × Bool)} {x : Operand} : (execOp ρ ⟨dst, .box 125 x, t, p, e, gd⟩).run Tryd.prog w = .ok (.value (.pointer (some ⟨w.heap.size, 0, none⟩))) (w.alloc (.cells (ρ x).cells 125)) := exec_box_arr 125

theorem info_content : (Tryd.prog.info? 96).map (fun i => (i.size, i.zero)) = some (512, some (.agg (zerosOf .u8 512))) := by kernel_rfl
theorem size_content : (Tryd.prog.info? 96).map (·.size) = some 512 := by kernel_rfl
theorem exec_load_content {ρ : Operand → Value} {w : World} {dst : Option Tmp} {t : TypeId} {p : String} {e : Array Edge} {gd : Option (Nat × Bool)} {x : Operand} (h : okLoad w (ρ x) 512 = true) : (execOp ρ ⟨dst, .load 96 x, t, p, e, gd⟩).run Tryd.prog w = .ok (.value (loadedV w (ρ x) 512)) w := exec_load_arr 96 512 _ Tryd.underlying96 rfl size_content h
theorem exec_store_content {ρ : Operand → Value} {w : World} {dst : Option Tmp} {t : TypeId} {p : String} {e : Array Edge} {gd : Option (Nat × Bool)} {x v : Operand} (h : okStore w (ρ x) (ρ v) 512 = true) : (execOp ρ ⟨dst, .store 96 x v, t, p, e, gd⟩).run Tryd.prog w = .ok .skip (storedW w (ρ x) (ρ v)) := exec_store_arr 96 512 size_content h
theorem exec_alloc_content {ρ : Operand → Value} {w : World} {dst : Option Tmp} {t : TypeId} {p : String} {e : Array Edge} {gd : Option (Nat × Bool)} : (execOp ρ ⟨dst, .alloc 96, t, p, e, gd⟩).run Tryd.prog w = .ok (.value (.pointer (some ⟨w.heap.size, 0, none⟩))) (w.alloc (.cells (zerosOf .u8 512) 96)) := exec_alloc_arr 96 _ (by have := info_content; revert this; cases Tryd.prog.info? 96 <;> simp <;> exact fun _ h => h)
theorem exec_box_content {ρ : Operand → Value} {w : World} {dst : Option Tmp} {t : TypeId} {p : String} {e : Array Edge} {gd : Option (Nat × Bool)} {x : Operand} : (execOp ρ ⟨dst, .box 96 x, t, p, e, gd⟩).run Tryd.prog w = .ok (.value (.pointer (some ⟨w.heap.size, 0, none⟩))) (w.alloc (.cells (ρ x).cells 96)) := exec_box_arr 96
end
end Go.Proofs.YtgopdbpddemplaaDoor
