/- A processor with one task in memory; is, Job, Wake. -/
import Derived.Test.YtadngogbnjodhaaA5
namespace Go.Proofs.Ytadngogbnjodhaa
open Go.RowKit
/-- A block's type. -/
def Ty (w : World) (k : Nat) (e : TypeId) : Prop := ∃ cur fr, w.heap[k]? = some (.cells cur e fr)
theorem Ty.det {w : World} {k : Nat} {e e' : TypeId} (h : Ty w k e) (h' : Ty w k e') : e = e' := by
  obtain ⟨c, f, h⟩ := h
  obtain ⟨c', f', h'⟩ := h'
  rw [h] at h'; injection h' with h'; injection h'
theorem VecAt.ty {w : World} {q : Nat} {e : TypeId} {xs : List Value} (h : VecAt w q e xs) : Ty w q e := ⟨_, _, h⟩
theorem own_ty {w : World} {base n : Nat} {e : TypeId} {size : Nat} {v : Value} {xs : List Value} (h : w.ownsRow base e size v n xs) {k : Nat} (hk : v.ownBlock = some k) : Ty w k e := by
  obtain ⟨cur, hc⟩ := own_blk h hk
  exact ⟨cur, _, hc⟩
/-- What changes is of none of these types. -/
def Off (w : World) (S : Nat → Prop) (E : List TypeId) : Prop := ∀ k, S k → ∃ e, Ty w k e ∧ e ∉ E
theorem Off.no {w : World} {S : Nat → Prop} {E : List TypeId} (h : Off w S E) {k : Nat} {e : TypeId} (ht : Ty w k e) (he : e ∈ E) : ¬ S k := fun hk => by
  obtain ⟨e', h1, h2⟩ := h k hk
  exact h2 (h1.det ht ▸ he)
theorem Off.sub {w : World} {S : Nat → Prop} {E E' : List TypeId} (h : Off w S E) (hs : ∀ e ∈ E', e ∈ E) : Off w S E' := fun k hk => (h k hk).imp fun e he => ⟨he.1, fun x => he.2 (hs e x)⟩
theorem off_none (w : World) (E : List TypeId) : Off w (fun _ => False) E := fun _ h => h.elim
structure TK where
  P : Nat
  C : Nat
  Pe : Nat
  D : Nat
def TK.ok (K : TK) : Prop := K.P < 101 ∧ 1 ≤ K.C ∧ K.C ≤ K.D ∧ K.D ≤ K.Pe ∧ K.Pe ≤ 1073741824
structure JobM where
  jb : Nat
  ran : Nat
  dead : Nat
  missed : Bool
def jptr : Option JobM → Value
  | none => .pointer none
  | some j => .pointer (some ⟨j.jb, 0, none⟩)
structure TaskAt (w : World) (T : Nat → Prop) (K : TK) (tau q : Nat) (vq : Value) (job : Option JobM) (begun : Bool) (last : Nat) : Prop where
  task : VecAt w tau 58 [.int .i64 K.P, .int .u64 K.C, .int .u64 K.Pe, .int .u64 K.D, jptr job, .bool begun, .int .u64 last]
  jobs : ∀ j, job = some j → VecAt w j.jb 70 [.int .u64 K.C, .int .u64 j.ran, .int .u64 j.dead, .bool j.missed] ∧ j.ran < K.C ∧ T j.jb
  queue : QAt w q K.P vq job.isSome
  tt : T tau ∧ T q ∧ ∀ k, vq.ownBlock = some k → T k
structure SrvM where
  sb : Nat
  bb : Nat
  B : Nat
  Pr : Nat
  work : Nat
  l : List Nat
  bn : Nat
structure SrvAt (w : World) (T : Nat → Prop) (v : SrvM) : Prop where
  str : VecAt w v.sb 65 [.pointer (some ⟨v.bb, 0, none⟩), .int .u64 v.work]
  bud : ∃ A c, BIs w T v.bb ⟨(v.B : Nat), (v.Pr : Nat)⟩ A v.l c v.bn
  wf : (1 ≤ v.B ∧ v.B ≤ 200) ∧ v.Pr ≤ 1073741824 ∧ v.l.length ≤ v.B ∧ v.work ≤ 1048576
  tt : T v.sb ∧ T v.bb
structure SrvsAt (w : World) (T : Nat → Prop) (L : List SrvM) : Prop where
  all : ∀ (i : Nat) (v : SrvM), L[i]? = some v → SrvAt w T v
  inj : ∀ (i j : Nat) (v u : SrvM), L[i]? = some v → L[j]? = some u → (v.sb = u.sb ∨ v.bb = u.bb) → i = j
def ptrs (L : List SrvM) : List Value := L.map fun v => .pointer (some ⟨v.sb, 0, none⟩)
structure Core (w : World) (T : Nat → Prop) (c tau q : Nat) (vt vs : Value) (now : Nat) (L : List SrvM) : Prop where
  str : VecAt w c 54 [vt, vs, .pointer (some ⟨q, 0, none⟩), .int .u64 now]
  tasks : w.ownsRow 0 55 1 vt 1 [.pointer (some ⟨tau, 0, none⟩)]
  servers : w.ownsRow 0 63 1 vs L.length (ptrs L)
  tt : T c
structure CS where
  tau : Nat
  q : Nat
  vt : Value
  vs : Value
  vq : Value
  now : Nat
  job : Option JobM
  begun : Bool
  last : Nat
  L : List SrvM
structure CpuAt (w : World) (T : Nat → Prop) (c : Nat) (K : TK) (S : CS) : Prop where
  core : Core w T c S.tau S.q S.vt S.vs S.now S.L
  task : TaskAt w T K S.tau S.q S.vq S.job S.begun S.last
  srvs : SrvsAt w T S.L
  hK : K.ok
  hn : S.now < 100000 ∧ S.last ≤ S.now ∧ S.L.length ≤ 16
  hb : ∀ (i : Nat) (v : SrvM), S.L[i]? = some v → v.bn ≤ S.now
section
variable {w w' : World} {T S : Nat → Prop}
theorem Core.frm {c tau q : Nat} {vt vs : Value} {now : Nat} {L : List SrvM} (h : Core w T c tau q vt vs now L) (hf : Frm S w w') (ho : Off w S [54, 55, 63]) : Core w' T c tau q vt vs now L :=
  ⟨h.str.frm hf (ho.no h.str.ty (by decide)), own_frm h.tasks hf (fun _ hk => ho.no (own_ty h.tasks hk) (by decide)), own_frm h.servers hf (fun _ hk => ho.no (own_ty h.servers hk) (by decide)), h.tt⟩
theorem TaskAt.frm {K : TK} {tau q : Nat} {vq : Value} {job : Option JobM} {begun : Bool} {last : Nat} (h : TaskAt w T K tau q vq job begun last) (hf : Frm S w w') (ho : Off w S [58, 70, 76, 3]) : TaskAt w' T K tau q vq job begun last :=
  ⟨h.task.frm hf (ho.no h.task.ty (by decide)), fun j hj => ⟨(h.jobs j hj).1.frm hf (ho.no (h.jobs j hj).1.ty (by decide)), (h.jobs j hj).2⟩,
   h.queue.frm hf (ho.no h.queue.str.ty (by decide)) (fun _ hk => ho.no (own_ty h.queue.own hk) (by decide)), h.tt⟩
theorem SrvAt.frm {v : SrvM} (h : SrvAt w T v) (hf : Frm S w w') (h1 : ¬ S v.sb) (h2 : ¬ S v.bb) (h3 : ∀ k, T k → Ty w k 22 → ¬ S k) : SrvAt w' T v := by
  obtain ⟨A, c, hb⟩ := h.bud
  exact ⟨h.str.frm hf h1, ⟨A, c, hb.frm hf h2 (fun k cur ht hh => h3 k ht ⟨cur, _, hh⟩)⟩, h.wf, h.tt⟩
theorem SrvsAt.frm {L : List SrvM} (h : SrvsAt w T L) (hf : Frm S w w') (ho : Off w S [65, 81]) (h3 : ∀ k, T k → Ty w k 22 → ¬ S k) : SrvsAt w' T L :=
  ⟨fun i v hi => by
    have hv := h.all i v hi
    obtain ⟨A, c, hb⟩ := hv.bud
    exact hv.frm hf (ho.no hv.str.ty (by decide)) (ho.no hb.str.ty (by decide)) h3, h.inj⟩
theorem CpuAt.keep {c : Nat} {K : TK} {C : CS} (h : CpuAt w T c K C) (hf : Frm (fun _ => False) w w') : CpuAt w' T c K C :=
  ⟨h.core.frm hf (off_none _ _), h.task.frm hf (off_none _ _), h.srvs.frm hf (off_none _ _) (fun _ _ _ => id), h.hK, h.hn, h.hb⟩
/-- What is neither the processor's nor of its types. -/
theorem CpuAt.far {c : Nat} {K : TK} {C : CS} (h : CpuAt w T c K C) (hf : Frm S w w') (ho : Off w S [54, 55, 63, 58, 70, 76, 3, 65, 81]) (h3 : ∀ k, T k → ¬ S k) : CpuAt w' T c K C :=
  ⟨h.core.frm hf (ho.sub (by decide)), h.task.frm hf (ho.sub (by decide)), h.srvs.frm hf (ho.sub (by decide)) (fun k hk _ => h3 k hk), h.hK, h.hn, h.hb⟩
end
section
variable {w : World} {T : Nat → Prop} {c : Nat} {K : TK} {C : CS}
theorem CpuAt.c0 (h : CpuAt w T c K C) : w.cell? ⟨c, 0, none⟩ = some C.vt := h.core.str.cell rfl
theorem CpuAt.c1 (h : CpuAt w T c K C) : w.cell? ⟨c, 1, none⟩ = some C.vs := h.core.str.cell rfl
theorem CpuAt.c2 (h : CpuAt w T c K C) : w.cell? ⟨c, 2, none⟩ = some (.pointer (some ⟨C.q, 0, none⟩)) := h.core.str.cell rfl
theorem CpuAt.c3 (h : CpuAt w T c K C) : w.cell? ⟨c, 3, none⟩ = some (.int .u64 C.now) := h.core.str.cell rfl
theorem CpuAt.vt (h : CpuAt w T c K C) : ∃ g cap, C.vt = .slice (some ⟨g, 0, none⟩) 1 cap ∧ w.cell? ⟨g, 0, none⟩ = some (.pointer (some ⟨C.tau, 0, none⟩)) := by
  obtain ⟨g, cap, hv, hg, hc⟩ := own_form h.core.tasks (by decide)
  refine ⟨g, cap, hv, ?_⟩
  have := h.core.tasks
  rw [hv] at this
  rw [this.cellAt 0 (by decide)]; rfl
theorem CpuAt.tasky (h : CpuAt w T c K C) : (∀ i v, [Value.int .i64 K.P, .int .u64 K.C, .int .u64 K.Pe, .int .u64 K.D, jptr C.job, .bool C.begun, .int .u64 C.last][i]? = some v → w.cell? ⟨C.tau, i, none⟩ = some v) ∧ (∀ i, w.frozen? ⟨C.tau, i, none⟩ = false) :=
  ⟨fun _ _ hi => h.task.task.cell hi, h.task.task.frozen⟩
theorem Is_c (h : CpuAt w T c K C) : Calls Try.prog 18 #[.pointer (some ⟨c, 0, none⟩), .int .i64 0] w fun e w' => e = .returned (.bool true) ∧ w' = w := by
  have c0 := h.c0
  obtain ⟨g, cap, hv, -⟩ := h.vt
  rw [hv] at c0
  clear h
  go_enter Try.func18, Try.ntmps18
  go_wp2_with fail
  go_ret
  exact ⟨rfl, rfl⟩
def jobT : Option JobM → Value
  | none => .tuple #[.int .u64 0, .int .u64 0, .bool false]
  | some j => .tuple #[.int .u64 j.ran, .int .u64 j.dead, .bool true]
theorem job_c (h : CpuAt w T c K C) : Calls Try.prog 10 #[.pointer (some ⟨c, 0, none⟩), .int .i64 0] w fun e w' => e = .returned (jobT C.job) ∧ Frm (fun _ => False) w w' := by
  have HI := Lib.hid (Is_c h)
  have c0 := h.c0
  obtain ⟨g, cap, hv, x0⟩ := h.vt
  rw [hv] at c0
  have t4 := h.tasky.1 4 _ rfl
  have hj := h.task.jobs
  cases hjob : C.job with
  | none =>
    rw [hjob] at t4
    simp only [jptr] at t4
    clear h hj
    go_enter Try.func10, Try.ntmps10
    go_wp2_with fail
    with_reducible refine HI.out.mono ?_
    rintro e w1 ⟨rfl, rfl⟩
    go_wp2_with fail
    go_ret3
    exact ⟨rfl, Frm.refl _ _⟩
  | some j =>
    rw [hjob] at t4
    simp only [jptr] at t4
    obtain ⟨hj1, -⟩ := hj j hjob
    obtain ⟨jb, ran, dead, missed⟩ := j
    have j1 := hj1.cell (i := 1) rfl
    have j2 := hj1.cell (i := 2) rfl
    simp only at t4 j1 j2
    clear h hj hj1
    go_enter Try.func10, Try.ntmps10
    go_wp2_with fail
    with_reducible refine HI.out.mono ?_
    rintro e w1 ⟨rfl, rfl⟩
    go_wp2_with fail
    go_quiet (fail)
    go_wp2_with fail
    go_ret3
    exact ⟨rfl, (Frm.refl _ _).drewN nq⟩
end
end Go.Proofs.Ytadngogbnjodhaa
