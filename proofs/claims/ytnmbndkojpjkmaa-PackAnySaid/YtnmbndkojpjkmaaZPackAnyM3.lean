-- Functions of the program and of the document as plain Lean, each with the proof that the code comes to it. Written by a program of this session (wip/tools/myprint.py, pack.py) over the kit's printer; Lean checks it.
import Derived.Test.YtnmbndkojpjkmaaZPackAnyPrt0
import Derived.Test.YtnmbndkojpjkmaaZPackAnyM1
import Derived.Test.YtnmbndkojpjkmaaZPackAnyM2
import Derived.Laws.CopyOwn
import Derived.Test.YtnmbndkojpjkmaaZPackAnySh2
import Derived.Test.YtnmbndkojpjkmaaZPackAnySh
namespace Go.Proofs.Ytnmbndkojpjkmaa.Prt
open Go.RowKit Go.Proofs.YtnmbndkojpjkmaaW.PrintWords Go.Proofs.YtnmbndkojpjkmaaW.PrintLast Go.Proofs.YtnmbndkojpjkmaaW.PrintMore
attribute [local go_sem] max2_int min2_int max_two min_two max_three min_three max_four min_four   -- for this text's walks alone
set_option linter.unusedVariables false
set_option linter.unusedSimpArgs false
set_option maxHeartbeats 8000000
set_option maxRecDepth 100000


/-- A row of scalars, as one block of cells. -/
theorem cpack_Write.intRow {k : IntKind} {e base : Nat} {ok : Nat→Prop} {w : World} {v : Value} {xs : List Int} (h : (Kd.int k).R e w base ok v xs) :
  (v=.slice none 0 0∧xs = [])∨∃ g cap cur,v=.slice (some ⟨g,0,none⟩) xs.length cap∧ok g∧base≤g∧w.heap[g]? = some (.cells cur e (0,0))∧xs.length≤cap∧cap≤maxLen∧cur.size=cap∧cur.toList.take xs.length=xs.map (Value.int k):=by
 obtain ⟨h0,inner,⟨h1,h2⟩,hr⟩:=h
 have hsz : (Kd.int k).sz=1:=rfl
 have hin : inner=xs.map (Value.int k):=by
  refine List.ext_getElem? fun j => ?_
  have hl : inner.length=xs.length:=by rw [h1,hsz,Nat.mul_one]
  rcases Nat.lt_or_ge j xs.length with hj|hj
  ·
   have:=hr.2 j _ (List.getElem?_eq_getElem hj)
   rw [hsz,Nat.mul_one] at this
   have h3 : (inner.drop j).take 1 = [Value.int k xs[j]]:=this
   have h4:=congrArg (fun l=>l[0]?) h3
   simp only [List.getElem?_take,List.getElem?_drop] at h4
   simp at h4
   simp [h4,hj]
  rw [List.getElem?_eq_none (by omega),List.getElem?_eq_none (by simp;omega)]
 rcases h2 with ⟨rfl,hn⟩ | ⟨g,cap,cur,rfl,hb,hh,hnc,hcm,hcs,ht⟩
 ·
  exact .inl ⟨rfl,List.eq_nil_of_length_eq_zero hn⟩
 rw [hsz,Nat.mul_one] at hcs ht
 exact .inr ⟨g,cap,cur,rfl,h0 g rfl,hb,hh,hnc,hcm,hcs,by rw [ht,hin]⟩
theorem cpack_Write.rowInt {k : IntKind} {e base : Nat} {ok : Nat→Prop} {w : World} {xs : List Int} {g cap : Nat} {cur : Array Value} (hg : ok g) (hb : base≤g) (hh : w.heap[g]? = some (.cells cur e (0,0))) (hn : xs.length≤cap) (hc : cap≤maxLen) (hs : cur.size=cap) (ht : cur.toList.take xs.length=xs.map (Value.int k)) :
  (Kd.int k).R e w base ok (.slice (some ⟨g,0,none⟩) xs.length cap) xs:=by
 have hsz : (Kd.int k).sz=1:=rfl
 refine ⟨fun q hq => ?_,xs.map (Value.int k),⟨by simp [hsz], .inr ⟨g,cap,cur,rfl,hb,hh,hn,hc,by rw [hsz,Nat.mul_one,hs],by rw [hsz,Nat.mul_one,ht]⟩⟩,by simp [hsz],fun j p hp => ?_⟩
 ·
  simp only [Value.ownBlock,zM] at hq;exact hq ▸ hg
 have : ((xs.map (Value.int k)).drop (j * 1)).take 1 = [Value.int k p]:=by
  rw [Nat.mul_one]
  obtain ⟨hj,hpj⟩:=List.getElem?_eq_some_iff.1 hp
  refine List.ext_getElem? fun i => ?_
  rcases i with _|i
  ·
   simp [List.getElem?_take,hp]
  simp [List.getElem?_take]
 exact this

theorem cpack_Write.copyRow {P : Program} {ops : Array Oper} {rest : List Oper} {o : Oper} {a : Act} {Q : Exit→Act→World→Prop} {k : IntKind} {w0 W : World} (base : Nat) (hgd : o.guard=none) (d s : Operand) (t e : TypeId)
  (ho : o.op=.call { callee:=.builtin .copy,args := #[d,s],argTypes := #[t,t] }) (ht : P.underlying t=some (.slice e)) {z : Value} {bytes : Nat} (hinfo : (P.info? e).map (fun i=>(i.zero,i.size,i.bytes))=some (some z,1,bytes))
  (v : Value) (xs ys : List Int) (A : Option Addr) (m c : Nat) (ok : Nat→Prop) (hd : a.eval d=v) (hs : a.eval s=.slice A m c)
  (HO : (Kd.int k).R e W base ok v xs) (HR : (Kd.int k).C W A m ys) (HB : Below base w0 W)
  (h : ∀ w1,(Kd.int k).R e w1 base ok v (ys.take xs.length ++ xs.drop ys.length)→Below base w0 w1→wpList P ops Q rest (a.put o.dst (goInt ((min m xs.length : Nat) : Int))) w1) :
  wpList P ops Q (o :: rest) a W:=by
 have hm : ys.length=m:=HR.1
 have hsz : (P.info? e).map (·.size)=some 1:=by
  obtain ⟨i0,hi,hz⟩:=Option.map_eq_some_iff.1 hinfo
  simp only [zN] at hz
  rw [hi,Option.map_some,hz.2.1]
 rcases cpack_Write.intRow HO with ⟨rfl,rfl⟩ | ⟨g,cap,cur,rfl,hok,hbg,hh,hnc,hcm,hcs,htk⟩
 ·
  refine wpList_copy_nothing hgd d s t t ho e ht hsz none A 0 0 m c hd hs (by simp) ?_
  have:=h W (by simpa using HO) HB
  simpa using this
 have hl : (ys.take xs.length).length=min m xs.length:=by simp [List.length_take,hm,Nat.min_comm]
 refine wpList_copy_splice hgd d s t t ho e ht hsz _ A xs.length cap m c hd hs g 0 cur.toList e (by simpa using hh) ((ys.take xs.length).map (Value.int k)) (by rw [List.length_map,hl]) (fun hp=>⟨rfl, ?_⟩) (by rw [List.length_map,hl];have : cur.toList.length=cap:=(by simpa using hcs);omega) (fun v hv=>by obtain ⟨x,_,rfl⟩:=List.mem_map.1 hv;rfl) base w0 HB hbg (fun w1 hg1 hb1 => ?_)
 ·
  rw [List.length_map,hl] at hp
  obtain ⟨ad,rfl,hc⟩:=HR.2.2 (by omega)
  refine ⟨ad,rfl,fun j v hj => ?_⟩
  rw [List.getElem?_map,List.getElem?_take] at hj
  split at hj
  ·
   rcases hy : ys[j]? with _|y
   ·
    rw [hy] at hj;simp at hj
   rw [hy] at hj
   simp only [Option.map_some,zM] at hj
   subst hj
   obtain ⟨cs,hcl,hcr,hcc⟩:=hc j y hy
   have hcr : cs = [Value.int k y]:=hcr
   subst hcr
   have:=hcc 0 _ rfl
   have h1 : (Kd.int k).sz=1:=rfl
   rwa [h1,Nat.mul_one,Nat.add_zero] at this
  simp at hj
 have hlen : (ys.take xs.length ++ xs.drop ys.length).length=xs.length:=by
  rw [List.length_append,List.length_drop,List.length_take];omega
 have hR : (Kd.int k).R e w1 base ok (.slice (some ⟨g,0,none⟩) (ys.take xs.length ++ xs.drop ys.length).length cap) (ys.take xs.length ++ xs.drop ys.length):=by
  refine cpack_Write.rowInt hok hbg hg1 (by omega) hcm ?_ ?_
  ·
   have:=length_splice cur.toList 0 ((ys.take xs.length).map (Value.int k)) (by rw [List.length_map,hl];have : cur.toList.length=cap:=(by simpa using hcs);omega)
   simp only [List.size_toArray,this]
   simpa using hcs
  rw [hlen]
  simp only [splice,List.take_zero,List.nil_append,List.length_map,Nat.zero_add,List.map_append]
  have hcur : cur.toList=xs.map (Value.int k) ++ cur.toList.drop xs.length:=by rw [← htk,List.take_append_drop]
  have h2 : (cur.toList.drop (ys.take xs.length).length)=(xs.drop (ys.take xs.length).length).map (Value.int k) ++ cur.toList.drop xs.length:=by
   conv=>lhs;rw [hcur]
   rw [List.drop_append_of_le_length (by rw [List.length_map,hl];omega),List.map_drop]
  rw [h2, ← List.append_assoc,List.take_append_of_le_length (by rw [List.length_append,List.length_map,List.length_map,List.length_drop];omega),List.take_of_length_le (by rw [List.length_append,List.length_map,List.length_map,List.length_drop];omega)]
  congr 2
  rcases Nat.le_total ys.length xs.length with h3|h3
  ·
   rw [List.length_take,Nat.min_eq_right h3]
  rw [List.length_take,Nat.min_eq_left h3,List.drop_eq_nil_of_le (zX _),List.drop_eq_nil_of_le h3]
 rw [hlen] at hR
 have:=h w1 hR hb1
 rwa [← hl, ← List.length_map (f:=Value.int k)] at this
mutual
def cpack_Write.j0 : Nat→Int→Int→List (List Int)→Bool→Bool→List (List Int)→List (List (List Int))→Option (List Int × Int)
 | 0,_,_,_,_,_,_,_=>none
 | k+1,x0,x1,x3,x41,aQ,aH,aT=>if x41=true then (some (([] : List Int),1)) else (if aQ=true then (cpack_Write.j1 k x0 x1 x3 1 aQ aH aT) else (cpack_Write.j1 k x0 x1 x3 0 aQ aH aT))
def cpack_Write.j1 : Nat→Int→Int→List (List Int)→Int→Bool→List (List Int)→List (List (List Int))→Option (List Int × Int)
 | 0,_,_,_,_,_,_,_=>none
 | k+1,x0,x1,x3,x10,aQ,aH,aT=>(coder_New.f).bind fun bK=>((coder_Put.f k bK.1 bK.2.1 bK.2.2 x10 (wrap64 (x10+1)) 2).bind fun bL=>(cpack_Write.l0 k x0 x1 x3 aH (aH.length : Int) 0 aQ aH aT bL.1 bL.2.1 bL.2.2.1))
def cpack_Write.l0 : Nat→Int→Int→List (List Int)→List (List Int)→Int→Int→Bool→List (List Int)→List (List (List Int))→Int→Int→List Int→Option (List Int × Int)
 | 0,_,_,_,_,_,_,_,_,_,_,_,_=>none
 | k+1,x0,x1,x3,x53,x54,x55,aQ,aH,aT,aI,aJ,aK=>if x55 < x54 then (if 0≤x55 then (if x55 < (x53.length : Int) then ((cpack_of.f x3 x55).bind fun bM=>((gain_Put.f k aI aJ aK (rd_L1 x53 x55) bM aQ).bind fun bN=>(cpack_Write.l0 k x0 x1 x3 x53 x54 (wrap64 (x55+1)) aQ aH aT bN.1 bN.2.1 bN.2.2.1))) else (none)) else (none)) else ((alloc_Pulses.f k x0 x1 aH).bind fun dl=>(cpack_Write.l1 k x0 dl.1 aT (aT.length : Int) 0 aI aJ aK))
def cpack_Write.l1 : Nat→Int→List (List Int)→List (List (List Int))→Int→Int→Int→Int→List Int→Option (List Int × Int)
 | 0,_,_,_,_,_,_,_,_=>none
 | k+1,x0,x15,x81,x82,x83,aI,aJ,aK=>if x83 < x82 then (if 0≤x83 then (if x83 < (x81.length : Int) then (cpack_Write.l2 k x0 x15 x83 x81 x82 x83 (rd_L2 x81 x83) ((rd_L2 x81 x83).length : Int) 0 aI aJ aK) else (none)) else (none)) else (if 0≤x0 then (if (x0 : Int).toNat≤281474976710656 then ((some (List.replicate (x0 : Int).toNat 0 : List Int)).bind fun bo=>((coder_Finish.f aI aJ aK).bind fun bi=>(some ((bi.take bo.length ++ bo.drop bi.length),0)))) else (none)) else (none))
def cpack_Write.l2 : Nat→Int→List (List Int)→Int→List (List (List Int))→Int→Int→List (List Int)→Int→Int→Int→Int→List Int→Option (List Int × Int)
 | 0,_,_,_,_,_,_,_,_,_,_,_,_=>none
 | k+1,x0,x15,x17,x81,x82,x83,x88,x89,x90,aI,aJ,aK=>if x90 < x89 then (if 0≤x90 then (if x90 < (x88.length : Int) then (if 0≤x17 then (if x17 < (x15.length : Int) then (if x90 < ((rd_L1 x15 x17).length : Int) then (if (rd (rd_L1 x15 x17) x90)=0 then (cpack_Write.l2 k x0 x15 x17 x81 x82 x83 x88 x89 (wrap64 (x90+1)) aI aJ aK) else ((band_Width.f x90).bind fun bO=>((comb_Count.f bO (rd (rd_L1 x15 x17) x90)).bind fun dm=>((comb_Index.f k (rd_L1 x88 x90)).bind fun dp=>((coder_PutNum.f k aI aJ aK dp.1 dm.1).bind fun bP=>(cpack_Write.l2 k x0 x15 x17 x81 x82 x83 x88 x89 (wrap64 (x90+1)) bP.1 bP.2.1 bP.2.2.1)))))) else (none)) else (none)) else (none)) else (none)) else (none)) else (cpack_Write.l1 k x0 x15 x81 x82 (wrap64 (x83+1)) aI aJ aK)
end
def cpack_Write.f (k : Nat) (a0 : Int) (a1 : Int) (aM : Bool) (al : List (List Int)) (aj : List (List (List Int))) (l3 : List (List Int)) : Option (List Int × Int):=(cpack_Right.f k a0 a1 aM al aj).bind fun cQ=>(if cQ=true then (if aM=true then (cpack_Write.j0 k a0 a1 l3 false aM al aj) else ((cpack_gains.f k a1 l3).bind fun bW=>(cpack_Write.j0 k a0 a1 l3 (!bW) aM al aj))) else (cpack_Write.j0 k a0 a1 l3 true aM al aj))
theorem cpack_Write.mono_l : ∀ k,(∀ y0 y1 y2 y3 y4 y5 y6,LeO (cpack_Write.j0 k y0 y1 y2 y3 y4 y5 y6) (cpack_Write.j0 (k+1) y0 y1 y2 y3 y4 y5 y6))∧(∀ y0 y1 y2 y3 y4 y5 y6,LeO (cpack_Write.j1 k y0 y1 y2 y3 y4 y5 y6) (cpack_Write.j1 (k+1) y0 y1 y2 y3 y4 y5 y6))∧(∀ y0 y1 y2 y3 y4 y5 y6 y7 y8 y9 y10 y11,LeO (cpack_Write.l0 k y0 y1 y2 y3 y4 y5 y6 y7 y8 y9 y10 y11) (cpack_Write.l0 (k+1) y0 y1 y2 y3 y4 y5 y6 y7 y8 y9 y10 y11))∧(∀ y0 y1 y2 y3 y4 y5 y6 y7,LeO (cpack_Write.l1 k y0 y1 y2 y3 y4 y5 y6 y7) (cpack_Write.l1 (k+1) y0 y1 y2 y3 y4 y5 y6 y7))∧(∀ y0 y1 y2 y3 y4 y5 y6 y7 y8 y9 y10 y11,LeO (cpack_Write.l2 k y0 y1 y2 y3 y4 y5 y6 y7 y8 y9 y10 y11) (cpack_Write.l2 (k+1) y0 y1 y2 y3 y4 y5 y6 y7 y8 y9 y10 y11))
 | 0=>⟨fun _ _ _ _ _ _ _ r h=>by simp [cpack_Write.j0] at h,fun _ _ _ _ _ _ _ r h=>by simp [cpack_Write.j1] at h,fun _ _ _ _ _ _ _ _ _ _ _ _ r h=>by simp [cpack_Write.l0] at h,fun _ _ _ _ _ _ _ _ r h=>by simp [cpack_Write.l1] at h,fun _ _ _ _ _ _ _ _ _ _ _ _ r h=>by simp [cpack_Write.l2] at h⟩
 | k+1=>by
  obtain ⟨ih0,ih1,ih2,ih3,ih4⟩:=cpack_Write.mono_l k
  have i0:=@alloc_Pulses.mono;have i1:=@coder_Put.mono;have i2:=@coder_PutNum.mono;have i3:=@comb_Index.mono;have i4:=@cpack_Right.mono;have i5:=@cpack_gains.mono;have i6:=@gain_Put.mono
  refine ⟨?_, ?_, ?_, ?_, ?_⟩
  ·
   intro y0 y1 y2 y3 y4 y5 y6
   unfold cpack_Write.j0
   exact yLm
  ·
   intro y0 y1 y2 y3 y4 y5 y6
   unfold cpack_Write.j1
   exact yLm
  ·
   intro y0 y1 y2 y3 y4 y5 y6 y7 y8 y9 y10 y11
   unfold cpack_Write.l0
   exact yLm
  ·
   intro y0 y1 y2 y3 y4 y5 y6 y7
   unfold cpack_Write.l1
   exact yLm
  intro y0 y1 y2 y3 y4 y5 y6 y7 y8 y9 y10 y11
  unfold cpack_Write.l2
  exact yLm
theorem cpack_Write.mono : ∀ a0 a1 a2 a3 a4 a5 k,LeO (cpack_Write.f k a0 a1 a2 a3 a4 a5) (cpack_Write.f (k+1) a0 a1 a2 a3 a4 a5):=by
 intro a0 a1 a2 a3 a4 a5 k
 obtain ⟨ih0,ih1,ih2,ih3,ih4⟩:=cpack_Write.mono_l k
 have i0:=@alloc_Pulses.mono;have i1:=@coder_Put.mono;have i2:=@coder_PutNum.mono;have i3:=@comb_Index.mono;have i4:=@cpack_Right.mono;have i5:=@cpack_gains.mono;have i6:=@gain_Put.mono
 unfold cpack_Write.f
 exact yLm
def cpack_Write.T10 : Bool × List (List Nat × List Nat):=(true, [([], []),([], []),([], []),([], []),([2,3], [2,3]),([], []),([5], [5]),([0,1,4,6,4], [0,1,4,6]),([7], [7]),([8], [8]),([8], [8]),([9,7,0,1,2,3,4,5,6,7,8,9], [9])])
def cpack_Write.B10 : List Nat := [0,0,0,0,12,0,32,127,255,511,511,1023]
theorem cpack_Write.tab10 : rtab .any (opsOf Try.f12 10)=cpack_Write.T10:=by kernel_rfl
theorem cpack_Write.bits10 : waitsOk cpack_Write.T10.2 cpack_Write.B10=true:=by kernel_rfl
def cpack_Write.T20 : Bool × List (List Nat × List Nat):=(true, [([], []),([0], [0]),([], []),([], []),([2,3], [2,3]),([4], [4]),([], []),([5,6], [5,6]),([7], [7]),([1,8,1], [1,8]),([9], [9]),([10], [10]),([10], [10]),([11,9,0,1,2,3,4,5,6,7,8,9,10,11], [11]),([12,13,0,1,2,3,4,5,6,7,8,9,10,11,12,13], [12])])
def cpack_Write.B20 : List Nat := [0,1,0,0,12,28,0,124,252,511,1023,2047,2047,4095,16383]
theorem cpack_Write.tab20 : rtab .any (opsOf Try.f12 20)=cpack_Write.T20:=by kernel_rfl
theorem cpack_Write.bits20 : waitsOk cpack_Write.T20.2 cpack_Write.B20=true:=by kernel_rfl
theorem cpack_Write.calls (k : Nat) (a0 : Int) (a1 : Int) (aM : Bool) (bc : Option Addr) (ba : Nat) (al : List (List Int)) (bf : Option Addr) (bd : Nat) (aj : List (List (List Int))) (A3 : Option Addr) (c3 : Nat) (l3 : List (List Int)) (r1 : List Int) (r2 : Int) (w : World) (hr2_1 : Kd.C (Kd.slice 3 (Kd.int .i64)) w bc al.length al) (hc2_1 : al.length≤ba) (hr2_2 : Kd.C (Kd.slice 49 (Kd.slice 3 (Kd.int .i64))) w bf aj.length aj) (hc2_2 : aj.length≤bd) (hr3 : Kd.C (Kd.slice 3 (Kd.int .i64)) w A3 l3.length l3) (hc3 : l3.length≤c3) (h : cpack_Write.f k a0 a1 aM al aj l3=some (r1,r2)) :
  Calls Try.prog 12 #[.int .i64 a0, .int .i64 a1, .agg #[.bool aM, .slice bc al.length ba, .slice bf aj.length bd], .slice A3 l3.length c3] w fun e w' => ∃ v0_ : Value,e=.returned (.tuple #[v0_, .int .i64 r2])∧Kd.R (Kd.int .u8) 5 w' w.heap.size (fun _=>True) v0_ r1∧Below w.heap.size w w' := by
 have hu25:=Try.underlying25;have hu54:=Try.underlying54;have bp:=zm hr2_1;have bs:=zm hc2_1;clear hr2_1 hc2_1;have bu:=zm hr2_2;have bQ:=zm hc2_2;clear hr2_2 hc2_2;have HR3:=zm hr3;have HC3:=zm hc3;clear hr3 hc3;have HB:=zm (zY w.heap.size w);have H:=h
 unfold cpack_Write.f at H
 clear h;have HC5:=zm H;clear H
 go_enter Try.func12,Try.ntmps12
 go_upto_region 1 with (first|((with_reducible refine zL (N:=6) rfl ?_);refine ybx 6 #[.bool aM, .slice bc al.length ba, .slice bf aj.length bd] 25 ?_;intro aU hg w6 hbox hb;have ac:=zm (hbox);have eI:=ygw hg;have eJ:=ygw hg;replace HB:=ybs hb;clear hb hbox hg))
 (try simp only [Act.put,za9,zb0,zb1])
 go_cut [41] (fun v41 wc => ∃ (kq : Nat) (bv : Bool),v41=.bool bv∧Aside0 (cpack_Write.j0 kq a0 a1 l3 bv aM al aj=some (r1,r2))∧Aside0 (kq≤k)∧Aside0 (wc.heap[aU]? = some (.cells #[.bool aM,(.slice bc al.length ba),(.slice bf aj.length bd)] 25 (0,0)))∧Aside0 (Below w.heap.size w wc))
 case first =>
  have H:=HC5.out;clear HC5
  obtain ⟨cQ,A7,H⟩:=ybi H
  by_cases c8 : cQ=true
  ·
   subst c8
   rw [za4 rfl] at H
   by_cases c9 : aM=true
   ·
    subst c9
    rw [za4 rfl] at H
    have H' := zm H
    clear H
    obtain ⟨_,_,_,_,_,_⟩:=yc3 ac
    go_wp2_with (first|((with_reducible refine zK (f:=15) rfl ?_);refine ygl 29 Try.func15 #[.int .i64 a0, .int .i64 a1, .agg #[.bool true, .slice bc al.length ba, .slice bf aj.length bd]] ?_;(with_reducible refine (cpack_Right.calls k a0 a1 true _ _ al _ _ aj true _ ?am bs.out ?bg bQ.out A7.out).mono ?_);(case am=>exact ycb bp);(case bg=>exact ycb bu);rintro e w11 ⟨rfl,hb⟩;refine ⟨_,rfl, ?_⟩;replace ac:=ybb ac hb;replace HB:=ybs hb;(try clear hb);obtain ⟨_,_,_,_,_,_⟩:=yc3 ac))
    go_meet
    case rel=>exact ⟨_,(false),yq,H',⟨yo⟩,⟨yk ac⟩,⟨yhb⟩⟩
   replace c9:=za3.mpr c9
   subst c9
   rw [ynf] at H
   obtain ⟨bW,A13,H⟩:=ybi H
   have H' := zm H
   clear H
   obtain ⟨_,_,_,_,_,_⟩:=yc3 ac
   go_wp2_with (first|((with_reducible refine zK (f:=15) rfl ?_);refine ygl 29 Try.func15 #[.int .i64 a0, .int .i64 a1, .agg #[.bool false, .slice bc al.length ba, .slice bf aj.length bd]] ?_;(with_reducible refine (cpack_Right.calls k a0 a1 false _ _ al _ _ aj true _ ?am bs.out ?bg bQ.out A7.out).mono ?_);(case am=>exact ycb bp);(case bg=>exact ycb bu);rintro e w15 ⟨rfl,hb⟩;refine ⟨_,rfl, ?_⟩;replace ac:=ybb ac hb;replace HB:=ybs hb;(try clear hb);obtain ⟨_,_,_,_,_,_⟩:=yc3 ac)|(go_at_call 25;(with_reducible refine (cpack_gains.calls k a1 _ _ l3 bW _ ?am HC3.out A13.out).mono ?_);(case am=>exact ycb HR3);rintro e w' ⟨rfl,⟨nd,rfl⟩⟩))
   go_meet
   case rel=>exact ⟨_,(!bW),yq,H',⟨yo⟩,⟨yk ac⟩,⟨yhb⟩⟩
  replace c8:=za3.mpr c8
  subst c8
  rw [ynf] at H
  have H' := zm H
  clear H
  obtain ⟨_,_,_,_,_,_⟩:=yc3 ac
  go_wp2_with (first|((with_reducible refine zK (f:=15) rfl ?_);refine ygl 29 Try.func15 #[.int .i64 a0, .int .i64 a1, .agg #[.bool aM, .slice bc al.length ba, .slice bf aj.length bd]] ?_;(with_reducible refine (cpack_Right.calls k a0 a1 aM _ _ al _ _ aj false _ ?am bs.out ?bg bQ.out A7.out).mono ?_);(case am=>exact ycb bp);(case bg=>exact ycb bu);rintro e w18 ⟨rfl,hb⟩;refine ⟨_,rfl, ?_⟩;replace ac:=ybb ac hb;replace HB:=ybs hb;(try clear hb)))
  go_meet
  case rel=>exact ⟨_,(true),yq,H',⟨yo⟩,⟨yk ac⟩,⟨yhb⟩⟩
 case rest =>
  clear HC5
  try clear c3
  obtain ⟨kq,bv,rfl,HA,HJ4,ac,HB⟩:=hcut
  obtain ⟨kj4,rfl⟩:=ysu kq (fun h=>by subst h;exact absurd HA.out (by simp [cpack_Write.j0]))
  have H:=HA.out;clear HA
  simp only [cpack_Write.j0] at H
  by_cases c19 : bv=true
  ·
   subst c19
   rw [za4 rfl] at H
   simp only [zM,zN] at H
   obtain ⟨rfl,rfl⟩:=H
   go_wp2
   go_ret2
   exact ⟨_,ye,yn,yhb⟩
  replace c19:=za3.mpr c19
  subst c19
  rw [ynf] at H
  have cR:=zm H;clear H
  obtain ⟨bX,bY,bZ,b4,b5,b6⟩:=yc3 ac
  go_upto_if 43 with (fail)
  go_cut [10] (fun v10 wc => ∃ (kq : Nat) (aX : Int),v10=.int .i64 aX∧Aside0 (cpack_Write.j1 kq a0 a1 l3 aX aM al aj=some (r1,r2))∧Aside0 (kq≤kj4)∧Aside0 (wc.heap[aU]? = some (.cells #[.bool aM,(.slice bc al.length ba),(.slice bf aj.length bd)] 25 (0,0)))∧Aside0 (Below w.heap.size w wc))
  case first =>
   have H:=cR.out;clear cR
   by_cases c22 : aM=true
   ·
    subst c22
    rw [za4 rfl] at H
    have H' := zm H
    clear H
    go_wp2
    go_meet
    case rel=>exact ⟨_,(1),yq,H',⟨yom1 HJ4⟩,⟨yk ac⟩,⟨yhb⟩⟩
   replace c22:=za3.mpr c22
   subst c22
   rw [ynf] at H
   have H' := zm H
   clear H
   go_wp2
   go_meet
   case rel=>exact ⟨_,(0),yq,H',⟨yom1 HJ4⟩,⟨yk ac⟩,⟨yhb⟩⟩
  case rest =>
   clear cR
   try clear bX
   try clear bY
   try clear bZ
   try clear b4
   try clear b5
   try clear b6
   obtain ⟨kq,aX,rfl,HA,bq,ac,HB⟩:=hcut
   obtain ⟨cS,rfl⟩:=ysu kq (fun h=>by subst h;exact absurd HA.out (by simp [cpack_Write.j1]))
   have H:=HA.out;clear HA
   simp only [cpack_Write.j1] at H
   obtain ⟨⟨cT,cU,cV⟩,A23,H⟩:=ybi H
   try dsimp only at H
   obtain ⟨⟨cW,cX,b7,dV⟩,A24,H⟩:=ybi H
   try dsimp only at H
   have H' := zm H
   clear H
   go_wp2_with (first|((with_reducible refine zK (f:=27) rfl ?_);refine ygl 45 Try.func27 #[] ?_;(with_reducible refine (coder_New.calls  cT cU cV _ A23.out).mono ?_);rintro e w25 ⟨eV,rfl,ho0,hb⟩;refine ⟨_,rfl, ?_⟩;have bb:=zm (za0 ho0 (zE yhb));replace ac:=ybb ac hb;replace HB:=ybs hb;(try clear hb);(try clear ho0);obtain ⟨dW,dX,dY⟩:=zT bb.out;subst dY)|((with_reducible refine zK (f:=26) rfl ?_);refine ygl 49 Try.func26 #[.agg #[.int .u64 cT, .int .u32 cU, .slice dW cV.length dX], .int .i64 aX, .int .i64 (wrap64 (aX+1)), .int .i64 2] ?_;(with_reducible refine (coder_Put.calls cS cT cU _ _ cV aX (wrap64 (aX+1)) 2 cW cX b7 dV _ ?am ?bh A24.out).mono ?_);(case am=>exact yce (zQ bb.out).2.2);(case bh=>exact (zQ bb.out).2.1);rintro e w27 ⟨eW,rfl,ho0,hb⟩;refine ⟨_,rfl, ?_⟩;have bw:=zm (za0 (Kd.R_new' ho0 (Kd.R_lt (yr bb))) (zE yhb));replace bb:=zm (za6 (yr bb) (zW ho0) hb);replace ac:=ybb ac hb;replace HB:=ybs hb;(try clear hb);(try clear ho0))|((with_reducible refine zL (N:=11) rfl ?_);refine ybx 11 #[.int .u64 0, .int .u32 0, .slice none 0 0] 54 ?_;intro ao hg w28 hbox hb;replace bb:=yRb bb hb;replace bw:=yRb bw hb;have ae:=zm (hbox);have eK:=ygw hg;have eL:=ygw hg;replace HB:=ybs hb;have av:=ynl ac hg;have aw:=yng ac hg;replace ac:=ybb ac hb;clear hb hbox hg;have:=aw.out;have:=av.out;obtain ⟨b8,b9,ca,cb,cf,cg⟩:=yc3 ae;obtain ⟨dq,dr,dZ⟩:=zT bw.out;subst dZ;obtain ⟨ch,ci,cj,ck,cl,cm⟩:=yc3 ac))
   go_loopg [55] cS (fun kq v55 w' => ∃ (aW : Int) (aq : Int) (au : Int) (ax : List Int) (ah : Value),v55=.int .i64 aW∧Aside0 (cpack_Write.l0 kq a0 a1 l3 al (al.length : Int) aW aM al aj aq au ax=some (r1,r2))∧Aside0 (kq≤cS)∧Aside0 (Kd.V (Kd.int .u8) 5 w' w.heap.size (fun k_=>k_≠aU∧k_≠ao) ah ax)∧Aside0 (w'.heap[aU]? = some (.cells #[.bool aM,(.slice bc al.length ba),(.slice bf aj.length bd)] 25 (0,0)))∧Aside0 (w'.heap[ao]? = some (.cells #[.int .u64 aq, .int .u32 au,ah] 54 (0,0)))∧Aside0 (Below w.heap.size w w'))
   case atStart=>exact ⟨(0),(cW),(cX),(b7),(.slice dq b7.length dr),yq,H',⟨zX _⟩,⟨Kd.R_V (by (with_reducible repeat (first|apply zo|apply zp|apply zq));exact zG (zH (p:=⟨ao,2,none⟩) (zH (p:=⟨ao,1,none⟩) (zH (p:=⟨ao,0,none⟩) (Kd.R_types (Kd.R_types (Kd.R_types bw.out ac.out (by decide)) ae.out (by decide)) ae.out (by decide)) (fun _ hk=>hk.2) (.int .u64 cW)) (fun _ hk=>hk.2) (.int .u32 cX)) (fun _ hk=>hk.2) (.slice dq b7.length dr)) (fun _ hk=>⟨hk.1.1.2,hk.1.2⟩))⟩,⟨yk ac⟩,⟨ykp ae⟩,⟨yhb⟩⟩
   case round =>
    clear H'
    try clear b8
    try clear b9
    try clear ca
    try clear ch
    try clear ci
    try clear cj
    try clear cb
    try clear cf
    try clear cg
    try clear ck
    try clear cl
    try clear cm
    obtain ⟨aW,aq,au,ax,ah,rfl,HA,HK3,aa,ac,ae,HB⟩:=hrel
    obtain ⟨k3,rfl⟩:=ysu gk (fun h=>by subst h;exact absurd HA.out (by simp [cpack_Write.l0]))
    have H:=HA.out;clear HA
    simp only [cpack_Write.l0] at H
    replace H:=yId H
    obtain ⟨cJ,H⟩ | ⟨cJ,H⟩:=H
    ·
     obtain ⟨c34,H⟩:=yif H
     have dt : decide (0≤aW)=true:=decide_eq_true c34
     clear c34
     obtain ⟨c35,H⟩:=yif H
     have du : decide (aW < (al.length : Int))=true:=decide_eq_true c35
     clear c35
     obtain ⟨bM,A36,H⟩:=ybi H
     obtain ⟨⟨dv,dw,cY,d5⟩,A37,H⟩:=ybi H
     try dsimp only at H
     have H' := zm H
     clear H
     obtain ⟨⟨dx,cZ,da,d6,bj,bx,bz⟩,d7,d8⟩:=yat (at_L1 bp.out aW)
     cases d6
     replace bj:=yhx HB bj
     have cn:=zm bz;have co:=zm bx;clear bz bx
     try go_wp2
     replace aa:=zm (zC aa.out)
     replace ac:=zm (zj ac.out)
     replace ae:=zm (zj ae.out)
     replace HB:=zm (zf HB.out)
     refine yst (fun w' => w'.cell? ⟨ao,0,none⟩=some (.int .u64 aq)∧w'.cell? ⟨ao,1,none⟩=some (.int .u32 au)∧w'.cell? ⟨ao,2,none⟩=some (ah)∧w'.cell? ⟨aU,0,none⟩=some (.bool aM)∧w'.cell? ⟨aU,1,none⟩=some (.slice (some dx) al.length ba)∧w'.cell? ⟨aU,2,none⟩=some (.slice bf aj.length bd)) [11] 12 cpack_Write.tab10 cpack_Write.bits10 (fun hHeld HT_ HW_ => ?_)
     generalize wr.drew=w38 at aa ac ae HB hHeld ⊢
     refine yp 1 62 HT_ ?_
     refine yp 2 63 HT_ ?_
     refine yp 3 64 HT_ ?_
     refine yp 5 66 HT_ ?_
     refine yl 0 61 HT_ HW_ hHeld ?_
     refine yl 6 67 HT_ HW_ hHeld ?_
     refine yw 4 65 HT_ (fun K hK => ?_)
     refine ygs Try.func29 #[.slice A3 l3.length c3, .int .i64 aW] ?_
     with_reducible refine (cpack_of.calls (fun k_=>k_ < w.heap.size) _ _ l3 aW bM _ ?am A36.out).mono ?_
     (case am=>exact Kd.V_mk HC3.out (Kd.F_below (Kd.C_F (Kd.heap_slice 3 (Kd.heap_int .i64)) HR3.out) yhb))
     rintro e w39 ⟨eX,rfl,ho0,hb⟩
     refine ⟨_,rfl, ?_⟩
     replace aa:=yVb aa hb
     have br:=yho (fun k_=>k_≠aU∧k_≠ao) ho0 (fun k_ hk_=>⟨yoB ac hk_,yoB ae hk_⟩)
     replace ac:=ybb ac hb
     replace ae:=ybb ae hb
     replace HB:=ybs hb
     (try clear hb)
     (try clear ho0)
     obtain ⟨dy,dz,dA⟩:=zU aa.out
     (first|subst dA|(injection dA with f1_ f2_ f3_;have f4_:=f1_.symm;have f5_:=f3_.symm;clear f1_ f2_ f3_;subst f4_;subst f5_))
     obtain ⟨d9,ea,dB⟩:=zU br.out
     (first|subst dB|(injection dB with f1_ f2_ f3_;have f4_:=f1_.symm;have f5_:=f3_.symm;clear f1_ f2_ f3_;subst f4_;subst f5_))
     refine hK.out _ _ yH (fun hHeld => ?_)
     clear hK K
     refine ym (some 65) ?_
     refine yw 7 68 HT_ (fun K hK => ?_)
     refine ygs Try.func28 #[.agg #[.int .u64 aq, .int .u32 au, .slice dy ax.length dz], .slice cZ (rd_L1 al aW).length da, .slice d9 bM.length ea, .bool aM] ?_
     with_reducible refine (gain_Put.calls k3 aq au (fun k_=>(k_≠aU∧k_≠ao)) _ _ ax _ _ (rd_L1 al aW) _ _ bM aM dv dw cY d5 _ ?am ?bh ?bg ?dC ?dD A37.out).mono ?_
     (case am=>exact aa.out)
     (case bh=>exact ycb cn)
     (case bg=>exact co.out)
     (case dC=>exact yce (zR br.out).2.2)
     (case dD=>exact (zR br.out).2.1)
     rintro e w42 ⟨eY,rfl,ho0,hb⟩
     refine ⟨_,rfl, ?_⟩
     replace aa:=yVb aa hb
     replace br:=yVb br hb
     have cK:=yho (fun k_=>k_≠aU∧k_≠ao) ho0 (fun k_ hk_=>⟨yoB ac hk_,yoB ae hk_⟩)
     replace ac:=ybb ac hb
     replace ae:=ybb ae hb
     replace HB:=ybs hb
     (try clear hb)
     (try clear ho0)
     obtain ⟨eb,ec,dE⟩:=zU cK.out
     (first|subst dE|(injection dE with f1_ f2_ f3_;have f4_:=f1_.symm;have f5_:=f3_.symm;clear f1_ f2_ f3_;subst f4_;subst f5_))
     refine hK.out _ _ yH (fun hHeld => ?_)
     clear hK K
     refine ym (some 68) ?_
     refine yp 8 60 HT_ ?_
     refine yp 9 69 HT_ ?_
     refine yp 10 70 HT_ ?_
     refine last_ (i:=11) (N:=none) #[true,true,true,true,true,true,true,true,true,true,true,true] rfl rfl (one_of HT_.out (by kernel_rfl)) (by decide) (fun K hK => ?_)
     have eZ : w42.cell? ⟨ao,0,none⟩=some (.int .u64 aq):=(zs ae.out 0).trans rfl
     have hfs43:=zx ae.out 0
     have:=av.out
     have:=aw.out
     have e8 : w42.cell? ⟨ao,1,none⟩=some (.int .u32 au):=(zs ae.out 1).trans rfl
     have hfs44:=zx ae.out 1
     have:=av.out
     have:=aw.out
     have e9 : w42.cell? ⟨ao,2,none⟩=some (.slice dy ax.length dz):=(zs ae.out 2).trans rfl
     have hfs46:=zx ae.out 2
     have:=av.out
     have:=aw.out
     refine skip_ (w1 := ?_) (by rfl) rfl ?_ ?_
     rotate_left
     ·
      go_simp
      rfl
     refine hK.out _ _ ?_
     clear hK K
     refine done_ (done_of HT_.out (by kernel_rfl)) ?_
     try go_wp2
     go_roundg k3
     case measure=>exact yom3 HJ4 bq HK3
     case rel=>exact ⟨(wrap64 (aW+1)),(dv),(dw),(cY),(.slice eb cY.length ec),yq,H',⟨yom3 HJ4 bq HK3⟩,⟨yV0 cK⟩,⟨yk ac⟩,⟨ykp ae⟩,⟨yhb⟩⟩
    obtain ⟨⟨aV,ed⟩,A47,H⟩:=ybi H
    try dsimp only at H
    have H' := zm H
    clear H
    have:=av.out
    have:=aw.out
    obtain ⟨cp,cq,cr,ct,cu,cv⟩:=yc3 ac
    go_wp2_with (first|((with_reducible refine zK (f:=30) rfl ?_);refine ygl 77 Try.func30 #[.int .i64 a0, .int .i64 a1, .slice bc al.length ba] ?_;(with_reducible refine (alloc_Pulses.calls k3 a0 a1 _ _ al aV ed _ ?am bs.out A47.out).mono ?_);(case am=>exact ycb bp);rintro e w50 ⟨cw,rfl,ho0,hb⟩;refine ⟨_,rfl, ?_⟩;replace aa:=zm (za7 (yr aa) (Kd.S_base ho0) hb);have dF:=zm (Kd.S_lower ho0 (zE yhb));replace ac:=ybb ac hb;replace ae:=ybb ae hb;replace HB:=ybs hb;(try clear hb);(try clear ho0);obtain ⟨cx,cy,cz,cA,cB,cC⟩:=yc3 ac))
    go_loopg [83] k3 (fun kq v83 w' => ∃ (af : Int) (ay : Int) (az : Int) (aA : List Int) (ah : Value),v83=.int .i64 af∧Aside0 (cpack_Write.l1 kq a0 aV aj (aj.length : Int) af ay az aA=some (r1,r2))∧Aside0 (kq≤k3)∧Aside0 (Kd.S (Kd.slice 3 (Kd.int .i64)) 49 w' w.heap.size (fun _=>True) cw aV)∧Aside0 (Kd.V (Kd.int .u8) 5 w' w.heap.size (fun k_=>some k_≠(cw : Value).ownBlock∧k_≠aU∧k_≠ao) ah aA)∧Aside0 (w'.heap[aU]? = some (.cells #[.bool aM,(.slice bc al.length ba),(.slice bf aj.length bd)] 25 (0,0)))∧Aside0 (w'.heap[ao]? = some (.cells #[.int .u64 ay, .int .u32 az,ah] 54 (0,0)))∧Aside0 (Below w.heap.size w w'))
    case atStart=>exact ⟨(0),(aq),(au),(ax),(ah),yq,H',⟨zX _⟩,⟨yr dF⟩,⟨yV0 aa⟩,⟨yk ac⟩,⟨yk ae⟩,⟨yhb⟩⟩
    case round =>
     clear H'
     try clear c3
     try clear cJ
     try clear dt
     try clear du
     try clear cp
     try clear cq
     try clear cr
     try clear cx
     try clear cy
     try clear cz
     try clear ct
     try clear cu
     try clear cv
     try clear cA
     try clear cB
     try clear cC
     try clear bj
     try clear d7
     try clear d8
     obtain ⟨af,ay,az,aA,ah,rfl,HA,HK4,ag,aa,ac,ae,HB⟩:=hrel
     obtain ⟨k4,rfl⟩:=ysu gk (fun h=>by subst h;exact absurd HA.out (by simp [cpack_Write.l1]))
     have H:=HA.out;clear HA
     simp only [cpack_Write.l1] at H
     replace H:=yId H
     obtain ⟨cL,H⟩ | ⟨cL,H⟩:=H
     ·
      obtain ⟨c53,H⟩:=yif H
      have dG : decide (0≤af)=true:=decide_eq_true c53
      clear c53
      obtain ⟨c54,H⟩:=yif H
      have dH : decide (af < (aj.length : Int))=true:=decide_eq_true c54
      clear c54
      have H' := zm H
      clear H
      obtain ⟨⟨dI,ee,ef,eg,bk,bA,bB⟩,eh,ei⟩:=yat (at_L2 bu.out af)
      cases eg
      replace bk:=yhx HB bk
      have bC:=zm bB;have dT:=zm bA;clear bB bA
      go_wp2
      go_loopg [90] k4 (fun kq v90 w' => ∃ (ak : Int) (aC : Int) (aD : Int) (aE : List Int) (ah : Value),v90=.int .i64 ak∧Aside0 (cpack_Write.l2 kq a0 aV af aj (aj.length : Int) af (rd_L2 aj af) ((rd_L2 aj af).length : Int) ak aC aD aE=some (r1,r2))∧Aside0 (kq≤k4)∧Aside0 (Kd.S (Kd.slice 3 (Kd.int .i64)) 49 w' w.heap.size (fun _=>True) cw aV)∧Aside0 (Kd.V (Kd.int .u8) 5 w' w.heap.size (fun k_=>some k_≠(cw : Value).ownBlock∧k_≠aU∧k_≠ao) ah aE)∧Aside0 (w'.heap[aU]? = some (.cells #[.bool aM,(.slice bc al.length ba),(.slice (some dI) aj.length bd)] 25 (0,0)))∧Aside0 (w'.heap[ao]? = some (.cells #[.int .u64 aC, .int .u32 aD,ah] 54 (0,0)))∧Aside0 (Below w.heap.size w w'))
      case atStart=>exact ⟨(0),(ay),(az),(aA),(ah),yq,H',⟨zX _⟩,⟨yr ag⟩,⟨yr aa⟩,⟨yk ac⟩,⟨yk ae⟩,⟨yhb⟩⟩
      case round =>
       clear H'
       try clear cL
       try clear dG
       try clear dH
       try clear bk
       try clear eh
       try clear ei
       obtain ⟨ak,aC,aD,aE,ah,rfl,HA,HK5,ag,aa,ac,ae,HB⟩:=hrel
       obtain ⟨k5,rfl⟩:=ysu gk (fun h=>by subst h;exact absurd HA.out (by simp [cpack_Write.l2]))
       have H:=HA.out;clear HA
       simp only [cpack_Write.l2] at H
       replace H:=yId H
       obtain ⟨dJ,H⟩ | ⟨dJ,H⟩:=H
       ·
        obtain ⟨c56,H⟩:=yif H
        have eM : decide (0≤ak)=true:=decide_eq_true c56
        clear c56
        obtain ⟨c57,H⟩:=yif H
        have eN : decide (ak < ((rd_L2 aj af).length : Int))=true:=decide_eq_true c57
        clear c57
        obtain ⟨c58,H⟩:=yif H
        have eO : decide (0≤af)=true:=decide_eq_true c58
        clear c58
        obtain ⟨c59,H⟩:=yif H
        have eP : decide (af < (aV.length : Int))=true:=decide_eq_true c59
        clear c59
        obtain ⟨c60,H⟩:=yif H
        have eQ : decide (ak < ((rd_L1 aV af).length : Int))=true:=decide_eq_true c60
        clear c60
        by_cases c61 : (rd (rd_L1 aV af) ak)=0
        ·
         rw [za4 c61] at H
         obtain ⟨dK,dL⟩:=yE c61
         clear c61
         have H' := zm H
         clear H
         obtain ⟨⟨dM,bR,bS,db,aY,aZ,a7⟩,ej,ek⟩:=yat (at_L1 bC.out ak)
         cases db
         replace aY:=yhx HB aY
         have bD:=zm a7;have bE:=zm aZ;clear a7 aZ
         obtain ⟨fa,fb,el⟩:=zV ag.out
         subst el
         have bl : 0≤(af : Int):=yt
         have bm : af < (aV.length : Int):=yt
         obtain ⟨bT,dc,dd,de,bn,a8,a9⟩:=at_L1 (zS ag.out).2.2 af bl bm
         cases de
         obtain ⟨ce340,hce340,hMe340,hcc340⟩:=Kd.S_get ag.out [] af bl (by first|exact bm|exact yt|(have e_:=(zS ag.out).1;omega))
         obtain ⟨ve340_0,rfl,ge340_0⟩:=hMe340
         have hv340_0:=hcc340 0 _ rfl
         rw [Nat.add_zero,show ((Kd.slice 3 (Kd.int .i64))).sz=1 from rfl,Nat.mul_one] at hv340_0
         replace hv340_0:=zO (hv340_0.symm.trans bn)
         rw [hv340_0] at ge340_0
         have ap:=zm (show Kd.R (Kd.int .i64) 3 _ _ _ _ (rd_L1 aV af) from ge340_0)
         clear hv340_0 ge340_0 hcc340 hce340;have ai:=zm a9;have cD:=zm a8;clear a9 a8
         replace bl:=zP bl
         replace bm:=zP bm
         obtain ⟨dN,df,cE,em,en⟩:=yai ai ak
         cases df
         go_wp2
         go_roundg k5
         case measure=>exact yom5 HJ4 bq HK3 HK4 HK5
         case rel=>exact ⟨(wrap64 (ak+1)),(aC),(aD),(aE),(ah),yq,H',⟨yom5 HJ4 bq HK3 HK4 HK5⟩,⟨yr ag⟩,⟨yr aa⟩,⟨yk ac⟩,⟨yk ae⟩,⟨yhb⟩⟩
        rw [za5 c61] at H
        obtain ⟨dK,dL⟩:=yF c61
        obtain ⟨bO,A63,H⟩:=ybi H
        obtain ⟨⟨dg,eo⟩,A64,H⟩:=ybi H
        try dsimp only at H
        obtain ⟨⟨dh,ep⟩,A65,H⟩:=ybi H
        try dsimp only at H
        obtain ⟨⟨di,dj,cF,eq⟩,A66,H⟩:=ybi H
        try dsimp only at H
        have H' := zm H
        clear H
        obtain ⟨⟨dM,bR,bS,db,aY,aZ,a7⟩,ej,ek⟩:=yat (at_L1 bC.out ak)
        cases db
        replace aY:=yhx HB aY
        have bD:=zm a7;have bE:=zm aZ;clear a7 aZ
        obtain ⟨fc,fd,er⟩:=zV ag.out
        subst er
        have bl : 0≤(af : Int):=yt
        have bm : af < (aV.length : Int):=yt
        obtain ⟨bT,dc,dd,de,bn,a8,a9⟩:=at_L1 (zS ag.out).2.2 af bl bm
        cases de
        obtain ⟨ce340,hce340,hMe340,hcc340⟩:=Kd.S_get ag.out [] af bl (by first|exact bm|exact yt|(have e_:=(zS ag.out).1;omega))
        obtain ⟨ve340_0,rfl,ge340_0⟩:=hMe340
        have hv340_0:=hcc340 0 _ rfl
        rw [Nat.add_zero,show ((Kd.slice 3 (Kd.int .i64))).sz=1 from rfl,Nat.mul_one] at hv340_0
        replace hv340_0:=zO (hv340_0.symm.trans bn)
        rw [hv340_0] at ge340_0
        have ap:=zm (show Kd.R (Kd.int .i64) 3 _ _ _ _ (rd_L1 aV af) from ge340_0)
        clear hv340_0 ge340_0 hcc340 hce340;have ai:=zm a9;have cD:=zm a8;clear a9 a8
        replace bl:=zP bl
        replace bm:=zP bm
        obtain ⟨dN,df,cE,em,en⟩:=yai ai ak
        cases df
        try go_wp2
        replace ag:=zm (Kd.S_drew ag.out)
        replace aa:=zm (zC aa.out)
        replace ap:=zm (zq ap.out)
        replace ac:=zm (zj ac.out)
        replace ae:=zm (zj ae.out)
        replace ai:=zm (Kd.C_drew ai.out)
        replace HB:=zm (zf HB.out)
        have cG : 0≤(af : Int):=yt
        have cH : af < (aV.length : Int):=yt
        obtain ⟨dO,es,dk,et,bF,bG,bH⟩:=at_L1 (zS ag.out).2.2 af cG cH
        obtain rfl : bT=dO:=(by injection et)
        obtain ⟨ce343,hce343,hMe343,hcc343⟩:=Kd.S_get ag.out [] af cG (by first|exact cH|exact yt|(have e_:=(zS ag.out).1;omega))
        obtain ⟨ve343_0,rfl,ge343_0⟩:=hMe343
        have hv343_0:=hcc343 0 _ rfl
        rw [Nat.add_zero,show ((Kd.slice 3 (Kd.int .i64))).sz=1 from rfl,Nat.mul_one] at hv343_0
        replace hv343_0:=zO (hv343_0.symm.trans bF)
        rw [hv343_0] at ge343_0
        have aN:=zm (show Kd.R (Kd.int .i64) 3 _ _ _ _ (rd_L1 aV af) from ge343_0)
        clear hv343_0 ge343_0 hcc343 hce343;have aG:=zm bH;have dU:=zm bG;clear bH bG
        replace cG:=zP cG
        replace cH:=zP cH
        obtain ⟨cM,eu,cI,fe,ff⟩:=yai aG ak
        cases eu
        refine yst (fun w' => w'.cell? (bT.add (af).toNat)=some (.slice (some cM) (rd_L1 aV af).length dk)∧w'.cell? (cM.add (ak).toNat)=some (.int .i64 (rd (rd_L1 aV af) ak))) [] 15 cpack_Write.tab20 cpack_Write.bits20 (fun hHeld HT_ HW_ => ?_)
        generalize wr.drew=w68 at ag aa ap ac ae ai HB aN aG bF cI hHeld ⊢
        refine yp 0 104 HT_ ?_
        refine yp 2 106 HT_ ?_
        refine yp 3 107 HT_ ?_
        refine yp 4 108 HT_ ?_
        refine yp 6 110 HT_ ?_
        refine yl 5 109 HT_ HW_ hHeld ?_
        refine yp 7 111 HT_ ?_
        refine yl 8 112 HT_ HW_ hHeld ?_
        refine yw 1 105 HT_ (fun K hK => ?_)
        refine ygs Try.func32 #[.int .i64 ak] ?_
        with_reducible refine (band_Width.calls ak bO _ A63.out).mono ?_
        rintro e w69 ⟨rfl,hb⟩
        have ev:=yhs hb hHeld.1
        have ew:=yhs hb hHeld.2
        refine ⟨_,rfl, ?_⟩
        replace ag:=ySb ag hb
        replace aa:=yVb aa hb
        replace ap:=yRb ap hb
        replace aN:=yRb aN hb
        replace ac:=ybb ac hb
        replace ae:=ybb ae hb
        replace ai:=yCb ai hb
        replace aG:=yCb aG hb
        replace HB:=ybs hb
        (try clear hb)
        refine hK.out _ _ yH (fun hHeld => ?_)
        clear hK K
        refine ym (some 105) ?_
        refine yw 9 113 HT_ (fun K hK => ?_)
        refine ygs Try.func31 #[.int .i64 bO, .int .i64 (rd (rd_L1 aV af) ak)] ?_
        with_reducible refine (comb_Count.calls bO (rd (rd_L1 aV af) ak) dg eo _ A64.out).mono ?_
        rintro e w70 ⟨rfl,hb⟩
        have ev:=yhs hb hHeld.1
        have ew:=yhs hb hHeld.2
        refine ⟨_,rfl, ?_⟩
        replace ag:=ySb ag hb
        replace aa:=yVb aa hb
        replace ap:=yRb ap hb
        replace aN:=yRb aN hb
        replace ac:=ybb ac hb
        replace ae:=ybb ae hb
        replace ai:=yCb ai hb
        replace aG:=yCb aG hb
        replace HB:=ybs hb
        (try clear hb)
        refine hK.out _ _ yH (fun hHeld => ?_)
        clear hK K
        refine ym (some 113) ?_
        refine yp 10 103 HT_ ?_
        refine yp 11 114 HT_ ?_
        refine yp 12 115 HT_ ?_
        refine yp 13 21 HT_ ?_
        refine yp 14 22 HT_ ?_
        refine done_ (done_of HT_.out (by kernel_rfl)) ?_
        try go_wp2_with (first|((with_reducible refine zK (f:=33) rfl ?_);refine ygl 118 Try.func33 #[.slice bR (rd_L1 (rd_L2 aj af) ak).length bS] ?_;(with_reducible refine (comb_Index.calls k5 _ _ (rd_L1 (rd_L2 aj af) ak) dh ep _ ?am bE.out A65.out).mono ?_);(case am=>exact ycb bD);rintro e w71 ⟨rfl,hb⟩;refine ⟨_,rfl, ?_⟩;replace ag:=ySb ag hb;replace aa:=yVb aa hb;replace ap:=yRb ap hb;replace aN:=yRb aN hb;replace ac:=ybb ac hb;replace ae:=ybb ae hb;replace ai:=yCb ai hb;replace aG:=yCb aG hb;replace HB:=ybs hb;(try clear hb);have:=aw.out;have:=av.out;obtain ⟨_,_,_,_,_,_⟩:=yc3 ae;obtain ⟨ey,ez,eA⟩:=zU aa.out;subst eA)|((with_reducible refine zK (f:=34) rfl ?_);refine ygl 125 Try.func34 #[.agg #[.int .u64 aC, .int .u32 aD, .slice ey aE.length ez], .int .u64 dh, .int .u64 dg] ?_;(with_reducible refine (coder_PutNum.calls k5 aC aD _ _ aE dh dg di dj cF eq _ ?am ?bh A66.out).mono ?_);(case am=>exact yce (zR aa.out).2.2);(case bh=>exact (zR aa.out).2.1);rintro e w75 ⟨fg,rfl,ho0,hb⟩;refine ⟨_,rfl, ?_⟩;replace ag:=ySb ag hb;replace aa:=zm (za7 (yr aa) (zW ho0) hb);replace ap:=yRb ap hb;replace aN:=yRb aN hb;have cN:=zm (za0 ho0 (zE yhb));replace ac:=ybb ac hb;replace ae:=ybb ae hb;replace ai:=yCb ai hb;replace aG:=yCb aG hb;replace HB:=ybs hb;(try clear hb);(try clear ho0);obtain ⟨_,_,_,_,_,_⟩:=yc3 ae;obtain ⟨dP,dQ,eB⟩:=zT cN.out;subst eB))
        go_roundg k5
        case measure=>exact yom5 HJ4 bq HK3 HK4 HK5
        case rel=>exact ⟨(wrap64 (ak+1)),(di),(dj),(cF),(.slice dP cF.length dQ),yq,H',⟨yom5 HJ4 bq HK3 HK4 HK5⟩,⟨yS1 ag ae⟩,⟨Kd.R_V (by (with_reducible repeat (first|apply zo|apply zp|apply zq));exact zG (zH (p:=⟨ao,2,none⟩) (zH (p:=⟨ao,1,none⟩) (zH (p:=⟨ao,0,none⟩) (Kd.R_types (Kd.R_types (Kd.R_types (zZ cN.out (Kd.S_typed ag.out) (by decide)) ac.out (by decide)) ae.out (by decide)) ae.out (by decide)) (fun _ hk=>hk.2) (.int .u64 di)) (fun _ hk=>hk.2) (.int .u32 dj)) (fun _ hk=>hk.2) (.slice dP cF.length dQ)) (fun _ hk=>⟨hk.1.1.1.2,⟨hk.1.1.2,hk.1.2⟩⟩))⟩,⟨yk ac⟩,⟨ykp ae⟩,⟨yhb⟩⟩
       have H' := zm H
       clear H
       go_wp2
       go_roundg k5
       case measure=>exact yom5 HJ4 bq HK3 HK4 HK5
       case rel=>exact ⟨(wrap64 (af+1)),(aC),(aD),(aE),(ah),yq,H',⟨yom5 HJ4 bq HK3 HK4 HK5⟩,⟨yr ag⟩,⟨yr aa⟩,⟨yk ac⟩,⟨yk ae⟩,⟨yhb⟩⟩
     obtain ⟨c78,H⟩:=yif H
     have eR:=zP c78
     have eS : decide (0≤a0)=true:=decide_eq_true c78
     clear c78
     obtain ⟨c79,H⟩:=yif H
     have eT:=zP c79
     have eU : decide ((a0 : Int).toNat≤281474976710656)=true:=decide_eq_true c79
     clear c79
     obtain ⟨bo,bU⟩ : ∃ y_ : List Int,y_=(List.replicate (a0 : Int).toNat 0):=⟨_,rfl⟩
     replace H : ((coder_Finish.f ay az aA).bind fun bi=>(some ((bi.take bo.length ++ bo.drop bi.length),0)))=some (r1,r2):=yrw bU H
     have cO:=zm bU;clear bU
     obtain ⟨bi,A80,H⟩:=ybi H
     by_cases c81 : True
     ·
      have _h:=c81;have LMc81:=zm c81;clear c81
      obtain ⟨eC,bV⟩ : ∃ y_ : List Int,y_=(bi.take bo.length ++ bo.drop bi.length):=⟨_,rfl⟩
      replace H : (some (eC,0))=some (r1,r2):=yrw bV H
      have dR:=zm bV;clear bV
      simp only [zM,zN] at H
      obtain ⟨rfl,rfl⟩:=H
      go_wp2_with (first|((with_reducible refine zL (N:=131) rfl ?_);refine Kd.R_make (Kd.int .u8) _ 5 rfl (N:=131) rfl 28 _ _ rfl a0 rfl rfl Try.underlying28 (.int .u8 0) 1 info5 rfl (by decide) (by omega) 0 (ok:=fun _=>True) (okp:=fun _=>True) rfl (fun _ hk=>hk) trivial (yt) (Nat.le_trans (Nat.mul_le_mul_right _ (yt : a0.toNat≤281474976710656)) (by omega)) (zY _ _) (zX _) ?_;intro eD w82 bJ hb hg_ hnew_;clear hg_ hnew_;(first|rw [← cO.out] at bJ|(simp only [Int.reduceToNat] at bJ;rw [← cO.out] at bJ));replace ag:=ySb ag hb;replace aa:=zm (za7 (yr aa) (zW bJ) hb);have bI:=zm (za0 bJ (zE yhb));replace ac:=ybb ac hb;replace ae:=ybb ae hb;replace HB:=ybs hb;clear hb bJ;have:=aw.out;have:=av.out;obtain ⟨_,_,_,_,_,_⟩:=yc3 ae;obtain ⟨eE,eF,eG⟩:=zU aa.out;subst eG)|((with_reducible refine zK (f:=35) rfl ?_);refine ygl 134 Try.func35 #[.agg #[.int .u64 ay, .int .u32 az, .slice eE aA.length eF]] ?_;(with_reducible refine (coder_Finish.calls ay az _ _ aA bi _ ?am ?bh A80.out).mono ?_);(case am=>exact yce (zR aa.out).2.2);(case bh=>exact (zR aa.out).2.1);rintro e w87 ⟨fh,rfl,ho0,hb⟩;refine ⟨_,rfl, ?_⟩;replace ag:=ySb ag hb;replace aa:=zm (za7 (yr aa) (zW ho0) hb);have cP:=zm (za0 (Kd.R_new' ho0 (Kd.R_lt (yr bI))) (zE yhb));replace bI:=zm (za6 (yr bI) (zW ho0) hb);replace ac:=ybb ac hb;replace ae:=ybb ae hb;replace HB:=ybs hb;(try clear hb);(try clear ho0);obtain ⟨fi,fj,eH⟩:=zT cP.out;subst eH)|((with_reducible refine zb9 (b:=.copy) (xs := #[.tmp 132, .tmp 134]) rfl ?_);refine cpack_Write.copyRow (k:=.u8) (w0:=w) w.heap.size rfl (.tmp 132) (.tmp 134) 28 5 rfl Try.underlying28 info5 eD bo bi _ _ _ (fun _=>True) rfl rfl ?aO ?aR ?aB ?_;(case aO=>exact (yR0 bI));(case aR=>exact yce (zQ cP.out).2.2);(case aB=>exact yhb);intro w88 ho hb;rw [← dR.out] at ho;clear HB;have dS:=zm ho;have HB:=zm hb;clear ho hb))
      go_ret2
      exact ⟨_,ye,yR0 dS,yhb⟩
     exact absurd trivial c81
def w13_As.f (aj : Bool) (aa : List (List Int)) (ac : List (List (List Int))) : Option (Bool × (List (List Int)) × (List (List (List Int)))):=some (aj,aa,ac)
theorem w13_As.calls (aj : Bool) (ae : Nat→Prop) (am : Option Addr) (ao : Nat) (aa : List (List Int)) (af : Nat→Prop) (ap : Option Addr) (aq : Nat) (ac : List (List (List Int))) (r1 : Bool) (r2 : List (List Int)) (r3 : List (List (List Int))) (w : World) (av : Kd.V (Kd.slice 3 (Kd.int .i64)) 49 w w.heap.size (fun k_=>ae k_) (.slice am aa.length ao) aa) (aw : Kd.V (Kd.slice 49 (Kd.slice 3 (Kd.int .i64))) 22 w w.heap.size (fun k_=>af k_) (.slice ap ac.length aq) ac) (h : w13_As.f aj aa ac=some (r1,r2,r3)) :
  Calls Try.prog 14 #[.agg #[.bool aj, .slice am aa.length ao, .slice ap ac.length aq]] w fun e w' => ∃ v1_ v2_ : Value,e=.returned (.agg #[.bool r1,v1_,v2_])∧Kd.V (Kd.slice 3 (Kd.int .i64)) 49 w' w.heap.size (fun k_=>((ae k_∨af k_)∨w.heap.size≤k_)) v1_ r2∧Kd.V (Kd.slice 49 (Kd.slice 3 (Kd.int .i64))) 22 w' w.heap.size (fun k_=>((ae k_∨af k_)∨w.heap.size≤k_)) v2_ r3∧Below w.heap.size w w' := by
 have hu25:=Try.underlying25;have hu33:=Try.underlying33
 have ag:=zm (show Kd.V (Kd.slice 3 (Kd.int .i64)) 49 w w.heap.size (fun k_=>((ae k_∨af k_)∨w.heap.size≤k_)) (.slice am aa.length ao) aa from zy av (fun k_ hk => .inl (.inl hk)))
 have ah:=zm (show Kd.V (Kd.slice 49 (Kd.slice 3 (Kd.int .i64))) 22 w w.heap.size (fun k_=>((ae k_∨af k_)∨w.heap.size≤k_)) (.slice ap ac.length aq) ac from zy aw (fun k_ hk => .inl (.inr hk)))
 have HB:=zm (zY w.heap.size w);have H:=h
 unfold w13_As.f at H
 clear h
 simp only [zM,zN] at H
 obtain ⟨rfl,rfl,rfl⟩:=H
 go_enter Try.func14,Try.ntmps14
 go_wp2_with (first|((with_reducible refine zL (N:=1) rfl ?_);refine ybx 1 #[.bool aj, .slice am aa.length ao, .slice ap ac.length aq] 25 ?_;intro ay hg w2 hbox hb;replace ag:=yVe ag hg hb;replace ah:=yVe ah hg hb;have ai:=zm (hbox);have az:=ygw hg;have aA:=ygw hg;replace HB:=ybs hb;clear hb hbox hg)|((with_reducible refine zL (N:=2) rfl ?_);refine ybx 2 #[.bool false, .slice none 0 0, .slice none 0 0] 33 ?_;intro ax hg w3 hbox hb;replace ag:=yVe ag hg hb;replace ah:=yVe ah hg hb;have au:=zm (hbox);have aC:=ygw hg;have aD:=ygw hg;replace HB:=ybs hb;have ak:=ynl ai hg;have al:=yng ai hg;replace ai:=ybb ai hb;clear hb hbox hg;have:=ak.out;have:=al.out;obtain ⟨_,_,_,_,_,_⟩:=yc3 ai;obtain ⟨_,_,_,_,_,_⟩:=yc3 au))
 refine za1 (zb2 rfl _ _ ax 33 #[.bool aj, .slice am aa.length ao, .slice ap ac.length aq] (0,0) _ rfl (ykp au) Try.underlying33 rfl (by kernel_rfl)) rfl ?_
 exact ⟨_,_,ye,yV0 ag,yV0 ah,yhb⟩
def r06_Same.l0 : Nat→List Int→List Int→Int→Option (Bool)
 | 0,_,_,_=>none
 | k+1,x0,x1,x5=>if x5 < (x0.length : Int) then (if 0≤x5 then (if x5 < (x1.length : Int) then (if (rd x0 x5)=(rd x1 x5) then (r06_Same.l0 k x0 x1 (wrap64 (x5+1))) else (some false)) else (none)) else (none)) else (some true)
def r06_Same.f (k : Nat) (l0 : List Int) (l1 : List Int) : Option (Bool):=if (l0.length : Int)=(l1.length : Int) then (r06_Same.l0 k l0 l1 0) else (some false)
theorem r06_Same.mono_l : ∀ k,(∀ y0 y1 y2,LeO (r06_Same.l0 k y0 y1 y2) (r06_Same.l0 (k+1) y0 y1 y2))
 | 0=>fun _ _ _ r h=>by simp [r06_Same.l0] at h
 | k+1=>by
  have ih0:=r06_Same.mono_l k
  ·
   intro y0 y1 y2
   unfold r06_Same.l0
   exact yLm
theorem r06_Same.mono : ∀ a0 a1 k,LeO (r06_Same.f k a0 a1) (r06_Same.f (k+1) a0 a1):=by
 intro a0 a1 k
 have ih0:=r06_Same.mono_l k
 unfold r06_Same.f
 exact yLm
theorem r06_Same.calls (k : Nat) (A0 : Option Addr) (c0 : Nat) (l0 : List Int) (A1 : Option Addr) (c1 : Nat) (l1 : List Int) (r : Bool) (w : World) (hr0 : Kd.C (Kd.int .i64) w A0 l0.length l0) (hc0 : l0.length≤c0) (hr1 : Kd.C (Kd.int .i64) w A1 l1.length l1) (hc1 : l1.length≤c1) (h : r06_Same.f k l0 l1=some r) :
  Calls Try.prog 61 #[.slice A0 l0.length c0, .slice A1 l1.length c1] w fun e w' => e=.returned (.bool r)∧Drawn0 w w' := by
 have HR0:=zm hr0;have HC0:=zm hc0;clear hr0 hc0;have HR1:=zm hr1;have HC1:=zm hc1;clear hr1 hc1;have H:=h
 unfold r06_Same.f at H
 clear h
 by_cases c3 : (l0.length : Int)=(l1.length : Int)
 ·
  rw [za4 c3] at H
  obtain ⟨ah,ai⟩:=yE c3
  have aj : (l0.length == l1.length)=true:=by first|simpa using c3|(simp at c3 ⊢; omega)
  clear c3
  have H' := zm H
  clear H
  go_enter Try.func61,Try.ntmps61
  go_wp2
  repeat (go_quiet (fail);try go_wp2)
  go_loopg [5] k (fun kq v5 w' => ∃ (aa : Int),v5=.int .i64 aa∧Aside0 (r06_Same.l0 kq l0 l1 aa=some r)∧Aside0 (kq≤k)∧Drawn0 w w')
  case atStart=>exact ⟨(0),yq,H',⟨zX _⟩,yd⟩
  case round =>
   clear H'
   try clear c1
   try clear ah
   try clear ai
   try clear aj
   obtain ⟨aa,rfl,HA,HK1,⟨m1,rfl⟩⟩:=hrel
   obtain ⟨k1,rfl⟩:=ysu gk (fun h=>by subst h;exact absurd HA.out (by simp [r06_Same.l0]))
   have H:=HA.out;clear HA
   simp only [r06_Same.l0] at H
   replace H:=yId H
   obtain ⟨am,H⟩ | ⟨am,H⟩:=H
   ·
    obtain ⟨c5,H⟩:=yif H
    have ax : decide (0≤aa)=true:=decide_eq_true c5
    clear c5
    obtain ⟨c6,H⟩:=yif H
    have ay : decide (aa < (l1.length : Int))=true:=decide_eq_true c6
    clear c6
    by_cases c7 : (rd l0 aa)=(rd l1 aa)
    ·
     rw [za4 c7] at H
     obtain ⟨ao,ap⟩:=yE c7
     clear c7
     have H' := zm H
     clear H
     obtain ⟨ak,af,ac,aq,au⟩:=yai HR0 aa
     cases af
     obtain ⟨al,ag,ae,av,aw⟩:=yai HR1 aa
     cases ag
     go_wp2
     repeat (go_quiet (fail);try go_wp2)
     go_roundg k1
     case measure=>exact yom1 HK1
     case rel=>exact ⟨(wrap64 (aa+1)),yq,H',⟨yom1 HK1⟩,yd⟩
    rw [za5 c7] at H
    obtain ⟨ao,ap⟩:=yF c7
    obtain rfl:=zO H
    obtain ⟨ak,af,ac,aq,au⟩:=yai HR0 aa
    cases af
    obtain ⟨al,ag,ae,av,aw⟩:=yai HR1 aa
    cases ag
    go_wp2
    repeat (go_quiet (fail);try go_wp2)
    go_ret
    exact ⟨yq,yd⟩
   obtain rfl:=zO H
   go_wp2
   repeat (go_quiet (fail);try go_wp2)
   go_ret
   exact ⟨yq,yd⟩
 rw [za5 c3] at H
 obtain ⟨ah,ai⟩:=yF c3
 have aj : (l0.length == l1.length)=false:=by first|simpa using c3|(simp at c3 ⊢; omega)
 obtain rfl:=zO H
 go_enter Try.func61,Try.ntmps61
 go_wp2
 repeat (go_quiet (fail);try go_wp2)
 go_ret
 exact ⟨yq,yd⟩
def r12_Same.l0 : Nat→List (List Int)→List (List Int)→Int→Option (Bool)
 | 0,_,_,_=>none
 | k+1,x0,x1,x5=>if x5 < (x0.length : Int) then (if 0≤x5 then (if x5 < (x1.length : Int) then ((r06_Same.f k (rd_L1 x0 x5) (rd_L1 x1 x5)).bind fun aq=>(if aq=true then (r12_Same.l0 k x0 x1 (wrap64 (x5+1))) else (some false))) else (none)) else (none)) else (some true)
def r12_Same.f (k : Nat) (l0 : List (List Int)) (l1 : List (List Int)) : Option (Bool):=if (l0.length : Int)=(l1.length : Int) then (r12_Same.l0 k l0 l1 0) else (some false)
theorem r12_Same.mono_l : ∀ k,(∀ y0 y1 y2,LeO (r12_Same.l0 k y0 y1 y2) (r12_Same.l0 (k+1) y0 y1 y2))
 | 0=>fun _ _ _ r h=>by simp [r12_Same.l0] at h
 | k+1=>by
  have ih0:=r12_Same.mono_l k
  ·
   intro y0 y1 y2
   unfold r12_Same.l0
   have i0:=@r06_Same.mono
   exact yLm
theorem r12_Same.mono : ∀ a0 a1 k,LeO (r12_Same.f k a0 a1) (r12_Same.f (k+1) a0 a1):=by
 intro a0 a1 k
 have ih0:=r12_Same.mono_l k
 unfold r12_Same.f
 have i0:=@r06_Same.mono
 exact yLm
theorem r12_Same.calls (k : Nat) (A0 : Option Addr) (c0 : Nat) (l0 : List (List Int)) (A1 : Option Addr) (c1 : Nat) (l1 : List (List Int)) (r : Bool) (w : World) (hr0 : Kd.C (Kd.slice 3 (Kd.int .i64)) w A0 l0.length l0) (hc0 : l0.length≤c0) (hr1 : Kd.C (Kd.slice 3 (Kd.int .i64)) w A1 l1.length l1) (hc1 : l1.length≤c1) (h : r12_Same.f k l0 l1=some r) :
  Calls Try.prog 24 #[.slice A0 l0.length c0, .slice A1 l1.length c1] w fun e w' => e=.returned (.bool r)∧Drawn0 w w' := by
 have HR0:=zm hr0;have HC0:=zm hc0;clear hr0 hc0;have HR1:=zm hr1;have HC1:=zm hc1;clear hr1 hc1;have H:=h
 unfold r12_Same.f at H
 clear h
 by_cases c3 : (l0.length : Int)=(l1.length : Int)
 ·
  rw [za4 c3] at H
  obtain ⟨aA,aC⟩:=yE c3
  have aD : (l0.length == l1.length)=true:=by first|simpa using c3|(simp at c3 ⊢; omega)
  clear c3
  have H' := zm H
  clear H
  go_enter Try.func24,Try.ntmps24
  go_wp2
  repeat (go_quiet (fail);try go_wp2)
  go_loopg [5] k (fun kq v5 w' => ∃ (aa : Int),v5=.int .i64 aa∧Aside0 (r12_Same.l0 kq l0 l1 aa=some r)∧Aside0 (kq≤k)∧Drawn0 w w')
  case atStart=>exact ⟨(0),yq,H',⟨zX _⟩,yd⟩
  case round =>
   clear H'
   try clear c1
   try clear aA
   try clear aC
   try clear aD
   obtain ⟨aa,rfl,HA,HK1,⟨m1,rfl⟩⟩:=hrel
   obtain ⟨k1,rfl⟩:=ysu gk (fun h=>by subst h;exact absurd HA.out (by simp [r12_Same.l0]))
   have H:=HA.out;clear HA
   simp only [r12_Same.l0] at H
   replace H:=yId H
   obtain ⟨aH,H⟩ | ⟨aH,H⟩:=H
   ·
    obtain ⟨c5,H⟩:=yif H
    have aN : decide (0≤aa)=true:=decide_eq_true c5
    clear c5
    obtain ⟨c6,H⟩:=yif H
    have aQ : decide (aa < (l1.length : Int))=true:=decide_eq_true c6
    clear c6
    obtain ⟨aq,A7,H⟩:=ybi H
    by_cases c8 : aq=true
    ·
     subst c8
     rw [za4 rfl] at H
     have H' := zm H
     clear H
     obtain ⟨⟨aE,au,av,aw,ao,aj,ak⟩,aI,aJ⟩:=yat (at_L1 HR0.out aa)
     cases aw
     have ac:=zm ak;have ae:=zm aj;clear ak aj
     obtain ⟨⟨aG,ax,ay,az,ap,al,am⟩,aK,aM⟩:=yat (at_L1 HR1.out aa)
     cases az
     have af:=zm am;have ag:=zm al;clear am al
     go_wp2_with (first|(go_at_call 61;(with_reducible refine (r06_Same.calls k1 _ _ (rd_L1 l0 aa) _ _ (rd_L1 l1 aa) true _ ?ah ae.out ?ai ag.out A7.out).mono ?_);(case ah=>exact yce ac.out);(case ai=>exact yce af.out);rintro e w' ⟨rfl,⟨nd,rfl⟩⟩;(try exact yww)))
     repeat (go_quiet (first|(go_at_call 61;(with_reducible refine (r06_Same.calls k1 _ _ (rd_L1 l0 aa) _ _ (rd_L1 l1 aa) true _ ?ah ae.out ?ai ag.out A7.out).mono ?_);(case ah=>exact yce ac.out);(case ai=>exact yce af.out);rintro e w' ⟨rfl,⟨nd,rfl⟩⟩;(try exact yww)));try go_wp2_with (first|(go_at_call 61;(with_reducible refine (r06_Same.calls k1 _ _ (rd_L1 l0 aa) _ _ (rd_L1 l1 aa) true _ ?ah ae.out ?ai ag.out A7.out).mono ?_);(case ah=>exact yce ac.out);(case ai=>exact yce af.out);rintro e w' ⟨rfl,⟨nd,rfl⟩⟩;(try exact yww))))
     go_roundg k1
     case measure=>exact yom1 HK1
     case rel=>exact ⟨(wrap64 (aa+1)),yq,H',⟨yom1 HK1⟩,yd⟩
    replace c8:=za3.mpr c8
    subst c8
    rw [ynf] at H
    obtain rfl:=zO H
    obtain ⟨⟨aE,au,av,aw,ao,aj,ak⟩,aI,aJ⟩:=yat (at_L1 HR0.out aa)
    cases aw
    have ac:=zm ak;have ae:=zm aj;clear ak aj
    obtain ⟨⟨aG,ax,ay,az,ap,al,am⟩,aK,aM⟩:=yat (at_L1 HR1.out aa)
    cases az
    have af:=zm am;have ag:=zm al;clear am al
    go_wp2_with (first|(go_at_call 61;(with_reducible refine (r06_Same.calls k1 _ _ (rd_L1 l0 aa) _ _ (rd_L1 l1 aa) false _ ?ah ae.out ?ai ag.out A7.out).mono ?_);(case ah=>exact yce ac.out);(case ai=>exact yce af.out);rintro e w' ⟨rfl,⟨nd,rfl⟩⟩;(try exact yww)))
    repeat (go_quiet (first|(go_at_call 61;(with_reducible refine (r06_Same.calls k1 _ _ (rd_L1 l0 aa) _ _ (rd_L1 l1 aa) false _ ?ah ae.out ?ai ag.out A7.out).mono ?_);(case ah=>exact yce ac.out);(case ai=>exact yce af.out);rintro e w' ⟨rfl,⟨nd,rfl⟩⟩;(try exact yww)));try go_wp2_with (first|(go_at_call 61;(with_reducible refine (r06_Same.calls k1 _ _ (rd_L1 l0 aa) _ _ (rd_L1 l1 aa) false _ ?ah ae.out ?ai ag.out A7.out).mono ?_);(case ah=>exact yce ac.out);(case ai=>exact yce af.out);rintro e w' ⟨rfl,⟨nd,rfl⟩⟩;(try exact yww))))
    go_ret
    exact ⟨yq,yd⟩
   obtain rfl:=zO H
   go_wp2
   repeat (go_quiet (fail);try go_wp2)
   go_ret
   exact ⟨yq,yd⟩
 rw [za5 c3] at H
 obtain ⟨aA,aC⟩:=yF c3
 have aD : (l0.length == l1.length)=false:=by first|simpa using c3|(simp at c3 ⊢; omega)
 obtain rfl:=zO H
 go_enter Try.func24,Try.ntmps24
 go_wp2
 repeat (go_quiet (fail);try go_wp2)
 go_ret
 exact ⟨yq,yd⟩
mutual
def r13_Same.j0 : Nat→Bool→Bool→List (List Int)→List (List (List Int))→Bool→List (List Int)→List (List (List Int))→Option (Bool)
 | 0,_,_,_,_,_,_,_=>none
 | k+1,x27,aM,aN,ax,aQ,aT,ay=>if x27=true then (some false) else (r13_Same.l0 k 0 aM aN ax aQ aT ay)
def r13_Same.l0 : Nat→Int→Bool→List (List Int)→List (List (List Int))→Bool→List (List Int)→List (List (List Int))→Option (Bool)
 | 0,_,_,_,_,_,_,_=>none
 | k+1,x5,aM,aN,ax,aQ,aT,ay=>if x5 < (ax.length : Int) then (if 0≤x5 then (if x5 < (ay.length : Int) then ((r12_Same.f k (rd_L2 ax x5) (rd_L2 ay x5)).bind fun bk=>(if bk=true then (r13_Same.l0 k (wrap64 (x5+1)) aM aN ax aQ aT ay) else (some false))) else (none)) else (none)) else (some true)
end
def r13_Same.f (k : Nat) (al : Bool) (aj : List (List Int)) (ai : List (List (List Int))) (am : Bool) (ak : List (List Int)) (ah : List (List (List Int))) : Option (Bool):=if (al != am)=true then (r13_Same.j0 k true al aj ai am ak ah) else ((r12_Same.f k aj ak).bind fun bl=>(if bl=true then (r13_Same.j0 k ((ai.length : Int) != (ah.length : Int)) al aj ai am ak ah) else (r13_Same.j0 k true al aj ai am ak ah)))
theorem r13_Same.mono_l : ∀ k,(∀ y0 y1 y2 y3 y4 y5 y6,LeO (r13_Same.j0 k y0 y1 y2 y3 y4 y5 y6) (r13_Same.j0 (k+1) y0 y1 y2 y3 y4 y5 y6))∧(∀ y0 y1 y2 y3 y4 y5 y6,LeO (r13_Same.l0 k y0 y1 y2 y3 y4 y5 y6) (r13_Same.l0 (k+1) y0 y1 y2 y3 y4 y5 y6))
 | 0=>⟨fun _ _ _ _ _ _ _ r h=>by simp [r13_Same.j0] at h,fun _ _ _ _ _ _ _ r h=>by simp [r13_Same.l0] at h⟩
 | k+1=>by
  obtain ⟨ih0,ih1⟩:=r13_Same.mono_l k
  have i0:=@r12_Same.mono
  refine ⟨?_, ?_⟩
  ·
   intro y0 y1 y2 y3 y4 y5 y6
   unfold r13_Same.j0
   exact yLm
  intro y0 y1 y2 y3 y4 y5 y6
  unfold r13_Same.l0
  exact yLm
theorem r13_Same.mono : ∀ a0 a1 a2 a3 a4 a5 k,LeO (r13_Same.f k a0 a1 a2 a3 a4 a5) (r13_Same.f (k+1) a0 a1 a2 a3 a4 a5):=by
 intro a0 a1 a2 a3 a4 a5 k
 obtain ⟨ih0,ih1⟩:=r13_Same.mono_l k
 have i0:=@r12_Same.mono
 unfold r13_Same.f
 exact yLm
theorem r13_Same.calls (k : Nat) (al : Bool) (aU : Option Addr) (aV : Nat) (aj : List (List Int)) (aW : Option Addr) (aX : Nat) (ai : List (List (List Int))) (am : Bool) (aY : Option Addr) (aZ : Nat) (ak : List (List Int)) (a7 : Option Addr) (a8 : Nat) (ah : List (List (List Int))) (r : Bool) (w : World) (hr0_1 : Kd.C (Kd.slice 3 (Kd.int .i64)) w aU aj.length aj) (hc0_1 : aj.length≤aV) (hr0_2 : Kd.C (Kd.slice 49 (Kd.slice 3 (Kd.int .i64))) w aW ai.length ai) (hc0_2 : ai.length≤aX) (hr1_1 : Kd.C (Kd.slice 3 (Kd.int .i64)) w aY ak.length ak) (hc1_1 : ak.length≤aZ) (hr1_2 : Kd.C (Kd.slice 49 (Kd.slice 3 (Kd.int .i64))) w a7 ah.length ah) (hc1_2 : ah.length≤a8) (h : r13_Same.f k al aj ai am ak ah=some r) :
  Calls Try.prog 22 #[.agg #[.bool al, .slice aU aj.length aV, .slice aW ai.length aX], .agg #[.bool am, .slice aY ak.length aZ, .slice a7 ah.length a8]] w fun e w' => e=.returned (.bool r)∧Below w.heap.size w w' := by
 have hu33:=Try.underlying33;have aH:=zm hr0_1;have aI:=zm hc0_1;clear hr0_1 hc0_1;have bd:=zm hr0_2;have bD:=zm hc0_2;clear hr0_2 hc0_2;have aJ:=zm hr1_1;have aK:=zm hc1_1;clear hr1_1 hc1_1;have bf:=zm hr1_2;have bE:=zm hc1_2;clear hr1_2 hc1_2;have HB:=zm (zY w.heap.size w);have H:=h
 unfold r13_Same.f at H
 clear h;have HC3:=zm H;clear H
 go_enter Try.func22,Try.ntmps22
 go_upto_region 1 with (first|((with_reducible refine zL (N:=2) rfl ?_);(try (refine gate_guard (by rfl) ?_;dsimp only));refine ybx 2 #[.bool al, .slice aU aj.length aV, .slice aW ai.length aX] 33 ?_;intro a9 hg w4 hbox hb;have aa:=zm (hbox);have bg:=ygw hg;have bh:=ygw hg;replace HB:=ybs hb;clear hb hbox hg)|((with_reducible refine zL (N:=3) rfl ?_);(try (refine gate_guard (by rfl) ?_;dsimp only));refine ybx 3 #[.bool am, .slice aY ak.length aZ, .slice a7 ah.length a8] 33 ?_;intro ba hg w5 hbox hb;have ap:=zm (hbox);have bi:=ygw hg;have bj:=ygw hg;replace HB:=ybs hb;have af:=ynl aa hg;have ag:=yng aa hg;replace aa:=ybb aa hb;clear hb hbox hg))
 repeat (go_quiet (first|((with_reducible refine zL (N:=2) rfl ?_);(try (refine gate_guard (by rfl) ?_;dsimp only));refine ybx 2 #[.bool al, .slice aU aj.length aV, .slice aW ai.length aX] 33 ?_;intro a9 hg w4 hbox hb;have aa:=zm (hbox);have bg:=ygw hg;have bh:=ygw hg;replace HB:=ybs hb;clear hb hbox hg)|((with_reducible refine zL (N:=3) rfl ?_);(try (refine gate_guard (by rfl) ?_;dsimp only));refine ybx 3 #[.bool am, .slice aY ak.length aZ, .slice a7 ah.length a8] 33 ?_;intro ba hg w5 hbox hb;have ap:=zm (hbox);have bi:=ygw hg;have bj:=ygw hg;replace HB:=ybs hb;have af:=ynl aa hg;have ag:=yng aa hg;replace aa:=ybb aa hb;clear hb hbox hg));go_upto_region 1 with (first|((with_reducible refine zL (N:=2) rfl ?_);(try (refine gate_guard (by rfl) ?_;dsimp only));refine ybx 2 #[.bool al, .slice aU aj.length aV, .slice aW ai.length aX] 33 ?_;intro a9 hg w4 hbox hb;have aa:=zm (hbox);have bg:=ygw hg;have bh:=ygw hg;replace HB:=ybs hb;clear hb hbox hg)|((with_reducible refine zL (N:=3) rfl ?_);(try (refine gate_guard (by rfl) ?_;dsimp only));refine ybx 3 #[.bool am, .slice aY ak.length aZ, .slice a7 ah.length a8] 33 ?_;intro ba hg w5 hbox hb;have ap:=zm (hbox);have bi:=ygw hg;have bj:=ygw hg;replace HB:=ybs hb;have af:=ynl aa hg;have ag:=yng aa hg;replace aa:=ybb aa hb;clear hb hbox hg)))
 (try simp only [Act.put,za9,zb0,zb1])
 go_cut [27] (fun v27 wc => ∃ (kq : Nat) (bb : Bool),v27=.bool bb∧Aside0 (r13_Same.j0 kq bb al aj ai am ak ah=some r)∧Aside0 (kq≤k)∧Aside0 (wc.heap[a9]? = some (.cells #[.bool al,(.slice aU aj.length aV),(.slice aW ai.length aX)] 33 (0,0)))∧Aside0 (wc.heap[ba]? = some (.cells #[.bool am,(.slice aY ak.length aZ),(.slice a7 ah.length a8)] 33 (0,0)))∧Aside0 (Below w.heap.size w wc))
 case first =>
  have H:=HC3.out;clear HC3
  by_cases c6 : (al != am)=true
  ·
   rw [za4 c6] at H
   have bc : (al != am)=true:=c6
   (try (have bw : decide (al=am)=false:=by simpa using c6))
   (try (have bx : (al == am)=false:=by simpa using c6))
   (try (have bH : ¬ (al=am):=by simpa using c6))
   clear c6
   (first|rw [bc]|(simp only [i64_w,i32_w];rw [bc])|skip)
   have H' := zm H
   clear H
   have:=af.out
   have:=ag.out
   obtain ⟨_,_,_,_,_,_⟩:=yc3 aa
   obtain ⟨_,_,_,_,_,_⟩:=yc3 ap
   go_wp2
   repeat (go_quiet (fail);try go_wp2)
   go_meet
   case rel=>exact ⟨_,(true),yq,H',⟨yo⟩,⟨yk aa⟩,⟨yk ap⟩,⟨yhb⟩⟩
  rw [za5 c6] at H
  have bc : (al != am)=false:=by simpa using c6
  (try (have bw : decide (al=am)=true:=by simpa using c6))
  (try (have bx : (al == am)=true:=by simpa using c6))
  clear c6
  (first|rw [bc]|(simp only [i64_w,i32_w];rw [bc])|skip)
  obtain ⟨bl,A10,H⟩:=ybi H
  by_cases c11 : bl=true
  ·
   subst c11
   rw [za4 rfl] at H
   have H' := zm H
   clear H
   have:=af.out
   have:=ag.out
   obtain ⟨_,_,_,_,_,_⟩:=yc3 aa
   obtain ⟨_,_,_,_,_,_⟩:=yc3 ap
   go_wp2_with (first|(go_at_call 24;(with_reducible refine (r12_Same.calls k _ _ aj _ _ ak true _ ?ac aI.out ?ae aK.out A10.out).mono ?_);(case ac=>exact ycb aH);(case ae=>exact ycb aJ);rintro e w' ⟨rfl,⟨nd,rfl⟩⟩;(try exact yww)))
   repeat (go_quiet (first|(go_at_call 24;(with_reducible refine (r12_Same.calls k _ _ aj _ _ ak true _ ?ac aI.out ?ae aK.out A10.out).mono ?_);(case ac=>exact ycb aH);(case ae=>exact ycb aJ);rintro e w' ⟨rfl,⟨nd,rfl⟩⟩;(try exact yww)));try go_wp2_with (first|(go_at_call 24;(with_reducible refine (r12_Same.calls k _ _ aj _ _ ak true _ ?ac aI.out ?ae aK.out A10.out).mono ?_);(case ac=>exact ycb aH);(case ae=>exact ycb aJ);rintro e w' ⟨rfl,⟨nd,rfl⟩⟩;(try exact yww))))
   go_meet
   case rel=>exact ⟨_,(((ai.length : Int) != (ah.length : Int))),yq,H',⟨yo⟩,⟨yk aa⟩,⟨yk ap⟩,⟨yhb⟩⟩
  replace c11:=za3.mpr c11
  subst c11
  rw [ynf] at H
  have H' := zm H
  clear H
  have:=af.out
  have:=ag.out
  obtain ⟨_,_,_,_,_,_⟩:=yc3 aa
  obtain ⟨_,_,_,_,_,_⟩:=yc3 ap
  go_wp2_with (first|(go_at_call 24;(with_reducible refine (r12_Same.calls k _ _ aj _ _ ak false _ ?ac aI.out ?ae aK.out A10.out).mono ?_);(case ac=>exact ycb aH);(case ae=>exact ycb aJ);rintro e w' ⟨rfl,⟨nd,rfl⟩⟩;(try exact yww)))
  repeat (go_quiet (first|(go_at_call 24;(with_reducible refine (r12_Same.calls k _ _ aj _ _ ak false _ ?ac aI.out ?ae aK.out A10.out).mono ?_);(case ac=>exact ycb aH);(case ae=>exact ycb aJ);rintro e w' ⟨rfl,⟨nd,rfl⟩⟩;(try exact yww)));try go_wp2_with (first|(go_at_call 24;(with_reducible refine (r12_Same.calls k _ _ aj _ _ ak false _ ?ac aI.out ?ae aK.out A10.out).mono ?_);(case ac=>exact ycb aH);(case ae=>exact ycb aJ);rintro e w' ⟨rfl,⟨nd,rfl⟩⟩;(try exact yww))))
  go_meet
  case rel=>exact ⟨_,(true),yq,H',⟨yo⟩,⟨yk aa⟩,⟨yk ap⟩,⟨yhb⟩⟩
 case rest =>
  clear HC3
  obtain ⟨kq,bb,rfl,HA,HJ2,aa,ap,HB⟩:=hcut
  obtain ⟨kj2,rfl⟩:=ysu kq (fun h=>by subst h;exact absurd HA.out (by simp [r13_Same.j0]))
  have H:=HA.out;clear HA
  simp only [r13_Same.j0] at H
  by_cases c18 : bb=true
  ·
   subst c18
   rw [za4 rfl] at H
   obtain rfl:=zO H
   go_wp2
   repeat (go_quiet (fail);try go_wp2)
   go_ret
   exact ⟨ye,yhb⟩
  replace c18:=za3.mpr c18
  subst c18
  rw [ynf] at H
  have H' := zm H
  clear H
  go_wp2
  repeat (go_quiet (fail);try go_wp2)
  go_loopg [5] kj2 (fun kq v5 w' => ∃ (ao : Int),v5=.int .i64 ao∧Aside0 (r13_Same.l0 kq ao al aj ai am ak ah=some r)∧Aside0 (kq≤kj2)∧Aside0 (w'.heap[a9]? = some (.cells #[.bool al,(.slice aU aj.length aV),(.slice aW ai.length aX)] 33 (0,0)))∧Aside0 (w'.heap[ba]? = some (.cells #[.bool am,(.slice aY ak.length aZ),(.slice a7 ah.length a8)] 33 (0,0)))∧Aside0 (Below w.heap.size w w'))
  case atStart=>exact ⟨(0),yq,H',⟨zX _⟩,⟨yk aa⟩,⟨yk ap⟩,⟨yhb⟩⟩
  case round =>
   clear H'
   obtain ⟨ao,rfl,HA,HK2,aa,ap,HB⟩:=hrel
   obtain ⟨k2,rfl⟩:=ysu gk (fun h=>by subst h;exact absurd HA.out (by simp [r13_Same.l0]))
   have H:=HA.out;clear HA
   simp only [r13_Same.l0] at H
   replace H:=yId H
   obtain ⟨bs,H⟩ | ⟨bs,H⟩:=H
   ·
    obtain ⟨c20,H⟩:=yif H
    have bF : decide (0≤ao)=true:=decide_eq_true c20
    clear c20
    obtain ⟨c21,H⟩:=yif H
    have bG : decide (ao < (ah.length : Int))=true:=decide_eq_true c21
    clear c21
    obtain ⟨bk,A22,H⟩:=ybi H
    by_cases c23 : bk=true
    ·
     subst c23
     rw [za4 rfl] at H
     have H' := zm H
     clear H
     have:=af.out
     have:=ag.out
     obtain ⟨_,_,_,_,_,_⟩:=yc3 aa
     obtain ⟨⟨bu,bm,bn,bo,az,aA,aC⟩,bz,bA⟩:=yat (at_L2 bd.out ao)
     cases bo
     replace az:=yhx HB az
     have aq:=zm aC;have au:=zm aA;clear aC aA
     obtain ⟨_,_,_,_,_,_⟩:=yc3 ap
     obtain ⟨⟨bv,bp,bq,br,aD,aE,aG⟩,bB,bC⟩:=yat (at_L2 bf.out ao)
     cases br
     replace aD:=yhx HB aD
     have av:=zm aG;have aw:=zm aE;clear aG aE
     go_wp2_with (first|(go_at_call 24;(with_reducible refine (r12_Same.calls k2 _ _ (rd_L2 ai ao) _ _ (rd_L2 ah ao) true _ ?ac au.out ?ae aw.out A22.out).mono ?_);(case ac=>exact ycb aq);(case ae=>exact ycb av);rintro e w' ⟨rfl,⟨nd,rfl⟩⟩;(try exact yww)))
     repeat (go_quiet (first|(go_at_call 24;(with_reducible refine (r12_Same.calls k2 _ _ (rd_L2 ai ao) _ _ (rd_L2 ah ao) true _ ?ac au.out ?ae aw.out A22.out).mono ?_);(case ac=>exact ycb aq);(case ae=>exact ycb av);rintro e w' ⟨rfl,⟨nd,rfl⟩⟩;(try exact yww)));try go_wp2_with (first|(go_at_call 24;(with_reducible refine (r12_Same.calls k2 _ _ (rd_L2 ai ao) _ _ (rd_L2 ah ao) true _ ?ac au.out ?ae aw.out A22.out).mono ?_);(case ac=>exact ycb aq);(case ae=>exact ycb av);rintro e w' ⟨rfl,⟨nd,rfl⟩⟩;(try exact yww))))
     go_roundg k2
     case measure=>exact yom2 HJ2 HK2
     case rel=>exact ⟨(wrap64 (ao+1)),yq,H',⟨yom2 HJ2 HK2⟩,⟨yk aa⟩,⟨yk ap⟩,⟨yhb⟩⟩
    replace c23:=za3.mpr c23
    subst c23
    rw [ynf] at H
    obtain rfl:=zO H
    have:=af.out
    have:=ag.out
    obtain ⟨_,_,_,_,_,_⟩:=yc3 aa
    obtain ⟨⟨bu,bm,bn,bo,az,aA,aC⟩,bz,bA⟩:=yat (at_L2 bd.out ao)
    cases bo
    replace az:=yhx HB az
    have aq:=zm aC;have au:=zm aA;clear aC aA
    obtain ⟨_,_,_,_,_,_⟩:=yc3 ap
    obtain ⟨⟨bv,bp,bq,br,aD,aE,aG⟩,bB,bC⟩:=yat (at_L2 bf.out ao)
    cases br
    replace aD:=yhx HB aD
    have av:=zm aG;have aw:=zm aE;clear aG aE
    go_wp2_with (first|(go_at_call 24;(with_reducible refine (r12_Same.calls k2 _ _ (rd_L2 ai ao) _ _ (rd_L2 ah ao) false _ ?ac au.out ?ae aw.out A22.out).mono ?_);(case ac=>exact ycb aq);(case ae=>exact ycb av);rintro e w' ⟨rfl,⟨nd,rfl⟩⟩;(try exact yww)))
    repeat (go_quiet (first|(go_at_call 24;(with_reducible refine (r12_Same.calls k2 _ _ (rd_L2 ai ao) _ _ (rd_L2 ah ao) false _ ?ac au.out ?ae aw.out A22.out).mono ?_);(case ac=>exact ycb aq);(case ae=>exact ycb av);rintro e w' ⟨rfl,⟨nd,rfl⟩⟩;(try exact yww)));try go_wp2_with (first|(go_at_call 24;(with_reducible refine (r12_Same.calls k2 _ _ (rd_L2 ai ao) _ _ (rd_L2 ah ao) false _ ?ac au.out ?ae aw.out A22.out).mono ?_);(case ac=>exact ycb aq);(case ae=>exact ycb av);rintro e w' ⟨rfl,⟨nd,rfl⟩⟩;(try exact yww))))
    go_ret
    exact ⟨ye,yhb⟩
   obtain rfl:=zO H
   have:=af.out
   have:=ag.out
   obtain ⟨_,_,_,_,_,_⟩:=yc3 aa
   go_wp2
   repeat (go_quiet (fail);try go_wp2)
   go_ret
   exact ⟨ye,yhb⟩
def w13_knows.f (k : Nat)  : Option (Bool):=(some (([(([0,0,0,0,0] : List Int))] : List (List Int)) : List (List Int))).bind fun af=>((some (([(([(([0] : List Int)),(([0] : List Int)),(([0,0] : List Int)),(([0,0,0,0] : List Int)),(([0,0,0,0,0,0,0,0] : List Int))] : List (List Int)))] : List (List (List Int))) : List (List (List Int)))).bind fun ac=>((cpack_Write.f k 11 1 true af ac ([] : List (List Int))).bind fun au=>((cpack_Read.f k 11 1 au.1 ([] : List (List Int))).bind fun ak=>((cpack_Read.f k 11 1 (List.replicate 11 0) (([(([9,2,3,4,5] : List Int))] : List (List Int)))).bind fun ah=>(if (au.1.length : Int)=11 then (if au.2=0 then ((w13_As.f ak.1 ak.2.1 ak.2.2.1).bind fun ai=>((w13_As.f true af ac).bind fun aj=>((r13_Same.f k ai.1 ai.2.1 ai.2.2 aj.1 aj.2.1 aj.2.2).bind fun a8=>(if a8=true then (if ak.2.2.2=0 then (if ah.1=true then (none) else ((r12_Same.f k ah.2.1 (([(([6,0,0,1,2] : List Int))] : List (List Int)))).bind fun aU=>(if aU=true then (if ah.2.2.2=0 then ((cpack_Right.f k 11 1 true af ac).bind fun aQ=>(some aQ)) else (none)) else (none)))) else (none)) else (none))))) else (none)) else (none))))))
theorem w13_knows.mono : ∀ k,LeO (w13_knows.f k ) (w13_knows.f (k+1) ):=by
 intro  k
 unfold w13_knows.f
 have i0:=@cpack_Read.mono;have i1:=@cpack_Right.mono;have i2:=@cpack_Write.mono;have i3:=@r12_Same.mono;have i4:=@r13_Same.mono
 exact yLm
def w13_knows.T5 : Bool × List (List Nat × List Nat):=(true, [([], []),([0], [0]),([1], [1]),([2], [2]),([3], [3]),([4,3], [3,4]),([3,5], [3,5]),([6,3], [6]),([7], [7]),([8,7,7], [7,8]),([7], [7]),([10,9,7], [7,10]),([9,11,11,7], [7,9,11]),([7,12], [7,12]),([13,12], [13]),([14], [14]),([15,14], [14,15]),([14,16], [14,16]),([17,14], [17]),([18], [18]),([19,18], [18,19]),([20,18], [18,20]),([18,21], [18,21]),([22,18], [22]),([23], [23]),([24,23], [23,24]),([23], [23]),([26,23], [23,26]),([25,27,23,23], [23,25,27]),([23,28], [23,28]),([29,28], [29]),([30], [30]),([31,30], [30,31]),([30,32], [30,32]),([33,30], [33]),([34], [34]),([35,34,34], [34,35]),([34,36], [34,36]),([37,36,0,1,2,3,4,5,6,7,8,9,10,11,12,13,14,15,16,17,18,19,20,21,22,23,24,25,26,27,28,29,30,31,32,33,34,35,36,37], [37])])
def w13_knows.B5 : List Nat := [0,1,3,7,15,31,63,127,255,511,255,2047,4095,8191,16383,32767,65535,131071,262143,524287,1048575,2097151,4194303,8388607,16777215,33554431,16777215,83886079,268435455,536870911,1073741823,2147483647,4294967295,8589934591,17179869183,34359738367,68719476735,137438953471,274877906943]
theorem w13_knows.tab5 : rtab .any (opsOf Try.f11 5)=w13_knows.T5:=by kernel_rfl
theorem w13_knows.bits5 : waitsOk w13_knows.T5.2 w13_knows.B5=true:=by kernel_rfl
theorem w13_knows.calls (k : Nat)  (r : Bool) (w : World) (h : w13_knows.f k  = some r) :
  Calls Try.prog 11 #[] w fun e w' => e=.returned (.bool r)∧Below w.heap.size w w' := by
 have hu25:=Try.underlying25;have HB:=zm (zY w.heap.size w);have H:=h
 unfold w13_knows.f at H
 clear h
 obtain ⟨bN,cf⟩ : ∃ y_ : List Int,y_=(([0,0,0,0,0] : List Int)):=⟨_,rfl⟩
 replace H : ((some (([bN] : List (List Int)) : List (List Int))).bind fun af=>((some (([(([(([0] : List Int)),(([0] : List Int)),(([0,0] : List Int)),(([0,0,0,0] : List Int)),(([0,0,0,0,0,0,0,0] : List Int))] : List (List Int)))] : List (List (List Int))) : List (List (List Int)))).bind fun ac=>((cpack_Write.f k 11 1 true af ac ([] : List (List Int))).bind fun au=>((cpack_Read.f k 11 1 au.1 ([] : List (List Int))).bind fun ak=>((cpack_Read.f k 11 1 (List.replicate 11 0) (([(([9,2,3,4,5] : List Int))] : List (List Int)))).bind fun ah=>(if (au.1.length : Int)=11 then (if au.2=0 then ((w13_As.f ak.1 ak.2.1 ak.2.2.1).bind fun ai=>((w13_As.f true af ac).bind fun aj=>((r13_Same.f k ai.1 ai.2.1 ai.2.2 aj.1 aj.2.1 aj.2.2).bind fun a8=>(if a8=true then (if ak.2.2.2=0 then (if ah.1=true then (none) else ((r12_Same.f k ah.2.1 (([(([6,0,0,1,2] : List Int))] : List (List Int)))).bind fun aU=>(if aU=true then (if ah.2.2.2=0 then ((cpack_Right.f k 11 1 true af ac).bind fun aQ=>(some aQ)) else (none)) else (none)))) else (none)) else (none))))) else (none)) else (none)))))))=some r:=yrw cf H
 have cg:=zm cf;clear cf
 obtain ⟨af,ch⟩ : ∃ y_ : List (List Int),y_=(([bN] : List (List Int))):=⟨_,rfl⟩
 replace H : ((some (([(([(([0] : List Int)),(([0] : List Int)),(([0,0] : List Int)),(([0,0,0,0] : List Int)),(([0,0,0,0,0,0,0,0] : List Int))] : List (List Int)))] : List (List (List Int))) : List (List (List Int)))).bind fun ac=>((cpack_Write.f k 11 1 true af ac ([] : List (List Int))).bind fun au=>((cpack_Read.f k 11 1 au.1 ([] : List (List Int))).bind fun ak=>((cpack_Read.f k 11 1 (List.replicate 11 0) (([(([9,2,3,4,5] : List Int))] : List (List Int)))).bind fun ah=>(if (au.1.length : Int)=11 then (if au.2=0 then ((w13_As.f ak.1 ak.2.1 ak.2.2.1).bind fun ai=>((w13_As.f true af ac).bind fun aj=>((r13_Same.f k ai.1 ai.2.1 ai.2.2 aj.1 aj.2.1 aj.2.2).bind fun a8=>(if a8=true then (if ak.2.2.2=0 then (if ah.1=true then (none) else ((r12_Same.f k ah.2.1 (([(([6,0,0,1,2] : List Int))] : List (List Int)))).bind fun aU=>(if aU=true then (if ah.2.2.2=0 then ((cpack_Right.f k 11 1 true af ac).bind fun aQ=>(some aQ)) else (none)) else (none)))) else (none)) else (none))))) else (none)) else (none))))))=some r:=yrw ch H
 have ci:=zm ch;clear ch
 obtain ⟨bz,cj⟩ : ∃ y_ : List Int,y_=(([0] : List Int)):=⟨_,rfl⟩
 replace H : ((some (([(([bz,(([0] : List Int)),(([0,0] : List Int)),(([0,0,0,0] : List Int)),(([0,0,0,0,0,0,0,0] : List Int))] : List (List Int)))] : List (List (List Int))) : List (List (List Int)))).bind fun ac=>((cpack_Write.f k 11 1 true af ac ([] : List (List Int))).bind fun au=>((cpack_Read.f k 11 1 au.1 ([] : List (List Int))).bind fun ak=>((cpack_Read.f k 11 1 (List.replicate 11 0) (([(([9,2,3,4,5] : List Int))] : List (List Int)))).bind fun ah=>(if (au.1.length : Int)=11 then (if au.2=0 then ((w13_As.f ak.1 ak.2.1 ak.2.2.1).bind fun ai=>((w13_As.f true af ac).bind fun aj=>((r13_Same.f k ai.1 ai.2.1 ai.2.2 aj.1 aj.2.1 aj.2.2).bind fun a8=>(if a8=true then (if ak.2.2.2=0 then (if ah.1=true then (none) else ((r12_Same.f k ah.2.1 (([(([6,0,0,1,2] : List Int))] : List (List Int)))).bind fun aU=>(if aU=true then (if ah.2.2.2=0 then ((cpack_Right.f k 11 1 true af ac).bind fun aQ=>(some aQ)) else (none)) else (none)))) else (none)) else (none))))) else (none)) else (none))))))=some r:=yrw cj H
 have ck:=zm cj;clear cj
 obtain ⟨bD,cl⟩ : ∃ y_ : List Int,y_=(([0] : List Int)):=⟨_,rfl⟩
 replace H : ((some (([(([bz,bD,(([0,0] : List Int)),(([0,0,0,0] : List Int)),(([0,0,0,0,0,0,0,0] : List Int))] : List (List Int)))] : List (List (List Int))) : List (List (List Int)))).bind fun ac=>((cpack_Write.f k 11 1 true af ac ([] : List (List Int))).bind fun au=>((cpack_Read.f k 11 1 au.1 ([] : List (List Int))).bind fun ak=>((cpack_Read.f k 11 1 (List.replicate 11 0) (([(([9,2,3,4,5] : List Int))] : List (List Int)))).bind fun ah=>(if (au.1.length : Int)=11 then (if au.2=0 then ((w13_As.f ak.1 ak.2.1 ak.2.2.1).bind fun ai=>((w13_As.f true af ac).bind fun aj=>((r13_Same.f k ai.1 ai.2.1 ai.2.2 aj.1 aj.2.1 aj.2.2).bind fun a8=>(if a8=true then (if ak.2.2.2=0 then (if ah.1=true then (none) else ((r12_Same.f k ah.2.1 (([(([6,0,0,1,2] : List Int))] : List (List Int)))).bind fun aU=>(if aU=true then (if ah.2.2.2=0 then ((cpack_Right.f k 11 1 true af ac).bind fun aQ=>(some aQ)) else (none)) else (none)))) else (none)) else (none))))) else (none)) else (none))))))=some r:=yrw cl H
 have cm:=zm cl;clear cl
 obtain ⟨bH,cn⟩ : ∃ y_ : List Int,y_=(([0,0] : List Int)):=⟨_,rfl⟩
 replace H : ((some (([(([bz,bD,bH,(([0,0,0,0] : List Int)),(([0,0,0,0,0,0,0,0] : List Int))] : List (List Int)))] : List (List (List Int))) : List (List (List Int)))).bind fun ac=>((cpack_Write.f k 11 1 true af ac ([] : List (List Int))).bind fun au=>((cpack_Read.f k 11 1 au.1 ([] : List (List Int))).bind fun ak=>((cpack_Read.f k 11 1 (List.replicate 11 0) (([(([9,2,3,4,5] : List Int))] : List (List Int)))).bind fun ah=>(if (au.1.length : Int)=11 then (if au.2=0 then ((w13_As.f ak.1 ak.2.1 ak.2.2.1).bind fun ai=>((w13_As.f true af ac).bind fun aj=>((r13_Same.f k ai.1 ai.2.1 ai.2.2 aj.1 aj.2.1 aj.2.2).bind fun a8=>(if a8=true then (if ak.2.2.2=0 then (if ah.1=true then (none) else ((r12_Same.f k ah.2.1 (([(([6,0,0,1,2] : List Int))] : List (List Int)))).bind fun aU=>(if aU=true then (if ah.2.2.2=0 then ((cpack_Right.f k 11 1 true af ac).bind fun aQ=>(some aQ)) else (none)) else (none)))) else (none)) else (none))))) else (none)) else (none))))))=some r:=yrw cn H
 have co:=zm cn;clear cn
 obtain ⟨bK,cp⟩ : ∃ y_ : List Int,y_=(([0,0,0,0] : List Int)):=⟨_,rfl⟩
 replace H : ((some (([(([bz,bD,bH,bK,(([0,0,0,0,0,0,0,0] : List Int))] : List (List Int)))] : List (List (List Int))) : List (List (List Int)))).bind fun ac=>((cpack_Write.f k 11 1 true af ac ([] : List (List Int))).bind fun au=>((cpack_Read.f k 11 1 au.1 ([] : List (List Int))).bind fun ak=>((cpack_Read.f k 11 1 (List.replicate 11 0) (([(([9,2,3,4,5] : List Int))] : List (List Int)))).bind fun ah=>(if (au.1.length : Int)=11 then (if au.2=0 then ((w13_As.f ak.1 ak.2.1 ak.2.2.1).bind fun ai=>((w13_As.f true af ac).bind fun aj=>((r13_Same.f k ai.1 ai.2.1 ai.2.2 aj.1 aj.2.1 aj.2.2).bind fun a8=>(if a8=true then (if ak.2.2.2=0 then (if ah.1=true then (none) else ((r12_Same.f k ah.2.1 (([(([6,0,0,1,2] : List Int))] : List (List Int)))).bind fun aU=>(if aU=true then (if ah.2.2.2=0 then ((cpack_Right.f k 11 1 true af ac).bind fun aQ=>(some aQ)) else (none)) else (none)))) else (none)) else (none))))) else (none)) else (none))))))=some r:=yrw cp H
 have cq:=zm cp;clear cp
 obtain ⟨bO,cr⟩ : ∃ y_ : List Int,y_=(([0,0,0,0,0,0,0,0] : List Int)):=⟨_,rfl⟩
 replace H : ((some (([(([bz,bD,bH,bK,bO] : List (List Int)))] : List (List (List Int))) : List (List (List Int)))).bind fun ac=>((cpack_Write.f k 11 1 true af ac ([] : List (List Int))).bind fun au=>((cpack_Read.f k 11 1 au.1 ([] : List (List Int))).bind fun ak=>((cpack_Read.f k 11 1 (List.replicate 11 0) (([(([9,2,3,4,5] : List Int))] : List (List Int)))).bind fun ah=>(if (au.1.length : Int)=11 then (if au.2=0 then ((w13_As.f ak.1 ak.2.1 ak.2.2.1).bind fun ai=>((w13_As.f true af ac).bind fun aj=>((r13_Same.f k ai.1 ai.2.1 ai.2.2 aj.1 aj.2.1 aj.2.2).bind fun a8=>(if a8=true then (if ak.2.2.2=0 then (if ah.1=true then (none) else ((r12_Same.f k ah.2.1 (([(([6,0,0,1,2] : List Int))] : List (List Int)))).bind fun aU=>(if aU=true then (if ah.2.2.2=0 then ((cpack_Right.f k 11 1 true af ac).bind fun aQ=>(some aQ)) else (none)) else (none)))) else (none)) else (none))))) else (none)) else (none))))))=some r:=yrw cr H
 have ct:=zm cr;clear cr
 obtain ⟨bP,cu⟩ : ∃ y_ : List (List Int),y_=(([bz,bD,bH,bK,bO] : List (List Int))):=⟨_,rfl⟩
 replace H : ((some (([bP] : List (List (List Int))) : List (List (List Int)))).bind fun ac=>((cpack_Write.f k 11 1 true af ac ([] : List (List Int))).bind fun au=>((cpack_Read.f k 11 1 au.1 ([] : List (List Int))).bind fun ak=>((cpack_Read.f k 11 1 (List.replicate 11 0) (([(([9,2,3,4,5] : List Int))] : List (List Int)))).bind fun ah=>(if (au.1.length : Int)=11 then (if au.2=0 then ((w13_As.f ak.1 ak.2.1 ak.2.2.1).bind fun ai=>((w13_As.f true af ac).bind fun aj=>((r13_Same.f k ai.1 ai.2.1 ai.2.2 aj.1 aj.2.1 aj.2.2).bind fun a8=>(if a8=true then (if ak.2.2.2=0 then (if ah.1=true then (none) else ((r12_Same.f k ah.2.1 (([(([6,0,0,1,2] : List Int))] : List (List Int)))).bind fun aU=>(if aU=true then (if ah.2.2.2=0 then ((cpack_Right.f k 11 1 true af ac).bind fun aQ=>(some aQ)) else (none)) else (none)))) else (none)) else (none))))) else (none)) else (none))))))=some r:=yrw cu H
 have cv:=zm cu;clear cu
 obtain ⟨ac,cw⟩ : ∃ y_ : List (List (List Int)),y_=(([bP] : List (List (List Int)))):=⟨_,rfl⟩
 replace H : ((cpack_Write.f k 11 1 true af ac ([] : List (List Int))).bind fun au=>((cpack_Read.f k 11 1 au.1 ([] : List (List Int))).bind fun ak=>((cpack_Read.f k 11 1 (List.replicate 11 0) (([(([9,2,3,4,5] : List Int))] : List (List Int)))).bind fun ah=>(if (au.1.length : Int)=11 then (if au.2=0 then ((w13_As.f ak.1 ak.2.1 ak.2.2.1).bind fun ai=>((w13_As.f true af ac).bind fun aj=>((r13_Same.f k ai.1 ai.2.1 ai.2.2 aj.1 aj.2.1 aj.2.2).bind fun a8=>(if a8=true then (if ak.2.2.2=0 then (if ah.1=true then (none) else ((r12_Same.f k ah.2.1 (([(([6,0,0,1,2] : List Int))] : List (List Int)))).bind fun aU=>(if aU=true then (if ah.2.2.2=0 then ((cpack_Right.f k 11 1 true af ac).bind fun aQ=>(some aQ)) else (none)) else (none)))) else (none)) else (none))))) else (none)) else (none)))))=some r:=yrw cw H
 have cx:=zm cw;clear cw
 obtain ⟨⟨aD,cy⟩,A1,H⟩:=ybi H
 try dsimp only at H
 obtain ⟨⟨bI,aE,aG,cz⟩,A2,H⟩:=ybi H
 try dsimp only at H
 obtain ⟨aT,cA⟩ : ∃ y_ : List Int,y_=(List.replicate 11 0):=⟨_,rfl⟩
 replace H : ((cpack_Read.f k 11 1 aT (([(([9,2,3,4,5] : List Int))] : List (List Int)))).bind fun ah=>(if (aD.length : Int)=11 then (if cy=0 then ((w13_As.f bI aE aG).bind fun ai=>((w13_As.f true af ac).bind fun aj=>((r13_Same.f k ai.1 ai.2.1 ai.2.2 aj.1 aj.2.1 aj.2.2).bind fun a8=>(if a8=true then (if cz=0 then (if ah.1=true then (none) else ((r12_Same.f k ah.2.1 (([(([6,0,0,1,2] : List Int))] : List (List Int)))).bind fun aU=>(if aU=true then (if ah.2.2.2=0 then ((cpack_Right.f k 11 1 true af ac).bind fun aQ=>(some aQ)) else (none)) else (none)))) else (none)) else (none))))) else (none)) else (none)))=some r:=yrw cA H
 have cB:=zm cA;clear cA
 obtain ⟨bQ,cC⟩ : ∃ y_ : List Int,y_=(([9,2,3,4,5] : List Int)):=⟨_,rfl⟩
 replace H : ((cpack_Read.f k 11 1 aT (([bQ] : List (List Int)))).bind fun ah=>(if (aD.length : Int)=11 then (if cy=0 then ((w13_As.f bI aE aG).bind fun ai=>((w13_As.f true af ac).bind fun aj=>((r13_Same.f k ai.1 ai.2.1 ai.2.2 aj.1 aj.2.1 aj.2.2).bind fun a8=>(if a8=true then (if cz=0 then (if ah.1=true then (none) else ((r12_Same.f k ah.2.1 (([(([6,0,0,1,2] : List Int))] : List (List Int)))).bind fun aU=>(if aU=true then (if ah.2.2.2=0 then ((cpack_Right.f k 11 1 true af ac).bind fun aQ=>(some aQ)) else (none)) else (none)))) else (none)) else (none))))) else (none)) else (none)))=some r:=yrw cC H
 have cD:=zm cC;clear cC
 obtain ⟨a7,cE⟩ : ∃ y_ : List (List Int),y_=(([bQ] : List (List Int))):=⟨_,rfl⟩
 replace H : ((cpack_Read.f k 11 1 aT a7).bind fun ah=>(if (aD.length : Int)=11 then (if cy=0 then ((w13_As.f bI aE aG).bind fun ai=>((w13_As.f true af ac).bind fun aj=>((r13_Same.f k ai.1 ai.2.1 ai.2.2 aj.1 aj.2.1 aj.2.2).bind fun a8=>(if a8=true then (if cz=0 then (if ah.1=true then (none) else ((r12_Same.f k ah.2.1 (([(([6,0,0,1,2] : List Int))] : List (List Int)))).bind fun aU=>(if aU=true then (if ah.2.2.2=0 then ((cpack_Right.f k 11 1 true af ac).bind fun aQ=>(some aQ)) else (none)) else (none)))) else (none)) else (none))))) else (none)) else (none)))=some r:=yrw cE H
 have cF:=zm cE;clear cE
 obtain ⟨⟨em,aV,a9,cN⟩,A3,H⟩:=ybi H
 try dsimp only at H
 by_cases c4 : (aD.length : Int)=11
 ·
  rw [za4 c4] at H
  obtain ⟨dC,dD⟩:=yE c4
  clear c4
  by_cases c5 : cy=0
  ·
   rw [za4 c5] at H
   obtain ⟨dE,dF⟩:=yE c5
   clear c5
   obtain ⟨⟨cP,cQ,cR⟩,A6,H⟩:=ybi H
   try dsimp only at H
   obtain ⟨⟨cS,cT,cU⟩,A7,H⟩:=ybi H
   try dsimp only at H
   obtain ⟨a8,A8,H⟩:=ybi H
   obtain ⟨c9,H⟩:=yif H
   subst c9
   by_cases c10 : cz=0
   ·
    rw [za4 c10] at H
    obtain ⟨cV,cW⟩:=yE c10
    clear c10
    obtain ⟨c11,H⟩:=yie H
    replace c11:=za3.mpr c11
    subst c11
    obtain ⟨bR,cG⟩ : ∃ y_ : List Int,y_=(([6,0,0,1,2] : List Int)):=⟨_,rfl⟩
    replace H : ((r12_Same.f k aV (([bR] : List (List Int)))).bind fun aU=>(if aU=true then (if cN=0 then ((cpack_Right.f k 11 1 true af ac).bind fun aQ=>(some aQ)) else (none)) else (none)))=some r:=yrw cG H
    have cH:=zm cG;clear cG
    obtain ⟨cO,cI⟩ : ∃ y_ : List (List Int),y_=(([bR] : List (List Int))):=⟨_,rfl⟩
    replace H : ((r12_Same.f k aV cO).bind fun aU=>(if aU=true then (if cN=0 then ((cpack_Right.f k 11 1 true af ac).bind fun aQ=>(some aQ)) else (none)) else (none)))=some r:=yrw cI H
    have cJ:=zm cI;clear cI
    obtain ⟨aU,A12,H⟩:=ybi H
    obtain ⟨c13,H⟩:=yif H
    subst c13
    by_cases c14 : cN=0
    ·
     rw [za4 c14] at H
     obtain ⟨cX,cY⟩:=yE c14
     clear c14
     obtain ⟨aQ,A15,H⟩:=ybi H
     obtain rfl:=zO H
     go_enter Try.func11,Try.ntmps11
     try go_wp2_with (first|((with_reducible refine zL (N:=8) rfl ?_);(try (refine gate_guard (by rfl) ?_;dsimp only));refine Kd.R_lit (Kd.int .i64) _ 3 ?hg (N:=8) ?hd (xs:=([0,0,0,0,0] : List Int)) (inner := [.int .i64 0, .int .i64 0, .int .i64 0, .int .i64 0, .int .i64 0]) (ok:=fun _=>True) (okp:=fun _=>True) ?hr ?hp (fun _ hk=>hk) trivial (zY _ _) (zX _) (by simp) ?_;(case hd=>rfl);(case hg=>rfl);(case hr=>first|(go_simp;done)|(go_simp;rfl));(case hp=>exact (Reps.one (show Kd.M (Kd.int .i64) _ _ _ 0 [.int .i64 0] from rfl) (Reps.one (show Kd.M (Kd.int .i64) _ _ _ 0 [.int .i64 0] from rfl) (Reps.one (show Kd.M (Kd.int .i64) _ _ _ 0 [.int .i64 0] from rfl) (Reps.one (show Kd.M (Kd.int .i64) _ _ _ 0 [.int .i64 0] from rfl) (Reps.one (show Kd.M (Kd.int .i64) _ _ _ 0 [.int .i64 0] from rfl) (Reps.none _ _)))))));intro en w16 b4 hb hg_ hnew_;clear hg_ hnew_;(first|rw [← cg.out] at b4|(simp only [Int.reduceToNat] at b4;rw [← cg.out] at b4)|rw [show (List.replicate (Int.toNat 11) (0 : Int))=bN from cg.out.symm] at b4);have bV:=zm (za0 b4 (zE yhb));replace HB:=ybs hb;clear hb b4;obtain ⟨cZ,da,dG⟩:=zT bV.out;subst dG)|((with_reducible refine zL (N:=9) rfl ?_);(try (refine gate_guard (by rfl) ?_;dsimp only));refine Kd.N_lit (Kd.slice 3 (Kd.int .i64)) _ 49 ?hg (N' := 9) ?hd (xs:=([bN] : List (List Int))) (inner := [.slice cZ bN.length da]) (ok:=(fun _=>True)) (okp:=(fun _=>True)) ?hr ?hp (fun _ hk=>hk) ((show ∀ k_,w16.heap.size≤k_→(fun _=>True) k_ from fun k_ hk=>trivial) _ (zX _)) (zY _ _) (zX _) (by simp) ?_;(case hd=>rfl);(case hg=>rfl);(case hr=>first|(go_simp;done)|(go_simp;rfl));(case hp=>exact (Reps.one (show Kd.FK (Kd.slice 3 (Kd.int .i64)) _ _ bN [.slice cZ bN.length da] from (Kd.FK_slice_mk (zQ (zG (ok' := (fun _=>True)) (bV.out) (fun k_ hk=>trivial))).2.1 (Kd.R_F (zG (ok' := (fun _=>True)) (bV.out) (fun k_ hk=>trivial))))) (Reps.none _ _)));intro bp w19 b5 hb hg_ hnew_;clear hg_ hnew_;(first|rw [← ci.out] at b5|(simp only [Int.reduceToNat] at b5;rw [← ci.out] at b5)|rw [show (List.replicate (Int.toNat 11) (0 : Int))=af from ci.out.symm] at b5);have aa:=zm (Kd.N_lower b5 (zE yhb));replace HB:=ybs hb;clear bV;clear hb b5)|((with_reducible refine zL (N:=10) rfl ?_);(try (refine gate_guard (by rfl) ?_;dsimp only));refine Kd.R_lit (Kd.int .i64) _ 3 ?hg (N:=10) ?hd (xs:=([0] : List Int)) (inner := [.int .i64 0]) (ok:=fun _=>True) (okp:=fun _=>True) ?hr ?hp (fun _ hk=>hk) trivial (zY _ _) (zX _) (by simp) ?_;(case hd=>rfl);(case hg=>rfl);(case hr=>first|(go_simp;done)|(go_simp;rfl));(case hp=>exact (Reps.one (show Kd.M (Kd.int .i64) _ _ _ 0 [.int .i64 0] from rfl) (Reps.none _ _)));intro eo w21 bS hb hg_ hnew_;clear hg_ hnew_;(first|rw [← ck.out] at bS|(simp only [Int.reduceToNat] at bS;rw [← ck.out] at bS)|rw [show (List.replicate (Int.toNat 11) (0 : Int))=bz from ck.out.symm] at bS);replace aa:=zm (Kd.N_elder' (yr aa) (zW bS) hb);have bc:=zm (za0 bS (zE yhb));replace HB:=ybs hb;clear hb bS)|((with_reducible refine zL (N:=11) rfl ?_);(try (refine gate_guard (by rfl) ?_;dsimp only));refine Kd.R_lit (Kd.int .i64) _ 3 ?hg (N:=11) ?hd (xs:=([0] : List Int)) (inner := [.int .i64 0]) (ok:=fun _=>True) (okp:=fun _=>True) ?hr ?hp (fun _ hk=>hk) trivial (zY _ _) (zX _) (by simp) ?_;(case hd=>rfl);(case hg=>rfl);(case hr=>first|(go_simp;done)|(go_simp;rfl));(case hp=>exact (Reps.one (show Kd.M (Kd.int .i64) _ _ _ 0 [.int .i64 0] from rfl) (Reps.none _ _)));intro ep w23 bL hb hg_ hnew_;clear hg_ hnew_;(first|rw [← cm.out] at bL|(simp only [Int.reduceToNat] at bL;rw [← cm.out] at bL)|rw [show (List.replicate (Int.toNat 11) (0 : Int))=bD from cm.out.symm] at bL);replace aa:=zm (Kd.N_elder' (yr aa) (zW bL) hb);have bm:=zm (za0 (Kd.R_new' bL (Kd.R_lt (yr bc))) (zE yhb));replace bc:=zm (za6 (yr bc) (zW bL) hb);replace HB:=ybs hb;clear hb bL)|((with_reducible refine zL (N:=12) rfl ?_);(try (refine gate_guard (by rfl) ?_;dsimp only));refine Kd.R_lit (Kd.int .i64) _ 3 ?hg (N:=12) ?hd (xs:=([0,0] : List Int)) (inner := [.int .i64 0, .int .i64 0]) (ok:=fun _=>True) (okp:=fun _=>True) ?hr ?hp (fun _ hk=>hk) trivial (zY _ _) (zX _) (by simp) ?_;(case hd=>rfl);(case hg=>rfl);(case hr=>first|(go_simp;done)|(go_simp;rfl));(case hp=>exact (Reps.one (show Kd.M (Kd.int .i64) _ _ _ 0 [.int .i64 0] from rfl) (Reps.one (show Kd.M (Kd.int .i64) _ _ _ 0 [.int .i64 0] from rfl) (Reps.none _ _))));intro eq w25 bJ hb hg_ hnew_;clear hg_ hnew_;(first|rw [← co.out] at bJ|(simp only [Int.reduceToNat] at bJ;rw [← co.out] at bJ)|rw [show (List.replicate (Int.toNat 11) (0 : Int))=bH from co.out.symm] at bJ);replace aa:=zm (Kd.N_elder' (yr aa) (zW bJ) hb);have bx:=zm (za0 (Kd.R_new' (Kd.R_new' bJ (Kd.R_lt (yr bc))) (Kd.R_lt (yr bm))) (zE yhb));replace bc:=zm (za6 (yr bc) (zW bJ) hb);replace bm:=zm (za6 (yr bm) (zW bJ) hb);replace HB:=ybs hb;clear hb bJ)|((with_reducible refine zL (N:=13) rfl ?_);(try (refine gate_guard (by rfl) ?_;dsimp only));refine Kd.R_lit (Kd.int .i64) _ 3 ?hg (N:=13) ?hd (xs:=([0,0,0,0] : List Int)) (inner := [.int .i64 0, .int .i64 0, .int .i64 0, .int .i64 0]) (ok:=fun _=>True) (okp:=fun _=>True) ?hr ?hp (fun _ hk=>hk) trivial (zY _ _) (zX _) (by simp) ?_;(case hd=>rfl);(case hg=>rfl);(case hr=>first|(go_simp;done)|(go_simp;rfl));(case hp=>exact (Reps.one (show Kd.M (Kd.int .i64) _ _ _ 0 [.int .i64 0] from rfl) (Reps.one (show Kd.M (Kd.int .i64) _ _ _ 0 [.int .i64 0] from rfl) (Reps.one (show Kd.M (Kd.int .i64) _ _ _ 0 [.int .i64 0] from rfl) (Reps.one (show Kd.M (Kd.int .i64) _ _ _ 0 [.int .i64 0] from rfl) (Reps.none _ _))))));intro er w27 bE hb hg_ hnew_;clear hg_ hnew_;(first|rw [← cq.out] at bE|(simp only [Int.reduceToNat] at bE;rw [← cq.out] at bE)|rw [show (List.replicate (Int.toNat 11) (0 : Int))=bK from cq.out.symm] at bE);replace aa:=zm (Kd.N_elder' (yr aa) (zW bE) hb);have bA:=zm (za0 (Kd.R_new' (Kd.R_new' (Kd.R_new' bE (Kd.R_lt (yr bc))) (Kd.R_lt (yr bm))) (Kd.R_lt (yr bx))) (zE yhb));replace bc:=zm (za6 (yr bc) (zW bE) hb);replace bm:=zm (za6 (yr bm) (zW bE) hb);replace bx:=zm (za6 (yr bx) (zW bE) hb);replace HB:=ybs hb;clear hb bE)|((with_reducible refine zL (N:=14) rfl ?_);(try (refine gate_guard (by rfl) ?_;dsimp only));refine Kd.R_lit (Kd.int .i64) _ 3 ?hg (N:=14) ?hd (xs:=([0,0,0,0,0,0,0,0] : List Int)) (inner := [.int .i64 0, .int .i64 0, .int .i64 0, .int .i64 0, .int .i64 0, .int .i64 0, .int .i64 0, .int .i64 0]) (ok:=fun _=>True) (okp:=fun _=>True) ?hr ?hp (fun _ hk=>hk) trivial (zY _ _) (zX _) (by simp) ?_;(case hd=>rfl);(case hg=>rfl);(case hr=>first|(go_simp;done)|(go_simp;rfl));(case hp=>exact (Reps.one (show Kd.M (Kd.int .i64) _ _ _ 0 [.int .i64 0] from rfl) (Reps.one (show Kd.M (Kd.int .i64) _ _ _ 0 [.int .i64 0] from rfl) (Reps.one (show Kd.M (Kd.int .i64) _ _ _ 0 [.int .i64 0] from rfl) (Reps.one (show Kd.M (Kd.int .i64) _ _ _ 0 [.int .i64 0] from rfl) (Reps.one (show Kd.M (Kd.int .i64) _ _ _ 0 [.int .i64 0] from rfl) (Reps.one (show Kd.M (Kd.int .i64) _ _ _ 0 [.int .i64 0] from rfl) (Reps.one (show Kd.M (Kd.int .i64) _ _ _ 0 [.int .i64 0] from rfl) (Reps.one (show Kd.M (Kd.int .i64) _ _ _ 0 [.int .i64 0] from rfl) (Reps.none _ _))))))))));intro es w29 bB hb hg_ hnew_;clear hg_ hnew_;(first|rw [← ct.out] at bB|(simp only [Int.reduceToNat] at bB;rw [← ct.out] at bB)|rw [show (List.replicate (Int.toNat 11) (0 : Int))=bO from ct.out.symm] at bB);replace aa:=zm (Kd.N_elder' (yr aa) (zW bB) hb);have bW:=zm (za0 (Kd.R_new' (Kd.R_new' (Kd.R_new' (Kd.R_new' bB (Kd.R_lt (yr bc))) (Kd.R_lt (yr bm))) (Kd.R_lt (yr bx))) (Kd.R_lt (yr bA))) (zE yhb));replace bc:=zm (za6 (yr bc) (zW bB) hb);replace bm:=zm (za6 (yr bm) (zW bB) hb);replace bx:=zm (za6 (yr bx) (zW bB) hb);replace bA:=zm (za6 (yr bA) (zW bB) hb);replace HB:=ybs hb;clear hb bB;obtain ⟨db,dc,dH⟩:=zT bc.out;subst dH;obtain ⟨dd,de,dI⟩:=zT bm.out;subst dI;obtain ⟨df,dg,dJ⟩:=zT bx.out;subst dJ;obtain ⟨dh,di,dK⟩:=zT bA.out;subst dK;obtain ⟨dj,dk,dL⟩:=zT bW.out;subst dL)|((with_reducible refine zL (N:=15) rfl ?_);(try (refine gate_guard (by rfl) ?_;dsimp only));refine Kd.N_lit (Kd.slice 3 (Kd.int .i64)) _ 49 ?hg (N' := 15) ?hd (xs:=([bz,bD,bH,bK,bO] : List (List Int))) (inner := [.slice db bz.length dc, .slice dd bD.length de, .slice df bH.length dg, .slice dh bK.length di, .slice dj bO.length dk]) (ok:=(fun k_=>some k_≠(bp : Value).ownBlock)) (okp:=(fun k_=>some k_≠(bp : Value).ownBlock)) ?hr ?hp (fun _ hk=>hk) ((show ∀ k_,w29.heap.size≤k_→(fun k_=>some k_≠(bp : Value).ownBlock) k_ from fun k_ hk=>zc2 (Kd.N_lt (yr aa)) k_ hk) _ (zX _)) (zY _ _) (zX _) (by simp) ?_;(case hd=>rfl);(case hg=>rfl);(case hr=>first|(go_simp;done)|(go_simp;rfl));(case hp=>exact (Reps.one (show Kd.FK (Kd.slice 3 (Kd.int .i64)) _ _ bz [.slice db bz.length dc] from (Kd.FK_slice_mk (zQ (zG (ok' := (fun k_=>some k_≠(bp : Value).ownBlock)) (zZ (bc.out) (Kd.N_typed aa.out) (by decide)) (fun k_ hk=>hk.2))).2.1 (Kd.R_F (zG (ok' := (fun k_=>some k_≠(bp : Value).ownBlock)) (zZ (bc.out) (Kd.N_typed aa.out) (by decide)) (fun k_ hk=>hk.2))))) (Reps.one (show Kd.FK (Kd.slice 3 (Kd.int .i64)) _ _ bD [.slice dd bD.length de] from (Kd.FK_slice_mk (zQ (zG (ok' := (fun k_=>some k_≠(bp : Value).ownBlock)) (zZ (bm.out) (Kd.N_typed aa.out) (by decide)) (fun k_ hk=>hk.2))).2.1 (Kd.R_F (zG (ok' := (fun k_=>some k_≠(bp : Value).ownBlock)) (zZ (bm.out) (Kd.N_typed aa.out) (by decide)) (fun k_ hk=>hk.2))))) (Reps.one (show Kd.FK (Kd.slice 3 (Kd.int .i64)) _ _ bH [.slice df bH.length dg] from (Kd.FK_slice_mk (zQ (zG (ok' := (fun k_=>some k_≠(bp : Value).ownBlock)) (zZ (bx.out) (Kd.N_typed aa.out) (by decide)) (fun k_ hk=>hk.2))).2.1 (Kd.R_F (zG (ok' := (fun k_=>some k_≠(bp : Value).ownBlock)) (zZ (bx.out) (Kd.N_typed aa.out) (by decide)) (fun k_ hk=>hk.2))))) (Reps.one (show Kd.FK (Kd.slice 3 (Kd.int .i64)) _ _ bK [.slice dh bK.length di] from (Kd.FK_slice_mk (zQ (zG (ok' := (fun k_=>some k_≠(bp : Value).ownBlock)) (zZ (bA.out) (Kd.N_typed aa.out) (by decide)) (fun k_ hk=>hk.2))).2.1 (Kd.R_F (zG (ok' := (fun k_=>some k_≠(bp : Value).ownBlock)) (zZ (bA.out) (Kd.N_typed aa.out) (by decide)) (fun k_ hk=>hk.2))))) (Reps.one (show Kd.FK (Kd.slice 3 (Kd.int .i64)) _ _ bO [.slice dj bO.length dk] from (Kd.FK_slice_mk (zQ (zG (ok' := (fun k_=>some k_≠(bp : Value).ownBlock)) (zZ (bW.out) (Kd.N_typed aa.out) (by decide)) (fun k_ hk=>hk.2))).2.1 (Kd.R_F (zG (ok' := (fun k_=>some k_≠(bp : Value).ownBlock)) (zZ (bW.out) (Kd.N_typed aa.out) (by decide)) (fun k_ hk=>hk.2))))) (Reps.none _ _)))))));intro et w36 bT hb hg_ hnew_;clear hg_ hnew_;(first|rw [← cv.out] at bT|(simp only [Int.reduceToNat] at bT;rw [← cv.out] at bT)|rw [show (List.replicate (Int.toNat 11) (0 : Int))=bP from cv.out.symm] at bT);replace aa:=zm (Kd.N_elder' (yr aa) (Kd.N_base bT) hb);have bX:=zm (Kd.N_lower bT (zE yhb));replace HB:=ybs hb;clear bc;clear bm;clear bx;clear bA;clear bW;clear hb bT;obtain ⟨dl,dm,dM⟩:=Kd.N_slice bX.out;subst dM)|((with_reducible refine zL (N:=16) rfl ?_);(try (refine gate_guard (by rfl) ?_;dsimp only));refine Kd.N_lit (Kd.slice 49 (Kd.slice 3 (Kd.int .i64))) _ 22 ?hg (N' := 16) ?hd (xs:=([bP] : List (List (List Int)))) (inner := [.slice dl bP.length dm]) (ok:=(fun k_=>some k_≠(bp : Value).ownBlock)) (okp:=(fun k_=>some k_≠(bp : Value).ownBlock)) ?hr ?hp (fun _ hk=>hk) ((show ∀ k_,w36.heap.size≤k_→(fun k_=>some k_≠(bp : Value).ownBlock) k_ from fun k_ hk=>zc2 (Kd.N_lt (yr aa)) k_ hk) _ (zX _)) (zY _ _) (zX _) (by simp) ?_;(case hd=>rfl);(case hg=>rfl);(case hr=>first|(go_simp;done)|(go_simp;rfl));(case hp=>exact (Reps.one (show Kd.FK (Kd.slice 49 (Kd.slice 3 (Kd.int .i64))) _ _ bP [.slice dl bP.length dm] from (Kd.FK_slice_mk (Kd.N_reads' (Kd.N_mono (ok' := (fun k_=>some k_≠(bp : Value).ownBlock)) (bX.out) (fun k_ hk=>hk))).2.1 (Kd.N_F (Kd.N_mono (ok' := (fun k_=>some k_≠(bp : Value).ownBlock)) (bX.out) (fun k_ hk=>hk))))) (Reps.none _ _)));intro eu w39 bU hb hg_ hnew_;clear hg_ hnew_;(first|rw [← cx.out] at bU|(simp only [Int.reduceToNat] at bU;rw [← cx.out] at bU)|rw [show (List.replicate (Int.toNat 11) (0 : Int))=ac from cx.out.symm] at bU);replace aa:=zm (Kd.N_elder' (yr aa) (Kd.N_base bU) hb);have ae:=zm (Kd.N_lower bU (zE yhb));replace HB:=ybs hb;clear bX;clear hb bU;obtain ⟨aJ,aH,dN⟩:=Kd.N_slice ae.out;subst dN;obtain ⟨aK,aI,dO⟩:=Kd.N_slice aa.out;subst dO)|((with_reducible refine zL (N:=1) rfl ?_);(try (refine gate_guard (by rfl) ?_;dsimp only));refine ybx 1 #[.bool false, .slice none 0 0, .slice none 0 0] 25 ?_;intro av hg w43 hbox hb;replace aa:=zm (Kd.N_below (Kd.N_elderB (yr aa) av (Nat.le_of_eq hg.symm)) hb);replace ae:=zm (Kd.N_below (Kd.N_elderB (yr ae) av (Nat.le_of_eq hg.symm)) hb);have ag:=zm (hbox);have eg:=ygw hg;have eh:=ygw hg;replace HB:=ybs hb;clear hb hbox hg;obtain ⟨_,_,_,_,_,_⟩:=yc3 ag)|((with_reducible refine zK (f:=12) rfl ?_);refine ygl 20 Try.func12 #[.int .i64 11, .int .i64 1, .agg #[.bool true, .slice aK af.length aI, .slice aJ ac.length aH], .slice none 0 0] ?_;(refine (cpack_Write.calls k 11 1 true _ _ af _ _ ac _ _ ([] : List (List Int)) aD cy _ ?bg ?bh ?bq ?br ?cK ?cL A1.out).mono ?_);(case bg=>refine (Kd.N_reads' (e:=49) (base:=w.heap.size) (ok:=fun k_=>(some k_≠(.slice aJ ac.length aH : Value).ownBlock∧k_≠av)) (n:=af.length) (c:=aI) ?_).2.2;refine' Kd.N_mono ?own_ ?hk_;(case own_=>exact (yN0 aa));(case hk_=>exact fun k_ hk_=>⟨hk_.1.2,hk_.2⟩));(case bh=>exact (Kd.N_reads' aa.out).2.1);(case bq=>refine (Kd.N_reads' (e:=22) (base:=w.heap.size) (ok:=fun k_=>(some k_≠(.slice aK af.length aI : Value).ownBlock∧k_≠av)) (n:=ac.length) (c:=aH) ?_).2.2;exact (yN0 ae));(case br=>exact (Kd.N_reads' ae.out).2.1);(case cK=>exact Kd.C_nil _ _);(case cL=>exact zX _);rintro e w45 ⟨ev,rfl,ho0,hb⟩;refine ⟨_,rfl, ?_⟩;replace aa:=zm (Kd.N_elder' (yN0 aa) (zW ho0) hb);replace ae:=zm (Kd.N_elder' (yN0 ae) (zW ho0) hb);have al:=zm (za0 ho0 (zE yhb));replace ag:=zm (zF (g:=av) (o:=.cells #[.bool true, .slice aK af.length aI, .slice aJ ac.length aH] 25 (0,0)) (ykp ag) hb);replace HB:=ybs hb;(try clear hb);(try clear ho0);obtain ⟨aM,aN,dP⟩:=zT al.out;subst dP)|((with_reducible refine zK (f:=20) rfl ?_);refine ygl 25 Try.func20 #[.int .i64 11, .int .i64 1, .slice aM aD.length aN, .slice none 0 0] ?_;(refine (cpack_Read.calls k 11 1 _ _ aD _ _ ([] : List (List Int)) bI aE aG cz _ ?bg ?bh ?bq ?br A2.out).mono ?_);(case bg=>exact yce (zQ al.out).2.2);(case bh=>exact (zQ al.out).2.1);(case bq=>exact Kd.C_nil _ _);(case br=>exact zX _);rintro e w47 ⟨dQ,dR,rfl,ho0,ho1,hb⟩;refine ⟨_,rfl, ?_⟩;have ao:=zm (Kd.N_lower (Kd.N_mono (ok' := fun k_=>some k_≠(dR : Value).ownBlock∧some k_≠(.slice aK af.length aI : Value).ownBlock∧some k_≠(.slice aJ ac.length aH : Value).ownBlock∧some k_≠(.slice aM aD.length aN : Value).ownBlock∧k_≠av) (Kd.S_N (Kd.S_bound (Kd.S_apart' ho0 (Kd.R_typed ho1) (by decide)))) (fun k_ hk_=>⟨hk_.1.2,(zc2 (Kd.N_lt (yr aa)) k_ hk_.2.1),(zc2 (Kd.N_lt (yr ae)) k_ hk_.2.1),(zc2 (Kd.R_lt (yr al)) k_ hk_.2.1),(Kd.freshB (yk ag) k_ hk_.2.1)⟩)) (zE yhb));have ap:=zm (Kd.N_lower (Kd.N_mono (ok' := fun k_=>some k_≠(dQ : Value).ownBlock∧some k_≠(.slice aK af.length aI : Value).ownBlock∧some k_≠(.slice aJ ac.length aH : Value).ownBlock∧some k_≠(.slice aM aD.length aN : Value).ownBlock∧k_≠av) (Kd.R_N (Kd.R_bound ho1)) (fun k_ hk_=>⟨hk_.1,(zc2 (Kd.N_lt (yr aa)) k_ hk_.2.1),(zc2 (Kd.N_lt (yr ae)) k_ hk_.2.1),(zc2 (Kd.R_lt (yr al)) k_ hk_.2.1),(Kd.freshB (yk ag) k_ hk_.2.1)⟩)) (zE yhb));replace aa:=zm (Kd.N_mono (Kd.N_told (Kd.N_told (Kd.N_old (yr aa) hb) (Kd.S_base ho0)) (zW ho1)) (fun _ h_=>h_.1));replace ae:=zm (Kd.N_mono (Kd.N_told (Kd.N_told (Kd.N_old (yr ae) hb) (Kd.S_base ho0)) (zW ho1)) (fun _ h_=>h_.1));replace al:=yRb al hb;replace ag:=ybb ag hb;replace HB:=ybs hb;(try clear hb);(try clear ho0);(try clear ho1))|((with_reducible refine zL (N:=4) rfl ?_);(try (refine gate_guard (by rfl) ?_;dsimp only));refine ybx 4 #[.bool false, .slice none 0 0, .slice none 0 0] 25 ?_;intro aw hg w48 hbox hb;replace aa:=zm (Kd.N_below (Kd.N_elderB (yr aa) aw (Nat.le_of_eq hg.symm)) hb);replace ae:=zm (Kd.N_below (Kd.N_elderB (yr ae) aw (Nat.le_of_eq hg.symm)) hb);replace al:=yRb al hb;replace ao:=zm (Kd.N_below (Kd.N_elderB (yr ao) aw (Nat.le_of_eq hg.symm)) hb);replace ap:=zm (Kd.N_below (Kd.N_elderB (yr ap) aw (Nat.le_of_eq hg.symm)) hb);have am:=zm (hbox);have ei:=ygw hg;have ej:=ygw hg;replace HB:=ybs hb;have b6:=ynl ag hg;have b7:=yng ag hg;replace ag:=ybb ag hb;clear hb hbox hg;have:=b7.out;have:=b6.out;obtain ⟨_,_,_,_,_,_⟩:=yc3 am;obtain ⟨aW,aX,dS⟩:=Kd.N_slice ao.out;subst dS;obtain ⟨aY,aZ,dT⟩:=Kd.N_slice ap.out;subst dT)|((with_reducible refine zL (N:=29) rfl ?_);(try (refine gate_guard (by rfl) ?_;dsimp only));refine Kd.R_make (Kd.int .u8) _ 5 rfl (N:=29) rfl 28 _ _ rfl 11 rfl rfl Try.underlying28 (.int .u8 0) 1 info5 rfl (by decide) (by omega) 0 (ok:=fun _=>True) (okp:=fun _=>True) rfl (fun _ hk=>hk) trivial (by omega) (by omega) (zY _ _) (zX _) ?_;intro cM w53 bC hb hg_ hnew_;clear hg_ hnew_;(first|rw [← cB.out] at bC|(simp only [Int.reduceToNat] at bC;rw [← cB.out] at bC)|rw [show (List.replicate (Int.toNat 11) (0 : Int))=aT from cB.out.symm] at bC);replace aa:=zm (Kd.N_elder' (yN0 aa) (zW bC) hb);replace ae:=zm (Kd.N_elder' (yN0 ae) (zW bC) hb);replace ao:=zm (Kd.N_elder' (yN0 ao) (zW bC) hb);replace ap:=zm (Kd.N_elder' (yN0 ap) (zW bC) hb);have aq:=zm (za0 (Kd.R_new' bC (Kd.R_lt (yR1 al am))) (zE yhb));replace al:=zm (za6 (yR1 al am) (zW bC) hb);replace ag:=ybb ag hb;replace am:=zm (zF (g:=aw) (o:=.cells #[.bool bI, .slice aW aE.length aX, .slice aY aG.length aZ] 25 (0,0)) (ykp am) hb);replace HB:=ybs hb;clear hb bC)|((with_reducible refine zL (N:=30) rfl ?_);(try (refine gate_guard (by rfl) ?_;dsimp only));refine Kd.R_lit (Kd.int .i64) _ 3 ?hg (N:=30) ?hd (xs:=([9,2,3,4,5] : List Int)) (inner := [.int .i64 9, .int .i64 2, .int .i64 3, .int .i64 4, .int .i64 5]) (ok:=fun _=>True) (okp:=fun _=>True) ?hr ?hp (fun _ hk=>hk) trivial (zY _ _) (zX _) (by simp) ?_;(case hd=>rfl);(case hg=>rfl);(case hr=>first|(go_simp;done)|(go_simp;rfl));(case hp=>exact (Reps.one (show Kd.M (Kd.int .i64) _ _ _ 9 [.int .i64 9] from rfl) (Reps.one (show Kd.M (Kd.int .i64) _ _ _ 2 [.int .i64 2] from rfl) (Reps.one (show Kd.M (Kd.int .i64) _ _ _ 3 [.int .i64 3] from rfl) (Reps.one (show Kd.M (Kd.int .i64) _ _ _ 4 [.int .i64 4] from rfl) (Reps.one (show Kd.M (Kd.int .i64) _ _ _ 5 [.int .i64 5] from rfl) (Reps.none _ _)))))));intro ew w55 bF hb hg_ hnew_;clear hg_ hnew_;(first|rw [← cD.out] at bF|(simp only [Int.reduceToNat] at bF;rw [← cD.out] at bF)|rw [show (List.replicate (Int.toNat 11) (0 : Int))=bQ from cD.out.symm] at bF);replace aa:=zm (Kd.N_elder' (yr aa) (zW bF) hb);replace ae:=zm (Kd.N_elder' (yr ae) (zW bF) hb);replace al:=yRb al hb;replace ao:=zm (Kd.N_elder' (yr ao) (zW bF) hb);replace ap:=zm (Kd.N_elder' (yr ap) (zW bF) hb);replace aq:=yRb aq hb;have bY:=zm (za0 bF (zE yhb));replace ag:=ybb ag hb;replace am:=ybb am hb;replace HB:=ybs hb;clear hb bF;obtain ⟨dp,dq,dU⟩:=zT bY.out;subst dU)|((with_reducible refine zL (N:=31) rfl ?_);(try (refine gate_guard (by rfl) ?_;dsimp only));refine Kd.N_lit (Kd.slice 3 (Kd.int .i64)) _ 49 ?hg (N' := 31) ?hd (xs:=([bQ] : List (List Int))) (inner := [.slice dp bQ.length dq]) (ok:=(fun k_=>some k_≠(.slice aK af.length aI : Value).ownBlock∧some k_≠(.slice aJ ac.length aH : Value).ownBlock∧some k_≠(.slice aM aD.length aN : Value).ownBlock∧some k_≠(.slice aW aE.length aX : Value).ownBlock∧some k_≠(.slice aY aG.length aZ : Value).ownBlock∧some k_≠(cM : Value).ownBlock∧k_≠av∧k_≠aw)) (okp:=(fun k_=>some k_≠(.slice aK af.length aI : Value).ownBlock∧some k_≠(.slice aJ ac.length aH : Value).ownBlock∧some k_≠(.slice aM aD.length aN : Value).ownBlock∧some k_≠(.slice aW aE.length aX : Value).ownBlock∧some k_≠(.slice aY aG.length aZ : Value).ownBlock∧some k_≠(cM : Value).ownBlock∧k_≠av∧k_≠aw)) ?hr ?hp (fun _ hk=>hk) ((show ∀ k_,w55.heap.size≤k_→(fun k_=>some k_≠(.slice aK af.length aI : Value).ownBlock∧some k_≠(.slice aJ ac.length aH : Value).ownBlock∧some k_≠(.slice aM aD.length aN : Value).ownBlock∧some k_≠(.slice aW aE.length aX : Value).ownBlock∧some k_≠(.slice aY aG.length aZ : Value).ownBlock∧some k_≠(cM : Value).ownBlock∧k_≠av∧k_≠aw) k_ from fun k_ hk=>⟨zc2 (Kd.N_lt (yr aa)) k_ hk,zc2 (Kd.N_lt (yr ae)) k_ hk,zc2 (Kd.R_lt (yr al)) k_ hk,zc2 (Kd.N_lt (yr ao)) k_ hk,zc2 (Kd.N_lt (yr ap)) k_ hk,zc2 (Kd.R_lt (yr aq)) k_ hk,Kd.freshB (yk ag) k_ hk,Kd.freshB (yk am) k_ hk⟩) _ (zX _)) (zY _ _) (zX _) (by simp) ?_;(case hd=>rfl);(case hg=>rfl);(case hr=>first|(go_simp;done)|(go_simp;rfl));(case hp=>exact (Reps.one (show Kd.FK (Kd.slice 3 (Kd.int .i64)) _ _ bQ [.slice dp bQ.length dq] from (Kd.FK_slice_mk (zQ (zG (ok' := (fun k_=>some k_≠(.slice aK af.length aI : Value).ownBlock∧some k_≠(.slice aJ ac.length aH : Value).ownBlock∧some k_≠(.slice aM aD.length aN : Value).ownBlock∧some k_≠(.slice aW aE.length aX : Value).ownBlock∧some k_≠(.slice aY aG.length aZ : Value).ownBlock∧some k_≠(cM : Value).ownBlock∧k_≠av∧k_≠aw)) (Kd.R_types (Kd.R_types (zZ (zZ (zZ (zZ (zZ (zZ (bY.out) (Kd.N_typed aa.out) (by decide)) (Kd.N_typed ae.out) (by decide)) (Kd.R_typed al.out) (by decide)) (Kd.N_typed ao.out) (by decide)) (Kd.N_typed ap.out) (by decide)) (Kd.R_typed aq.out) (by decide)) ag.out (by decide)) am.out (by decide)) (fun k_ hk=>⟨hk.1.1.1.1.1.1.1.2,⟨hk.1.1.1.1.1.1.2,⟨hk.1.1.1.1.1.2,⟨hk.1.1.1.1.2,⟨hk.1.1.1.2,⟨hk.1.1.2,⟨hk.1.2,hk.2⟩⟩⟩⟩⟩⟩⟩))).2.1 (Kd.R_F (zG (ok' := (fun k_=>some k_≠(.slice aK af.length aI : Value).ownBlock∧some k_≠(.slice aJ ac.length aH : Value).ownBlock∧some k_≠(.slice aM aD.length aN : Value).ownBlock∧some k_≠(.slice aW aE.length aX : Value).ownBlock∧some k_≠(.slice aY aG.length aZ : Value).ownBlock∧some k_≠(cM : Value).ownBlock∧k_≠av∧k_≠aw)) (Kd.R_types (Kd.R_types (zZ (zZ (zZ (zZ (zZ (zZ (bY.out) (Kd.N_typed aa.out) (by decide)) (Kd.N_typed ae.out) (by decide)) (Kd.R_typed al.out) (by decide)) (Kd.N_typed ao.out) (by decide)) (Kd.N_typed ap.out) (by decide)) (Kd.R_typed aq.out) (by decide)) ag.out (by decide)) am.out (by decide)) (fun k_ hk=>⟨hk.1.1.1.1.1.1.1.2,⟨hk.1.1.1.1.1.1.2,⟨hk.1.1.1.1.1.2,⟨hk.1.1.1.1.2,⟨hk.1.1.1.2,⟨hk.1.1.2,⟨hk.1.2,hk.2⟩⟩⟩⟩⟩⟩⟩))))) (Reps.none _ _)));intro ey w58 bG hb hg_ hnew_;clear hg_ hnew_;(first|rw [← cF.out] at bG|(simp only [Int.reduceToNat] at bG;rw [← cF.out] at bG)|rw [show (List.replicate (Int.toNat 11) (0 : Int))=a7 from cF.out.symm] at bG);replace aa:=zm (Kd.N_elder' (yr aa) (Kd.N_base bG) hb);replace ae:=zm (Kd.N_elder' (yr ae) (Kd.N_base bG) hb);replace al:=yRb al hb;replace ao:=zm (Kd.N_elder' (yr ao) (Kd.N_base bG) hb);replace ap:=zm (Kd.N_elder' (yr ap) (Kd.N_base bG) hb);replace aq:=yRb aq hb;have ay:=zm (Kd.N_lower bG (zE yhb));replace ag:=ybb ag hb;replace am:=ybb am hb;replace HB:=ybs hb;clear bY;clear hb bG;obtain ⟨ba,bb,dV⟩:=zT aq.out;subst dV;obtain ⟨bi,bj,dW⟩:=Kd.N_slice ay.out;subst dW)|((with_reducible refine zK (f:=20) rfl ?_);refine ygl 32 Try.func20 #[.int .i64 11, .int .i64 1, .slice ba aT.length bb, .slice bi a7.length bj] ?_;(with_reducible refine (cpack_Read.calls k 11 1 _ _ aT _ _ a7 false aV a9 cN _ ?bg ?bh ?bq ?br A3.out).mono ?_);(case bg=>exact yce (zQ aq.out).2.2);(case bh=>exact (zQ aq.out).2.1);(case bq=>exact yce (Kd.N_reads' ay.out).2.2);(case br=>exact (Kd.N_reads' ay.out).2.1);rintro e w62 ⟨dX,dY,rfl,ho0,ho1,hb⟩;refine ⟨_,rfl, ?_⟩;have az:=zm (Kd.N_lower (Kd.N_mono (ok' := fun k_=>some k_≠(dY : Value).ownBlock∧some k_≠(.slice aK af.length aI : Value).ownBlock∧some k_≠(.slice aJ ac.length aH : Value).ownBlock∧some k_≠(.slice aM aD.length aN : Value).ownBlock∧some k_≠(.slice aW aE.length aX : Value).ownBlock∧some k_≠(.slice aY aG.length aZ : Value).ownBlock∧some k_≠(.slice ba aT.length bb : Value).ownBlock∧some k_≠(.slice bi a7.length bj : Value).ownBlock∧k_≠av∧k_≠aw) (Kd.S_N (Kd.S_bound (Kd.S_apart' ho0 (Kd.R_typed ho1) (by decide)))) (fun k_ hk_=>⟨hk_.1.2,(zc2 (Kd.N_lt (yr aa)) k_ hk_.2.1),(zc2 (Kd.N_lt (yr ae)) k_ hk_.2.1),(zc2 (Kd.R_lt (yr al)) k_ hk_.2.1),(zc2 (Kd.N_lt (yr ao)) k_ hk_.2.1),(zc2 (Kd.N_lt (yr ap)) k_ hk_.2.1),(zc2 (Kd.R_lt (yr aq)) k_ hk_.2.1),(zc2 (Kd.N_lt (yr ay)) k_ hk_.2.1),(Kd.freshB (yk ag) k_ hk_.2.1),(Kd.freshB (yk am) k_ hk_.2.1)⟩)) (zE yhb));have aA:=zm (Kd.N_lower (Kd.N_mono (ok' := fun k_=>some k_≠(dX : Value).ownBlock∧some k_≠(.slice aK af.length aI : Value).ownBlock∧some k_≠(.slice aJ ac.length aH : Value).ownBlock∧some k_≠(.slice aM aD.length aN : Value).ownBlock∧some k_≠(.slice aW aE.length aX : Value).ownBlock∧some k_≠(.slice aY aG.length aZ : Value).ownBlock∧some k_≠(.slice ba aT.length bb : Value).ownBlock∧some k_≠(.slice bi a7.length bj : Value).ownBlock∧k_≠av∧k_≠aw) (Kd.R_N (Kd.R_bound ho1)) (fun k_ hk_=>⟨hk_.1,(zc2 (Kd.N_lt (yr aa)) k_ hk_.2.1),(zc2 (Kd.N_lt (yr ae)) k_ hk_.2.1),(zc2 (Kd.R_lt (yr al)) k_ hk_.2.1),(zc2 (Kd.N_lt (yr ao)) k_ hk_.2.1),(zc2 (Kd.N_lt (yr ap)) k_ hk_.2.1),(zc2 (Kd.R_lt (yr aq)) k_ hk_.2.1),(zc2 (Kd.N_lt (yr ay)) k_ hk_.2.1),(Kd.freshB (yk ag) k_ hk_.2.1),(Kd.freshB (yk am) k_ hk_.2.1)⟩)) (zE yhb));replace aa:=zm (Kd.N_mono (Kd.N_told (Kd.N_told (Kd.N_old (yr aa) hb) (Kd.S_base ho0)) (zW ho1)) (fun _ h_=>h_.1));replace ae:=zm (Kd.N_mono (Kd.N_told (Kd.N_told (Kd.N_old (yr ae) hb) (Kd.S_base ho0)) (zW ho1)) (fun _ h_=>h_.1));replace al:=yRb al hb;replace ao:=zm (Kd.N_mono (Kd.N_told (Kd.N_told (Kd.N_old (yr ao) hb) (Kd.S_base ho0)) (zW ho1)) (fun _ h_=>h_.1));replace ap:=zm (Kd.N_mono (Kd.N_told (Kd.N_told (Kd.N_old (yr ap) hb) (Kd.S_base ho0)) (zW ho1)) (fun _ h_=>h_.1));replace aq:=yRb aq hb;replace ay:=zm (Kd.N_mono (Kd.N_told (Kd.N_told (Kd.N_old (yr ay) hb) (Kd.S_base ho0)) (zW ho1)) (fun _ h_=>h_.1));replace ag:=ybb ag hb;replace am:=ybb am hb;replace HB:=ybs hb;(try clear hb);(try clear ho0);(try clear ho1))|((with_reducible refine zL (N:=6) rfl ?_);(try (refine gate_guard (by rfl) ?_;dsimp only));refine ybx 6 #[.bool false, .slice none 0 0, .slice none 0 0] 25 ?_;intro ax hg w63 hbox hb;replace aa:=zm (Kd.N_below (Kd.N_elderB (yr aa) ax (Nat.le_of_eq hg.symm)) hb);replace ae:=zm (Kd.N_below (Kd.N_elderB (yr ae) ax (Nat.le_of_eq hg.symm)) hb);replace al:=yRb al hb;replace ao:=zm (Kd.N_below (Kd.N_elderB (yr ao) ax (Nat.le_of_eq hg.symm)) hb);replace ap:=zm (Kd.N_below (Kd.N_elderB (yr ap) ax (Nat.le_of_eq hg.symm)) hb);replace aq:=yRb aq hb;replace ay:=zm (Kd.N_below (Kd.N_elderB (yr ay) ax (Nat.le_of_eq hg.symm)) hb);replace az:=zm (Kd.N_below (Kd.N_elderB (yr az) ax (Nat.le_of_eq hg.symm)) hb);replace aA:=zm (Kd.N_below (Kd.N_elderB (yr aA) ax (Nat.le_of_eq hg.symm)) hb);have aC:=zm (hbox);have ek:=ygw hg;have el:=ygw hg;replace HB:=ybs hb;have b8:=ynl ag hg;have b9:=yng ag hg;replace ag:=ybb ag hb;have ca:=ynl am hg;have cb:=yng am hg;replace am:=ybb am hb;clear hb hbox hg;have:=b9.out;have:=b8.out;have:=cb.out;have:=ca.out;obtain ⟨_,_,_,_,_,_⟩:=yc3 aC;obtain ⟨bd,bf,dZ⟩:=Kd.N_slice az.out;subst dZ;obtain ⟨bk,bl,d5⟩:=Kd.N_slice aA.out;subst d5))
     obtain ⟨w69,hw_⟩ : ∃ x,x=(((w63.setCell ⟨ax,0,none⟩ (.bool false)).setCell ⟨ax,1,none⟩ (.slice bd aV.length bf)).setCell ⟨ax,2,none⟩ (.slice bk a9.length bl)):=⟨_,rfl⟩
     rw [← hw_]
     replace aa : Aside0 (Kd.N (Kd.slice 3 (Kd.int .i64)) 49 w69 w.heap.size (fun k_=>some k_≠(.slice aJ ac.length aH : Value).ownBlock∧some k_≠(.slice aM aD.length aN : Value).ownBlock∧some k_≠(.slice aW aE.length aX : Value).ownBlock∧some k_≠(.slice aY aG.length aZ : Value).ownBlock∧some k_≠(.slice ba aT.length bb : Value).ownBlock∧some k_≠(.slice bi a7.length bj : Value).ownBlock∧some k_≠(.slice bd aV.length bf : Value).ownBlock∧some k_≠(.slice bk a9.length bl : Value).ownBlock∧k_≠av∧k_≠aw∧k_≠ax) (.slice aK af.length aI) af):=⟨by rw [hw_];exact (yN0 aa)⟩
     replace ae : Aside0 (Kd.N (Kd.slice 49 (Kd.slice 3 (Kd.int .i64))) 22 w69 w.heap.size (fun k_=>some k_≠(.slice aK af.length aI : Value).ownBlock∧some k_≠(.slice aM aD.length aN : Value).ownBlock∧some k_≠(.slice aW aE.length aX : Value).ownBlock∧some k_≠(.slice aY aG.length aZ : Value).ownBlock∧some k_≠(.slice ba aT.length bb : Value).ownBlock∧some k_≠(.slice bi a7.length bj : Value).ownBlock∧some k_≠(.slice bd aV.length bf : Value).ownBlock∧some k_≠(.slice bk a9.length bl : Value).ownBlock∧k_≠av∧k_≠aw∧k_≠ax) (.slice aJ ac.length aH) ac):=⟨by rw [hw_];exact (yN0 ae)⟩
     replace al : Aside0 (Kd.R (Kd.int .u8) 5 w69 w.heap.size (fun k_=>some k_≠(.slice ba aT.length bb : Value).ownBlock) (.slice aM aD.length aN) aD):=⟨by rw [hw_];exact (yR1 al aC)⟩
     replace ao : Aside0 (Kd.N (Kd.slice 3 (Kd.int .i64)) 49 w69 w.heap.size (fun k_=>some k_≠(.slice aK af.length aI : Value).ownBlock∧some k_≠(.slice aJ ac.length aH : Value).ownBlock∧some k_≠(.slice aM aD.length aN : Value).ownBlock∧some k_≠(.slice aY aG.length aZ : Value).ownBlock∧some k_≠(.slice ba aT.length bb : Value).ownBlock∧some k_≠(.slice bi a7.length bj : Value).ownBlock∧some k_≠(.slice bd aV.length bf : Value).ownBlock∧some k_≠(.slice bk a9.length bl : Value).ownBlock∧k_≠av∧k_≠aw∧k_≠ax) (.slice aW aE.length aX) aE):=⟨by rw [hw_];exact (yN0 ao)⟩
     replace ap : Aside0 (Kd.N (Kd.slice 49 (Kd.slice 3 (Kd.int .i64))) 22 w69 w.heap.size (fun k_=>some k_≠(.slice aK af.length aI : Value).ownBlock∧some k_≠(.slice aJ ac.length aH : Value).ownBlock∧some k_≠(.slice aM aD.length aN : Value).ownBlock∧some k_≠(.slice aW aE.length aX : Value).ownBlock∧some k_≠(.slice ba aT.length bb : Value).ownBlock∧some k_≠(.slice bi a7.length bj : Value).ownBlock∧some k_≠(.slice bd aV.length bf : Value).ownBlock∧some k_≠(.slice bk a9.length bl : Value).ownBlock∧k_≠av∧k_≠aw∧k_≠ax) (.slice aY aG.length aZ) aG):=⟨by rw [hw_];exact (yN0 ap)⟩
     replace aq : Aside0 (Kd.R (Kd.int .u8) 5 w69 w.heap.size (fun k_=>some k_≠(.slice aM aD.length aN : Value).ownBlock) (.slice ba aT.length bb) aT):=⟨by rw [hw_];exact (yR1 aq aC)⟩
     replace ay : Aside0 (Kd.N (Kd.slice 3 (Kd.int .i64)) 49 w69 w.heap.size (fun k_=>some k_≠(.slice aK af.length aI : Value).ownBlock∧some k_≠(.slice aJ ac.length aH : Value).ownBlock∧some k_≠(.slice aM aD.length aN : Value).ownBlock∧some k_≠(.slice aW aE.length aX : Value).ownBlock∧some k_≠(.slice aY aG.length aZ : Value).ownBlock∧some k_≠(.slice ba aT.length bb : Value).ownBlock∧some k_≠(.slice bd aV.length bf : Value).ownBlock∧some k_≠(.slice bk a9.length bl : Value).ownBlock∧k_≠av∧k_≠aw∧k_≠ax) (.slice bi a7.length bj) a7):=⟨by rw [hw_];exact (yN0 ay)⟩
     replace az : Aside0 (Kd.N (Kd.slice 3 (Kd.int .i64)) 49 w69 w.heap.size (fun k_=>some k_≠(.slice aK af.length aI : Value).ownBlock∧some k_≠(.slice aJ ac.length aH : Value).ownBlock∧some k_≠(.slice aM aD.length aN : Value).ownBlock∧some k_≠(.slice aW aE.length aX : Value).ownBlock∧some k_≠(.slice aY aG.length aZ : Value).ownBlock∧some k_≠(.slice ba aT.length bb : Value).ownBlock∧some k_≠(.slice bi a7.length bj : Value).ownBlock∧some k_≠(.slice bk a9.length bl : Value).ownBlock∧k_≠av∧k_≠aw∧k_≠ax) (.slice bd aV.length bf) aV):=⟨by rw [hw_];exact (yN0 az)⟩
     replace aA : Aside0 (Kd.N (Kd.slice 49 (Kd.slice 3 (Kd.int .i64))) 22 w69 w.heap.size (fun k_=>some k_≠(.slice aK af.length aI : Value).ownBlock∧some k_≠(.slice aJ ac.length aH : Value).ownBlock∧some k_≠(.slice aM aD.length aN : Value).ownBlock∧some k_≠(.slice aW aE.length aX : Value).ownBlock∧some k_≠(.slice aY aG.length aZ : Value).ownBlock∧some k_≠(.slice ba aT.length bb : Value).ownBlock∧some k_≠(.slice bi a7.length bj : Value).ownBlock∧some k_≠(.slice bd aV.length bf : Value).ownBlock∧k_≠av∧k_≠aw∧k_≠ax) (.slice bk a9.length bl) a9):=⟨by rw [hw_];exact (yN0 aA)⟩
     replace ag : Aside0 (w69.heap[av]? = some (.cells #[.bool true, .slice aK af.length aI, .slice aJ ac.length aH] 25 (0,0))):=⟨by rw [hw_];exact (yk ag)⟩
     replace am : Aside0 (w69.heap[aw]? = some (.cells #[.bool bI, .slice aW aE.length aX, .slice aY aG.length aZ] 25 (0,0))):=⟨by rw [hw_];exact (yk am)⟩
     replace aC : Aside0 (w69.heap[ax]? = some (.cells #[.bool false, .slice bd aV.length bf, .slice bk a9.length bl] 25 (0,0))):=⟨by rw [hw_];exact (ykp aC)⟩
     replace HB : Aside0 (Below w.heap.size w w69):=⟨by rw [hw_];exact (yhb)⟩
     clear hw_
     replace aa:=zm (Kd.N_drew aa.out)
     replace ae:=zm (Kd.N_drew ae.out)
     replace al:=zm (zq al.out)
     replace ao:=zm (Kd.N_drew ao.out)
     replace ap:=zm (Kd.N_drew ap.out)
     replace aq:=zm (zq aq.out)
     replace ay:=zm (Kd.N_drew ay.out)
     replace az:=zm (Kd.N_drew az.out)
     replace aA:=zm (Kd.N_drew aA.out)
     replace ag:=zm (zj ag.out)
     replace am:=zm (zj am.out)
     replace aC:=zm (zj aC.out)
     replace HB:=zm (zf HB.out)
     refine yst (fun w' => w'.cell? ⟨aw,0,none⟩=some (.bool bI)∧w'.cell? ⟨aw,1,none⟩=some (.slice aW aE.length aX)∧w'.cell? ⟨aw,2,none⟩=some (.slice aY aG.length aZ)∧w'.cell? ⟨av,0,none⟩=some (.bool true)∧w'.cell? ⟨av,1,none⟩=some (.slice aK af.length aI)∧w'.cell? ⟨av,2,none⟩=some (.slice aJ ac.length aH)∧w'.cell? ⟨ax,0,none⟩=some (.bool false)∧w'.cell? ⟨ax,1,none⟩=some (.slice bd aV.length bf)∧w'.cell? ⟨ax,2,none⟩=some (.slice bk a9.length bl)) [] 39 w13_knows.tab5 w13_knows.bits5 (fun hHeld HT_ HW_ => ?_)
     generalize w69.drew=w70 at aa ae al ao ap aq ay az aA ag am aC HB hHeld ⊢
     refine yp 0 35 HT_ ?_
     refine yp 1 36 HT_ ?_
     refine yp 2 37 HT_ ?_
     refine yp 3 38 HT_ ?_
     refine yp 4 39 HT_ ?_
     refine yp 5 40 HT_ ?_
     refine yp 6 41 HT_ ?_
     refine yp 7 42 HT_ ?_
     refine yl 8 43 HT_ HW_ hHeld ?_
     refine yl 10 45 HT_ HW_ hHeld ?_
     refine yw 9 44 HT_ (fun K hK => ?_)
     refine ygs Try.func14 #[.agg #[.bool bI, .slice aW aE.length aX, .slice aY aG.length aZ]] ?_
     with_reducible refine (w13_As.calls bI (fun k_=>(some k_≠(.slice aK af.length aI : Value).ownBlock∧(some k_≠(.slice aJ ac.length aH : Value).ownBlock∧(some k_≠(.slice aM aD.length aN : Value).ownBlock∧(some k_≠(.slice aY aG.length aZ : Value).ownBlock∧(some k_≠(.slice ba aT.length bb : Value).ownBlock∧(some k_≠(.slice bi a7.length bj : Value).ownBlock∧(some k_≠(.slice bd aV.length bf : Value).ownBlock∧(some k_≠(.slice bk a9.length bl : Value).ownBlock∧(k_≠av∧(k_≠aw∧k_≠ax))))))))))) _ _ aE (fun k_=>(some k_≠(.slice aK af.length aI : Value).ownBlock∧(some k_≠(.slice aJ ac.length aH : Value).ownBlock∧(some k_≠(.slice aM aD.length aN : Value).ownBlock∧(some k_≠(.slice aW aE.length aX : Value).ownBlock∧(some k_≠(.slice ba aT.length bb : Value).ownBlock∧(some k_≠(.slice bi a7.length bj : Value).ownBlock∧(some k_≠(.slice bd aV.length bf : Value).ownBlock∧(some k_≠(.slice bk a9.length bl : Value).ownBlock∧(k_≠av∧(k_≠aw∧k_≠ax))))))))))) _ _ aG cP cQ cR _ ?bg ?bh A6.out).mono ?_
     (case bg=>exact Kd.N_V (ao.out))
     (case bh=>exact Kd.N_V (ap.out))
     rintro e w71 ⟨ez,eA,rfl,ho0,ho1,hb⟩
     refine ⟨_,rfl, ?_⟩
     replace ao:=yNb ao hb
     replace ap:=yNb ap hb
     have bn:=yho (fun k_=>some k_≠(.slice aK af.length aI : Value).ownBlock∧some k_≠(.slice aJ ac.length aH : Value).ownBlock∧some k_≠(.slice aM aD.length aN : Value).ownBlock∧some k_≠(.slice ba aT.length bb : Value).ownBlock∧some k_≠(.slice bi a7.length bj : Value).ownBlock∧some k_≠(.slice bd aV.length bf : Value).ownBlock∧some k_≠(.slice bk a9.length bl : Value).ownBlock∧k_≠av∧k_≠aw∧k_≠ax) ho0 (fun k_ hk_=>⟨yoN aa hk_,yoN ae hk_,yoR al hk_,yoR aq hk_,yoN ay hk_,yoN az hk_,yoN aA hk_,yoB ag hk_,yoB am hk_,yoB aC hk_⟩)
     have bo:=yho (fun k_=>some k_≠(.slice aK af.length aI : Value).ownBlock∧some k_≠(.slice aJ ac.length aH : Value).ownBlock∧some k_≠(.slice aM aD.length aN : Value).ownBlock∧some k_≠(.slice ba aT.length bb : Value).ownBlock∧some k_≠(.slice bi a7.length bj : Value).ownBlock∧some k_≠(.slice bd aV.length bf : Value).ownBlock∧some k_≠(.slice bk a9.length bl : Value).ownBlock∧k_≠av∧k_≠aw∧k_≠ax) ho1 (fun k_ hk_=>⟨yoN aa hk_,yoN ae hk_,yoR al hk_,yoR aq hk_,yoN ay hk_,yoN az hk_,yoN aA hk_,yoB ag hk_,yoB am hk_,yoB aC hk_⟩)
     replace aa:=yNb aa hb
     replace ae:=yNb ae hb
     replace al:=yRb al hb
     replace aq:=yRb aq hb
     replace ay:=yNb ay hb
     replace az:=yNb az hb
     replace aA:=yNb aA hb
     replace ag:=ybb ag hb
     replace am:=ybb am hb
     replace aC:=ybb aC hb
     replace HB:=ybs hb
     (try clear hb)
     (try clear ho0)
     (try clear ho1)
     refine hK.out _ _ yH (fun hHeld => ?_)
     clear hK K
     refine ym (some 44) ?_
     refine yw 11 46 HT_ (fun K hK => ?_)
     refine ygs Try.func14 #[.agg #[.bool true, .slice aK af.length aI, .slice aJ ac.length aH]] ?_
     with_reducible refine (w13_As.calls true (fun k_=>(some k_≠(.slice aJ ac.length aH : Value).ownBlock∧(some k_≠(.slice aM aD.length aN : Value).ownBlock∧(some k_≠(.slice aW aE.length aX : Value).ownBlock∧(some k_≠(.slice aY aG.length aZ : Value).ownBlock∧(some k_≠(.slice ba aT.length bb : Value).ownBlock∧(some k_≠(.slice bi a7.length bj : Value).ownBlock∧(some k_≠(.slice bd aV.length bf : Value).ownBlock∧(some k_≠(.slice bk a9.length bl : Value).ownBlock∧(k_≠av∧(k_≠aw∧k_≠ax))))))))))) _ _ af (fun k_=>(some k_≠(.slice aK af.length aI : Value).ownBlock∧(some k_≠(.slice aM aD.length aN : Value).ownBlock∧(some k_≠(.slice aW aE.length aX : Value).ownBlock∧(some k_≠(.slice aY aG.length aZ : Value).ownBlock∧(some k_≠(.slice ba aT.length bb : Value).ownBlock∧(some k_≠(.slice bi a7.length bj : Value).ownBlock∧(some k_≠(.slice bd aV.length bf : Value).ownBlock∧(some k_≠(.slice bk a9.length bl : Value).ownBlock∧(k_≠av∧(k_≠aw∧k_≠ax))))))))))) _ _ ac cS cT cU _ ?bg ?bh A7.out).mono ?_
     (case bg=>exact Kd.N_V (aa.out))
     (case bh=>exact Kd.N_V (ae.out))
     rintro e w72 ⟨eB,eC,rfl,ho0,ho1,hb⟩
     refine ⟨_,rfl, ?_⟩
     replace aa:=yNb aa hb
     replace ae:=yNb ae hb
     replace bn:=yVb bn hb
     replace bo:=yVb bo hb
     have bs:=yho (fun k_=>some k_≠(.slice aM aD.length aN : Value).ownBlock∧some k_≠(.slice aW aE.length aX : Value).ownBlock∧some k_≠(.slice aY aG.length aZ : Value).ownBlock∧some k_≠(.slice ba aT.length bb : Value).ownBlock∧some k_≠(.slice bi a7.length bj : Value).ownBlock∧some k_≠(.slice bd aV.length bf : Value).ownBlock∧some k_≠(.slice bk a9.length bl : Value).ownBlock∧k_≠av∧k_≠aw∧k_≠ax) ho0 (fun k_ hk_=>⟨yoR al hk_,yoN ao hk_,yoN ap hk_,yoR aq hk_,yoN ay hk_,yoN az hk_,yoN aA hk_,yoB ag hk_,yoB am hk_,yoB aC hk_⟩)
     have bu:=yho (fun k_=>some k_≠(.slice aM aD.length aN : Value).ownBlock∧some k_≠(.slice aW aE.length aX : Value).ownBlock∧some k_≠(.slice aY aG.length aZ : Value).ownBlock∧some k_≠(.slice ba aT.length bb : Value).ownBlock∧some k_≠(.slice bi a7.length bj : Value).ownBlock∧some k_≠(.slice bd aV.length bf : Value).ownBlock∧some k_≠(.slice bk a9.length bl : Value).ownBlock∧k_≠av∧k_≠aw∧k_≠ax) ho1 (fun k_ hk_=>⟨yoR al hk_,yoN ao hk_,yoN ap hk_,yoR aq hk_,yoN ay hk_,yoN az hk_,yoN aA hk_,yoB ag hk_,yoB am hk_,yoB aC hk_⟩)
     replace al:=yRb al hb
     replace ao:=yNb ao hb
     replace ap:=yNb ap hb
     replace aq:=yRb aq hb
     replace ay:=yNb ay hb
     replace az:=yNb az hb
     replace aA:=yNb aA hb
     replace ag:=ybb ag hb
     replace am:=ybb am hb
     replace aC:=ybb aC hb
     replace HB:=ybs hb
     (try clear hb)
     (try clear ho0)
     (try clear ho1)
     obtain ⟨d6,d7,dr⟩:=zU bn.out
     (first|subst dr|(injection dr with f1_ f2_ f3_;have f4_:=f1_.symm;have f5_:=f3_.symm;clear f1_ f2_ f3_;subst f4_;subst f5_))
     obtain ⟨d8,d9,dt⟩:=zU bo.out
     (first|subst dt|(injection dt with f1_ f2_ f3_;have f4_:=f1_.symm;have f5_:=f3_.symm;clear f1_ f2_ f3_;subst f4_;subst f5_))
     obtain ⟨ea,eb,du⟩:=zU bs.out
     (first|subst du|(injection du with f1_ f2_ f3_;have f4_:=f1_.symm;have f5_:=f3_.symm;clear f1_ f2_ f3_;subst f4_;subst f5_))
     obtain ⟨ec,ed,dv⟩:=zU bu.out
     (first|subst dv|(injection dv with f1_ f2_ f3_;have f4_:=f1_.symm;have f5_:=f3_.symm;clear f1_ f2_ f3_;subst f4_;subst f5_))
     refine hK.out _ _ yH (fun hHeld => ?_)
     clear hK K
     refine ym (some 46) ?_
     refine yw 12 47 HT_ (fun K hK => ?_)
     refine ygs Try.func22 #[.agg #[.bool cP, .slice d6 cQ.length d7, .slice d8 cR.length d9], .agg #[.bool cS, .slice ea cT.length eb, .slice ec cU.length ed]] ?_
     with_reducible refine (r13_Same.calls k cP _ _ cQ _ _ cR cS _ _ cT _ _ cU true _ ?bg ?bh ?bq ?br ?cK ?cL ?dw ?dx A8.out).mono ?_
     (case bg=>exact yce (zR bn.out).2.2)
     (case bh=>exact (zR bn.out).2.1)
     (case bq=>exact yce (zR bo.out).2.2)
     (case br=>exact (zR bo.out).2.1)
     (case cK=>exact yce (zR bs.out).2.2)
     (case cL=>exact (zR bs.out).2.1)
     (case dw=>exact yce (zR bu.out).2.2)
     (case dx=>exact (zR bu.out).2.1)
     rintro e w77 ⟨rfl,hb⟩
     refine ⟨_,rfl, ?_⟩
     replace aa:=yNb aa hb
     replace ae:=yNb ae hb
     replace al:=yRb al hb
     replace ao:=yNb ao hb
     replace ap:=yNb ap hb
     replace aq:=yRb aq hb
     replace ay:=yNb ay hb
     replace az:=yNb az hb
     replace aA:=yNb aA hb
     replace bn:=yVb bn hb
     replace bo:=yVb bo hb
     replace bs:=yVb bs hb
     replace bu:=yVb bu hb
     replace ag:=ybb ag hb
     replace am:=ybb am hb
     replace aC:=ybb aC hb
     replace HB:=ybs hb
     (try clear hb)
     refine hK.out _ _ yH (fun hHeld => ?_)
     clear hK K
     refine ym (some 47) ?_
     refine yp 13 48 HT_ ?_
     refine yp 14 49 HT_ ?_
     refine yp 15 50 HT_ ?_
     refine yp 16 51 HT_ ?_
     refine yp 17 52 HT_ ?_
     refine yp 18 53 HT_ ?_
     refine yp 19 54 HT_ ?_
     refine yl 20 55 HT_ HW_ hHeld ?_
     refine yp 21 56 HT_ ?_
     refine yp 22 57 HT_ ?_
     refine yp 23 58 HT_ ?_
     refine yp 24 59 HT_ ?_
     refine yl 25 60 HT_ HW_ hHeld ?_
     refine yw 26 61 HT_ (fun K hK => ?_)
     refine Kd.R_lit_step (Kd.int .i64) _ 3 ?hg (N:=61) ?hd (xs:=([6,0,0,1,2] : List Int)) (inner := [.int .i64 6, .int .i64 0, .int .i64 0, .int .i64 1, .int .i64 2]) (ok:=fun _=>True) (okp:=fun _=>True) ?hr ?hp (fun _ hk=>hk) trivial (zY _ _) (zX _) (by simp) ?_;(case hd=>rfl);(case hg=>rfl);(case hr=>first|(go_simp;done)|(go_simp;rfl));(case hp=>exact (Reps.one (show Kd.M (Kd.int .i64) _ _ _ 6 [.int .i64 6] from rfl) (Reps.one (show Kd.M (Kd.int .i64) _ _ _ 0 [.int .i64 0] from rfl) (Reps.one (show Kd.M (Kd.int .i64) _ _ _ 0 [.int .i64 0] from rfl) (Reps.one (show Kd.M (Kd.int .i64) _ _ _ 1 [.int .i64 1] from rfl) (Reps.one (show Kd.M (Kd.int .i64) _ _ _ 2 [.int .i64 2] from rfl) (Reps.none _ _)))))))
     intro eD w78 bv hb hg_ hnew_
     clear hg_ hnew_
     (first|rw [← cH.out] at bv|(simp only [Int.reduceToNat] at bv;rw [← cH.out] at bv)|rw [show (List.replicate (Int.toNat 11) (0 : Int))=bR from cH.out.symm] at bv)
     replace aa:=zm (Kd.N_elder' (yr aa) (zW bv) hb)
     replace ae:=zm (Kd.N_elder' (yr ae) (zW bv) hb)
     replace al:=yRb al hb
     replace ao:=zm (Kd.N_elder' (yr ao) (zW bv) hb)
     replace ap:=zm (Kd.N_elder' (yr ap) (zW bv) hb)
     replace aq:=yRb aq hb
     replace ay:=zm (Kd.N_elder' (yr ay) (zW bv) hb)
     replace az:=zm (Kd.N_elder' (yr az) (zW bv) hb)
     replace aA:=zm (Kd.N_elder' (yr aA) (zW bv) hb)
     replace bn:=zm (za7 (yr bn) (zW bv) hb)
     replace bo:=zm (za7 (yr bo) (zW bv) hb)
     replace bs:=zm (za7 (yr bs) (zW bv) hb)
     replace bu:=zm (za7 (yr bu) (zW bv) hb)
     have bZ:=zm (za0 bv (zE yhb))
     replace ag:=ybb ag hb
     replace am:=ybb am hb
     replace aC:=ybb aC hb
     replace HB:=ybs hb
     clear hb bv
     obtain ⟨dy,dz,dA⟩:=zT bZ.out
     (first|subst dA|(injection dA with f1_ f2_ f3_;have f4_:=f1_.symm;have f5_:=f3_.symm;clear f1_ f2_ f3_;subst f4_;subst f5_))
     refine hK.out _ _ yH (fun hHeld => ?_)
     clear hK K
     refine ym (some 61) ?_
     refine yw 27 62 HT_ (fun K hK => ?_)
     refine Kd.N_lit_step (Kd.slice 3 (Kd.int .i64)) _ 49 ?hg (N' := 62) ?hd (xs:=([bR] : List (List Int))) (inner := [.slice dy bR.length dz]) (ok:=(fun k_=>some k_≠(.slice aK af.length aI : Value).ownBlock∧some k_≠(.slice aJ ac.length aH : Value).ownBlock∧some k_≠(.slice aM aD.length aN : Value).ownBlock∧some k_≠(.slice aW aE.length aX : Value).ownBlock∧some k_≠(.slice aY aG.length aZ : Value).ownBlock∧some k_≠(.slice ba aT.length bb : Value).ownBlock∧some k_≠(.slice bi a7.length bj : Value).ownBlock∧some k_≠(.slice bd aV.length bf : Value).ownBlock∧some k_≠(.slice bk a9.length bl : Value).ownBlock∧k_≠av∧k_≠aw∧k_≠ax)) (okp:=(fun k_=>some k_≠(.slice aK af.length aI : Value).ownBlock∧some k_≠(.slice aJ ac.length aH : Value).ownBlock∧some k_≠(.slice aM aD.length aN : Value).ownBlock∧some k_≠(.slice aW aE.length aX : Value).ownBlock∧some k_≠(.slice aY aG.length aZ : Value).ownBlock∧some k_≠(.slice ba aT.length bb : Value).ownBlock∧some k_≠(.slice bi a7.length bj : Value).ownBlock∧some k_≠(.slice bd aV.length bf : Value).ownBlock∧some k_≠(.slice bk a9.length bl : Value).ownBlock∧k_≠av∧k_≠aw∧k_≠ax)) ?hr ?hp (fun _ hk=>hk) ((show ∀ k_,w78.heap.size≤k_→(fun k_=>some k_≠(.slice aK af.length aI : Value).ownBlock∧some k_≠(.slice aJ ac.length aH : Value).ownBlock∧some k_≠(.slice aM aD.length aN : Value).ownBlock∧some k_≠(.slice aW aE.length aX : Value).ownBlock∧some k_≠(.slice aY aG.length aZ : Value).ownBlock∧some k_≠(.slice ba aT.length bb : Value).ownBlock∧some k_≠(.slice bi a7.length bj : Value).ownBlock∧some k_≠(.slice bd aV.length bf : Value).ownBlock∧some k_≠(.slice bk a9.length bl : Value).ownBlock∧k_≠av∧k_≠aw∧k_≠ax) k_ from fun k_ hk=>⟨zc2 (Kd.N_lt (yr aa)) k_ hk,zc2 (Kd.N_lt (yr ae)) k_ hk,zc2 (Kd.R_lt (yr al)) k_ hk,zc2 (Kd.N_lt (yr ao)) k_ hk,zc2 (Kd.N_lt (yr ap)) k_ hk,zc2 (Kd.R_lt (yr aq)) k_ hk,zc2 (Kd.N_lt (yr ay)) k_ hk,zc2 (Kd.N_lt (yr az)) k_ hk,zc2 (Kd.N_lt (yr aA)) k_ hk,Kd.freshB (yk ag) k_ hk,Kd.freshB (yk am) k_ hk,Kd.freshB (yk aC) k_ hk⟩) _ (zX _)) (zY _ _) (zX _) (by simp) ?_;(case hd=>rfl);(case hg=>rfl);(case hr=>first|(go_simp;done)|(go_simp;rfl));(case hp=>exact (Reps.one (show Kd.FK (Kd.slice 3 (Kd.int .i64)) _ _ bR [.slice dy bR.length dz] from (Kd.FK_slice_mk (zQ (zG (ok' := (fun k_=>some k_≠(.slice aK af.length aI : Value).ownBlock∧some k_≠(.slice aJ ac.length aH : Value).ownBlock∧some k_≠(.slice aM aD.length aN : Value).ownBlock∧some k_≠(.slice aW aE.length aX : Value).ownBlock∧some k_≠(.slice aY aG.length aZ : Value).ownBlock∧some k_≠(.slice ba aT.length bb : Value).ownBlock∧some k_≠(.slice bi a7.length bj : Value).ownBlock∧some k_≠(.slice bd aV.length bf : Value).ownBlock∧some k_≠(.slice bk a9.length bl : Value).ownBlock∧k_≠av∧k_≠aw∧k_≠ax)) (Kd.R_types (Kd.R_types (Kd.R_types (zZ (zZ (zZ (zZ (zZ (zZ (zZ (zZ (zZ (bZ.out) (Kd.N_typed aa.out) (by decide)) (Kd.N_typed ae.out) (by decide)) (Kd.R_typed al.out) (by decide)) (Kd.N_typed ao.out) (by decide)) (Kd.N_typed ap.out) (by decide)) (Kd.R_typed aq.out) (by decide)) (Kd.N_typed ay.out) (by decide)) (Kd.N_typed az.out) (by decide)) (Kd.N_typed aA.out) (by decide)) ag.out (by decide)) am.out (by decide)) aC.out (by decide)) (fun k_ hk=>⟨hk.1.1.1.1.1.1.1.1.1.1.1.2,⟨hk.1.1.1.1.1.1.1.1.1.1.2,⟨hk.1.1.1.1.1.1.1.1.1.2,⟨hk.1.1.1.1.1.1.1.1.2,⟨hk.1.1.1.1.1.1.1.2,⟨hk.1.1.1.1.1.1.2,⟨hk.1.1.1.1.1.2,⟨hk.1.1.1.1.2,⟨hk.1.1.1.2,⟨hk.1.1.2,⟨hk.1.2,hk.2⟩⟩⟩⟩⟩⟩⟩⟩⟩⟩⟩))).2.1 (Kd.R_F (zG (ok' := (fun k_=>some k_≠(.slice aK af.length aI : Value).ownBlock∧some k_≠(.slice aJ ac.length aH : Value).ownBlock∧some k_≠(.slice aM aD.length aN : Value).ownBlock∧some k_≠(.slice aW aE.length aX : Value).ownBlock∧some k_≠(.slice aY aG.length aZ : Value).ownBlock∧some k_≠(.slice ba aT.length bb : Value).ownBlock∧some k_≠(.slice bi a7.length bj : Value).ownBlock∧some k_≠(.slice bd aV.length bf : Value).ownBlock∧some k_≠(.slice bk a9.length bl : Value).ownBlock∧k_≠av∧k_≠aw∧k_≠ax)) (Kd.R_types (Kd.R_types (Kd.R_types (zZ (zZ (zZ (zZ (zZ (zZ (zZ (zZ (zZ (bZ.out) (Kd.N_typed aa.out) (by decide)) (Kd.N_typed ae.out) (by decide)) (Kd.R_typed al.out) (by decide)) (Kd.N_typed ao.out) (by decide)) (Kd.N_typed ap.out) (by decide)) (Kd.R_typed aq.out) (by decide)) (Kd.N_typed ay.out) (by decide)) (Kd.N_typed az.out) (by decide)) (Kd.N_typed aA.out) (by decide)) ag.out (by decide)) am.out (by decide)) aC.out (by decide)) (fun k_ hk=>⟨hk.1.1.1.1.1.1.1.1.1.1.1.2,⟨hk.1.1.1.1.1.1.1.1.1.1.2,⟨hk.1.1.1.1.1.1.1.1.1.2,⟨hk.1.1.1.1.1.1.1.1.2,⟨hk.1.1.1.1.1.1.1.2,⟨hk.1.1.1.1.1.1.2,⟨hk.1.1.1.1.1.2,⟨hk.1.1.1.1.2,⟨hk.1.1.1.2,⟨hk.1.1.2,⟨hk.1.2,hk.2⟩⟩⟩⟩⟩⟩⟩⟩⟩⟩⟩))))) (Reps.none _ _)))
     intro eE w81 bw hb hg_ hnew_
     clear hg_ hnew_
     (first|rw [← cJ.out] at bw|(simp only [Int.reduceToNat] at bw;rw [← cJ.out] at bw)|rw [show (List.replicate (Int.toNat 11) (0 : Int))=cO from cJ.out.symm] at bw)
     replace aa:=zm (Kd.N_elder' (yr aa) (Kd.N_base bw) hb)
     replace ae:=zm (Kd.N_elder' (yr ae) (Kd.N_base bw) hb)
     replace al:=yRb al hb
     replace ao:=zm (Kd.N_elder' (yr ao) (Kd.N_base bw) hb)
     replace ap:=zm (Kd.N_elder' (yr ap) (Kd.N_base bw) hb)
     replace aq:=yRb aq hb
     replace ay:=zm (Kd.N_elder' (yr ay) (Kd.N_base bw) hb)
     replace az:=zm (Kd.N_elder' (yr az) (Kd.N_base bw) hb)
     replace aA:=zm (Kd.N_elder' (yr aA) (Kd.N_base bw) hb)
     replace bn:=zm (za7 (yr bn) (Kd.N_base bw) hb)
     replace bo:=zm (za7 (yr bo) (Kd.N_base bw) hb)
     replace bs:=zm (za7 (yr bs) (Kd.N_base bw) hb)
     replace bu:=zm (za7 (yr bu) (Kd.N_base bw) hb)
     have bM:=zm (Kd.N_lower bw (zE yhb))
     replace ag:=ybb ag hb
     replace am:=ybb am hb
     replace aC:=ybb aC hb
     replace HB:=ybs hb
     clear bZ hb bw
     obtain ⟨ee,ef,dB⟩:=Kd.N_slice bM.out
     (first|subst dB|(injection dB with f1_ f2_ f3_;have f4_:=f1_.symm;have f5_:=f3_.symm;clear f1_ f2_ f3_;subst f4_;subst f5_))
     refine hK.out _ _ yH (fun hHeld => ?_)
     clear hK K
     refine ym (some 62) ?_
     refine yw 28 63 HT_ (fun K hK => ?_)
     refine ygs Try.func24 #[.slice bd aV.length bf, .slice ee cO.length ef] ?_
     with_reducible refine (r12_Same.calls k _ _ aV _ _ cO true _ ?bg ?bh ?bq ?br A12.out).mono ?_
     (case bg=>exact yce (Kd.N_reads' az.out).2.2)
     (case bh=>exact (Kd.N_reads' az.out).2.1)
     (case bq=>exact yce (Kd.N_reads' bM.out).2.2)
     (case br=>exact (Kd.N_reads' bM.out).2.1)
     rintro e w' ⟨rfl,⟨nd,rfl⟩⟩
     refine ⟨_,rfl, ?_⟩
     refine hK.out _ _ yH (fun hHeld => ?_)
     clear hK K
     refine ym (some 63) ?_
     refine yp 29 64 HT_ ?_
     refine yp 30 65 HT_ ?_
     refine yp 31 66 HT_ ?_
     refine yp 32 67 HT_ ?_
     refine yp 33 68 HT_ ?_
     refine yp 34 69 HT_ ?_
     refine yl 35 70 HT_ HW_ hHeld ?_
     refine yw 36 71 HT_ (fun K hK => ?_)
     refine ygs Try.func15 #[.int .i64 11, .int .i64 1, .agg #[.bool true, .slice aK af.length aI, .slice aJ ac.length aH]] ?_
     with_reducible refine (cpack_Right.calls k 11 1 true _ _ af _ _ ac aQ _ ?bg ?bh ?bq ?br A15.out).mono ?_
     (case bg=>exact yce (Kd.N_reads' aa.out).2.2)
     (case bh=>exact (Kd.N_reads' aa.out).2.1)
     (case bq=>exact yce (Kd.N_reads' ae.out).2.2)
     (case br=>exact (Kd.N_reads' ae.out).2.1)
     rintro e w84 ⟨rfl,hb⟩
     refine ⟨_,rfl, ?_⟩
     replace aa:=yNb aa hb
     replace ae:=yNb ae hb
     replace al:=yRb al hb
     replace ao:=yNb ao hb
     replace ap:=yNb ap hb
     replace aq:=yRb aq hb
     replace ay:=yNb ay hb
     replace az:=yNb az hb
     replace aA:=yNb aA hb
     replace bn:=yVb bn hb
     replace bo:=yVb bo hb
     replace bs:=yVb bs hb
     replace bu:=yVb bu hb
     replace bM:=yNb bM hb
     replace ag:=ybb ag hb
     replace am:=ybb am hb
     replace aC:=ybb aC hb
     replace HB:=ybs hb
     (try clear hb)
     refine hK.out _ _ yH (fun hHeld => ?_)
     clear hK K
     refine ym (some 71) ?_
     refine yp 37 72 HT_ ?_
     refine yp 38 0 HT_ ?_
     refine done_ (done_of HT_.out (by kernel_rfl)) ?_
     try go_wp2
     go_ret
     exact ⟨ye,yhb⟩
    rw [za5 c14] at H
    obtain ⟨cX,cY⟩:=yF c14
    exact absurd H (by simp)
   rw [za5 c10] at H
   obtain ⟨cV,cW⟩:=yF c10
   exact absurd H (by simp)
  rw [za5 c5] at H
  obtain ⟨dE,dF⟩:=yF c5
  exact absurd H (by simp)
 rw [za5 c4] at H
 obtain ⟨dC,dD⟩:=yF c4
 exact absurd H (by simp)
def w13_wide.l0 : Nat→List (List Int)→Int→Option (Bool)
 | 0,_,_=>none
 | k+1,x0,x3=>if x3 < (x0.length : Int) then (if 0≤x3 then (if ((rd_L1 x0 x3).length : Int) > 60 then (some true) else (w13_wide.l0 k x0 (wrap64 (x3+1)))) else (none)) else (some (decide ((x0.length : Int) > 10)))
def w13_wide.f (k : Nat) (l0 : List (List Int)) : Option (Bool):=w13_wide.l0 k l0 0
theorem w13_wide.mono_l : ∀ k,(∀ y0 y1,LeO (w13_wide.l0 k y0 y1) (w13_wide.l0 (k+1) y0 y1))
 | 0=>fun _ _ r h=>by simp [w13_wide.l0] at h
 | k+1=>by
  have ih0:=w13_wide.mono_l k
  ·
   intro y0 y1
   unfold w13_wide.l0
   exact yLm
theorem w13_wide.mono : ∀ a0 k,LeO (w13_wide.f k a0) (w13_wide.f (k+1) a0):=by
 intro a0 k
 have ih0:=w13_wide.mono_l k
 unfold w13_wide.f
 exact yLm
theorem w13_wide.calls (k : Nat) (A0 : Option Addr) (c0 : Nat) (l0 : List (List Int)) (r : Bool) (w : World) (hr0 : Kd.C (Kd.slice 3 (Kd.int .i64)) w A0 l0.length l0) (hc0 : l0.length≤c0) (h : w13_wide.f k l0=some r) :
  Calls Try.prog 19 #[.slice A0 l0.length c0] w fun e w' => e=.returned (.bool r)∧Drawn0 w w' := by
 have HR0:=zm hr0;have HC0:=zm hc0;clear hr0 hc0;have H:=h
 unfold w13_wide.f at H
 clear h
 have H' := zm H
 clear H
 go_enter Try.func19,Try.ntmps19
 go_wp2
 go_loopg [3] k (fun kq v3 w' => ∃ (ae : Int),v3=.int .i64 ae∧Aside0 (w13_wide.l0 kq l0 ae=some r)∧Aside0 (kq≤k)∧Drawn0 w w')
 case atStart=>exact ⟨(0),yq,H',⟨zX _⟩,yd⟩
 case round =>
  clear H'
  obtain ⟨ae,rfl,HA,HK1,⟨m1,rfl⟩⟩:=hrel
  obtain ⟨k1,rfl⟩:=ysu gk (fun h=>by subst h;exact absurd HA.out (by simp [w13_wide.l0]))
  have H:=HA.out;clear HA
  simp only [w13_wide.l0] at H
  replace H:=yId H
  obtain ⟨am,H⟩ | ⟨am,H⟩:=H
  ·
   obtain ⟨c3,H⟩:=yif H
   have av : decide (0≤ae)=true:=decide_eq_true c3
   clear c3
   by_cases c4 : ((rd_L1 l0 ae).length : Int) > 60
   ·
    rw [za4 c4] at H
    have ao:=yDs c4
    have ap : decide (60 < (rd_L1 l0 ae).length)=true:=decide_eq_true (by omega)
    clear c4
    obtain rfl:=zO H
    obtain ⟨⟨al,ai,aj,ak,af,aa,ac⟩,aq,au⟩:=yat (at_L1 HR0.out ae)
    cases ak
    have ag:=zm ac;have ah:=zm aa;clear ac aa
    go_wp2
    go_ret
    exact ⟨yq,yd⟩
   rw [za5 c4] at H
   have ao:=yGs c4
   have ap : decide (60 < (rd_L1 l0 ae).length)=false:=decide_eq_false (by omega)
   clear c4
   have H' := zm H
   clear H
   obtain ⟨⟨al,ai,aj,ak,af,aa,ac⟩,aq,au⟩:=yat (at_L1 HR0.out ae)
   cases ak
   have ag:=zm ac;have ah:=zm aa;clear ac aa
   go_wp2
   go_roundg k1
   case measure=>exact yom1 HK1
   case rel=>exact ⟨(wrap64 (ae+1)),yq,H',⟨yom1 HK1⟩,yd⟩
  obtain rfl:=zO H
  go_wp2
  go_ret
  exact ⟨yq,yd⟩
def r11_Right.l0 : Nat→List Int→Bool→Int→Option (Bool)
 | 0,_,_,_=>none
 | k+1,x0,x3,x4=>if x4 < (x0.length : Int) then (if x3=true then (if 0≤x4 then (if (rd x0 x4) ≥ 0 then (r11_Right.l0 k x0 (decide ((rd x0 x4)≤44)) (wrap64 (x4+1))) else (r11_Right.l0 k x0 false (wrap64 (x4+1)))) else (none)) else (r11_Right.l0 k x0 false (wrap64 (x4+1)))) else (some x3)
def r11_Right.f (k : Nat) (l0 : List Int) : Option (Bool):=r11_Right.l0 k l0 ((l0.length : Int) == 5) 0
theorem r11_Right.mono_l : ∀ k,(∀ y0 y1 y2,LeO (r11_Right.l0 k y0 y1 y2) (r11_Right.l0 (k+1) y0 y1 y2))
 | 0=>fun _ _ _ r h=>by simp [r11_Right.l0] at h
 | k+1=>by
  have ih0:=r11_Right.mono_l k
  ·
   intro y0 y1 y2
   unfold r11_Right.l0
   exact yLm
theorem r11_Right.mono : ∀ a0 k,LeO (r11_Right.f k a0) (r11_Right.f (k+1) a0):=by
 intro a0 k
 have ih0:=r11_Right.mono_l k
 unfold r11_Right.f
 exact yLm
theorem r11_Right.calls (k : Nat) (A0 : Option Addr) (c0 : Nat) (l0 : List Int) (r : Bool) (w : World) (hr0 : Kd.C (Kd.int .i64) w A0 l0.length l0) (hc0 : l0.length≤c0) (h : r11_Right.f k l0=some r) :
  Calls Try.prog 47 #[.slice A0 l0.length c0] w fun e w' => e=.returned (.bool r)∧Drawn0 w w' := by
 have HR0:=zm hr0;have HC0:=zm hc0;clear hr0 hc0;have H:=h
 unfold r11_Right.f at H
 clear h
 have H' := zm H
 clear H
 go_enter Try.func47,Try.ntmps47
 go_wp2
 go_loopg [3,4] k (fun kq v3 v4 w' => ∃ (ac : Bool) (aa : Int),v3=.bool ac∧v4=.int .i64 aa∧Aside0 (r11_Right.l0 kq l0 ac aa=some r)∧Aside0 (kq≤k)∧Drawn0 w w')
 case atStart=>exact ⟨(((l0.length : Int) == 5)),(0),yq,yq,H',⟨zX _⟩,yd⟩
 case round =>
  clear H'
  obtain ⟨ac,aa,rfl,rfl,HA,HK1,⟨m1,rfl⟩⟩:=hrel
  obtain ⟨k1,rfl⟩:=ysu gk (fun h=>by subst h;exact absurd HA.out (by simp [r11_Right.l0]))
  have H:=HA.out;clear HA
  simp only [r11_Right.l0] at H
  replace H:=yId H
  obtain ⟨aj,H⟩ | ⟨aj,H⟩:=H
  ·
   by_cases c3 : ac=true
   ·
    subst c3
    rw [za4 rfl] at H
    obtain ⟨c4,H⟩:=yif H
    have ap : decide (0≤aa)=true:=decide_eq_true c4
    clear c4
    replace H:=yIl H
    obtain ⟨ak,H⟩ | ⟨ak,H⟩:=H
    ·
     have H' := zm H
     clear H
     obtain ⟨af,ag,ae,al,am⟩:=yai HR0 aa
     cases ag
     obtain ⟨⟨ah,ao,ai⟩,aq,au⟩:=yat (zb7 HR0.out aa)
     obtain rfl : af=ah:=(by injection ao)
     go_wp2
     go_roundg k1
     case measure=>exact yom1 HK1
     case rel=>exact ⟨(decide ((rd l0 aa)≤44)),(wrap64 (aa+1)),yq,yq,H',⟨yom1 HK1⟩,yd⟩
    have H' := zm H
    clear H
    obtain ⟨af,ag,ae,al,am⟩:=yai HR0 aa
    cases ag
    go_wp2
    go_roundg k1
    case measure=>exact yom1 HK1
    case rel=>exact ⟨(false),(wrap64 (aa+1)),yq,yq,H',⟨yom1 HK1⟩,yd⟩
   replace c3:=za3.mpr c3
   subst c3
   rw [ynf] at H
   have H' := zm H
   clear H
   go_wp2
   go_roundg k1
   case measure=>exact yom1 HK1
   case rel=>exact ⟨(false),(wrap64 (aa+1)),yq,yq,H',⟨yom1 HK1⟩,yd⟩
  obtain rfl:=zO H
  go_wp2
  go_ret
  exact ⟨yq,yd⟩
def r12_Fair.l0 : Nat→List (List Int)→Int→Option (Bool)
 | 0,_,_=>none
 | k+1,x1,x5=>if x5 < (x1.length : Int) then (if 0≤x5 then ((r11_Right.f k (rd_L1 x1 x5)).bind fun al=>(if al=true then (r12_Fair.l0 k x1 (wrap64 (x5+1))) else (some false))) else (none)) else (some true)
def r12_Fair.f (k : Nat) (a0 : Int) (l1 : List (List Int)) : Option (Bool):=if (l1.length : Int)=a0 then (r12_Fair.l0 k l1 0) else (some false)
theorem r12_Fair.mono_l : ∀ k,(∀ y0 y1,LeO (r12_Fair.l0 k y0 y1) (r12_Fair.l0 (k+1) y0 y1))
 | 0=>fun _ _ r h=>by simp [r12_Fair.l0] at h
 | k+1=>by
  have ih0:=r12_Fair.mono_l k
  ·
   intro y0 y1
   unfold r12_Fair.l0
   have i0:=@r11_Right.mono
   exact yLm
theorem r12_Fair.mono : ∀ a0 a1 k,LeO (r12_Fair.f k a0 a1) (r12_Fair.f (k+1) a0 a1):=by
 intro a0 a1 k
 have ih0:=r12_Fair.mono_l k
 unfold r12_Fair.f
 have i0:=@r11_Right.mono
 exact yLm
theorem r12_Fair.calls (k : Nat) (a0 : Int) (A1 : Option Addr) (c1 : Nat) (l1 : List (List Int)) (r : Bool) (w : World) (hr1 : Kd.C (Kd.slice 3 (Kd.int .i64)) w A1 l1.length l1) (hc1 : l1.length≤c1) (h : r12_Fair.f k a0 l1=some r) :
  Calls Try.prog 17 #[.int .i64 a0, .slice A1 l1.length c1] w fun e w' => e=.returned (.bool r)∧Drawn0 w w' := by
 have HR1:=zm hr1;have HC1:=zm hc1;clear hr1 hc1;have H:=h
 unfold r12_Fair.f at H
 clear h
 by_cases c3 : (l1.length : Int)=a0
 ·
  rw [za4 c3] at H
  obtain ⟨ao,ap⟩:=yE c3
  clear c3
  have H' := zm H
  clear H
  go_enter Try.func17,Try.ntmps17
  go_wp2
  go_loopg [5] k (fun kq v5 w' => ∃ (ae : Int),v5=.int .i64 ae∧Aside0 (r12_Fair.l0 kq l1 ae=some r)∧Aside0 (kq≤k)∧Drawn0 w w')
  case atStart=>exact ⟨(0),yq,H',⟨zX _⟩,yd⟩
  case round =>
   clear H'
   try clear c1
   try clear ao
   try clear ap
   obtain ⟨ae,rfl,HA,HK1,⟨m1,rfl⟩⟩:=hrel
   obtain ⟨k1,rfl⟩:=ysu gk (fun h=>by subst h;exact absurd HA.out (by simp [r12_Fair.l0]))
   have H:=HA.out;clear HA
   simp only [r12_Fair.l0] at H
   replace H:=yId H
   obtain ⟨au,H⟩ | ⟨au,H⟩:=H
   ·
    obtain ⟨c5,H⟩:=yif H
    have ax : decide (0≤ae)=true:=decide_eq_true c5
    clear c5
    obtain ⟨al,A6,H⟩:=ybi H
    by_cases c7 : al=true
    ·
     subst c7
     rw [za4 rfl] at H
     have H' := zm H
     clear H
     obtain ⟨⟨aq,ah,ai,am,ak,aa,ac⟩,av,aw⟩:=yat (at_L1 HR1.out ae)
     cases am
     have af:=zm ac;have ag:=zm aa;clear ac aa
     go_wp2_with (first|((with_reducible refine zK (f:=47) rfl ?_);refine ygl 20 Try.func47 #[.slice ah (rd_L1 l1 ae).length ai] ?_;(with_reducible refine (r11_Right.calls k1 _ _ (rd_L1 l1 ae) true _ ?aj ag.out A6.out).mono ?_);(case aj=>exact yce af.out);rintro e w' ⟨rfl,⟨nd,rfl⟩⟩;refine ⟨_,rfl, ?_⟩))
     go_roundg k1
     case measure=>exact yom1 HK1
     case rel=>exact ⟨(wrap64 (ae+1)),yq,H',⟨yom1 HK1⟩,yd⟩
    replace c7:=za3.mpr c7
    subst c7
    rw [ynf] at H
    obtain rfl:=zO H
    obtain ⟨⟨aq,ah,ai,am,ak,aa,ac⟩,av,aw⟩:=yat (at_L1 HR1.out ae)
    cases am
    have af:=zm ac;have ag:=zm aa;clear ac aa
    go_wp2_with (first|((with_reducible refine zK (f:=47) rfl ?_);refine ygl 20 Try.func47 #[.slice ah (rd_L1 l1 ae).length ai] ?_;(with_reducible refine (r11_Right.calls k1 _ _ (rd_L1 l1 ae) false _ ?aj ag.out A6.out).mono ?_);(case aj=>exact yce af.out);rintro e w' ⟨rfl,⟨nd,rfl⟩⟩;refine ⟨_,rfl, ?_⟩))
    go_ret
    exact ⟨yq,yd⟩
   obtain rfl:=zO H
   go_wp2
   go_ret
   exact ⟨yq,yd⟩
 rw [za5 c3] at H
 obtain ⟨ao,ap⟩:=yF c3
 obtain rfl:=zO H
 go_enter Try.func17,Try.ntmps17
 go_wp2
 go_ret
 exact ⟨yq,yd⟩
def r12_Right.f (a0 : Int) (a1 : Int) : Option (Bool):=if a0≤60 then (if a1=1 then (if a0 ≥ 11 then (some true) else (if a1=2 then (some (decide (a0 ≥ 17))) else (some false))) else (if a1=2 then (some (decide (a0 ≥ 17))) else (some false))) else (some false)
theorem r12_Right.calls (a0 : Int) (a1 : Int) (r : Bool) (w : World) (h : r12_Right.f a0 a1=some r) :
  Calls Try.prog 23 #[.int .i64 a0, .int .i64 a1] w fun e w' => e=.returned (.bool r)∧Drawn0 w w' := by
 have H:=h
 unfold r12_Right.f at H
 clear h
 replace H:=yId H
 obtain ⟨aa,H⟩ | ⟨aa,H⟩:=H
 ·
  by_cases c4 : a1=1
  ·
   rw [za4 c4] at H
   obtain ⟨ac,ae⟩:=yE c4
   clear c4
   replace H:=yIl H
   obtain ⟨af,H⟩ | ⟨af,H⟩:=H
   ·
    obtain rfl:=zO H
    go_enter Try.func23,Try.ntmps23
    go_wp2
    go_ret
    exact ⟨yq,yd⟩
   by_cases c6 : a1=2
   ·
    rw [za4 c6] at H
    obtain ⟨ag,ah⟩:=yE c6
    clear c6
    obtain rfl:=zO H
    go_enter Try.func23,Try.ntmps23
    go_wp2
    go_ret
    exact ⟨yq,yd⟩
   rw [za5 c6] at H
   obtain ⟨ag,ah⟩:=yF c6
   obtain rfl:=zO H
   go_enter Try.func23,Try.ntmps23
   go_wp2
   go_ret
   exact ⟨yq,yd⟩
  rw [za5 c4] at H
  obtain ⟨ac,ae⟩:=yF c4
  by_cases c7 : a1=2
  ·
   rw [za4 c7] at H
   obtain ⟨ai,aj⟩:=yE c7
   clear c7
   obtain rfl:=zO H
   go_enter Try.func23,Try.ntmps23
   go_wp2
   go_ret
   exact ⟨yq,yd⟩
  rw [za5 c7] at H
  obtain ⟨ai,aj⟩:=yF c7
  obtain rfl:=zO H
  go_enter Try.func23,Try.ntmps23
  go_wp2
  go_ret
  exact ⟨yq,yd⟩
 obtain rfl:=zO H
 go_enter Try.func23,Try.ntmps23
 go_wp2
 go_ret
 exact ⟨yq,yd⟩
def r06_Size.l0 : Nat→Int→Int→Option (Int)
 | 0,_,_=>none
 | k+1,x0,x3=>if x3≤12 then (if x0=x3 then (some x3) else (if x0=(wrap64 (-x3)) then (some x3) else (r06_Size.l0 k x0 (wrap64 (x3+1))))) else (some 13)
def r06_Size.f (k : Nat) (a0 : Int) : Option (Int):=r06_Size.l0 k a0 0
theorem r06_Size.mono_l : ∀ k,(∀ y0 y1,LeO (r06_Size.l0 k y0 y1) (r06_Size.l0 (k+1) y0 y1))
 | 0=>fun _ _ r h=>by simp [r06_Size.l0] at h
 | k+1=>by
  have ih0:=r06_Size.mono_l k
  ·
   intro y0 y1
   unfold r06_Size.l0
   exact yLm
theorem r06_Size.mono : ∀ a0 k,LeO (r06_Size.f k a0) (r06_Size.f (k+1) a0):=by
 intro a0 k
 have ih0:=r06_Size.mono_l k
 unfold r06_Size.f
 exact yLm
theorem r06_Size.calls (k : Nat) (a0 : Int) (r : Int) (w : World) (h : r06_Size.f k a0=some r) :
  Calls Try.prog 80 #[.int .i64 a0] w fun e w' => e=.returned (.int .i64 r)∧Drawn0 w w' := by
 have H:=h
 unfold r06_Size.f at H
 clear h
 have H' := zm H
 clear H
 go_enter Try.func80,Try.ntmps80
 go_wp2
 go_loopg [3] k (fun kq v3 w' => ∃ (aa : Int),v3=.int .i64 aa∧Aside0 (r06_Size.l0 kq a0 aa=some r)∧Aside0 (kq≤k)∧Drawn0 w w')
 case atStart=>exact ⟨(0),yq,H',⟨zX _⟩,yd⟩
 case round =>
  clear H'
  obtain ⟨aa,rfl,HA,HK1,⟨m1,rfl⟩⟩:=hrel
  obtain ⟨k1,rfl⟩:=ysu gk (fun h=>by subst h;exact absurd HA.out (by simp [r06_Size.l0]))
  have H:=HA.out;clear HA
  simp only [r06_Size.l0] at H
  replace H:=yId H
  obtain ⟨ac,H⟩ | ⟨ac,H⟩:=H
  ·
   by_cases c3 : a0=aa
   ·
    rw [za4 c3] at H
    obtain ⟨ae,af⟩:=yE c3
    clear c3
    obtain rfl:=zO H
    go_wp2
    go_ret
    exact ⟨yq,yd⟩
   rw [za5 c3] at H
   obtain ⟨ae,af⟩:=yF c3
   by_cases c4 : a0=(wrap64 (-aa))
   ·
    rw [za4 c4] at H
    obtain ⟨ag,ah⟩:=yE c4
    clear c4
    obtain rfl:=zO H
    go_wp2
    go_ret
    exact ⟨yq,yd⟩
   rw [za5 c4] at H
   obtain ⟨ag,ah⟩:=yF c4
   have H' := zm H
   clear H
   go_wp2
   go_roundg k1
   case measure=>exact yom1 HK1
   case rel=>exact ⟨(wrap64 (aa+1)),yq,H',⟨yom1 HK1⟩,yd⟩
  obtain rfl:=zO H
  go_wp2
  go_ret
  exact ⟨yq,yd⟩
def r06_Pulses.l0 : Nat→List Int→Int→Int→Option (Int)
 | 0,_,_,_=>none
 | k+1,x0,x3,x4=>if x4 < (x0.length : Int) then (if 0≤x4 then ((r06_Size.f k (rd x0 x4)).bind fun ac=>(r06_Pulses.l0 k x0 (wrap64 (x3+ac)) (wrap64 (x4+1)))) else (none)) else (some x3)
def r06_Pulses.f (k : Nat) (l0 : List Int) : Option (Int):=r06_Pulses.l0 k l0 0 0
theorem r06_Pulses.mono_l : ∀ k,(∀ y0 y1 y2,LeO (r06_Pulses.l0 k y0 y1 y2) (r06_Pulses.l0 (k+1) y0 y1 y2))
 | 0=>fun _ _ _ r h=>by simp [r06_Pulses.l0] at h
 | k+1=>by
  have ih0:=r06_Pulses.mono_l k
  ·
   intro y0 y1 y2
   unfold r06_Pulses.l0
   have i0:=@r06_Size.mono
   exact yLm
theorem r06_Pulses.mono : ∀ a0 k,LeO (r06_Pulses.f k a0) (r06_Pulses.f (k+1) a0):=by
 intro a0 k
 have ih0:=r06_Pulses.mono_l k
 unfold r06_Pulses.f
 have i0:=@r06_Size.mono
 exact yLm
theorem r06_Pulses.calls (k : Nat) (A0 : Option Addr) (c0 : Nat) (l0 : List Int) (r : Int) (w : World) (hr0 : Kd.C (Kd.int .i64) w A0 l0.length l0) (hc0 : l0.length≤c0) (h : r06_Pulses.f k l0=some r) :
  Calls Try.prog 40 #[.slice A0 l0.length c0] w fun e w' => e=.returned (.int .i64 r)∧Drawn0 w w' := by
 have HR0:=zm hr0;have HC0:=zm hc0;clear hr0 hc0;have H:=h
 unfold r06_Pulses.f at H
 clear h
 have H' := zm H
 clear H
 go_enter Try.func40,Try.ntmps40
 go_wp2
 go_loopg [3,4] k (fun kq v3 v4 w' => ∃ (ae : Int) (aa : Int),v3=.int .i64 ae∧v4=.int .i64 aa∧Aside0 (r06_Pulses.l0 kq l0 ae aa=some r)∧Aside0 (kq≤k)∧Drawn0 w w')
 case atStart=>exact ⟨(0),(0),yq,yq,H',⟨zX _⟩,yd⟩
 case round =>
  clear H'
  obtain ⟨ae,aa,rfl,rfl,HA,HK1,⟨m1,rfl⟩⟩:=hrel
  obtain ⟨k1,rfl⟩:=ysu gk (fun h=>by subst h;exact absurd HA.out (by simp [r06_Pulses.l0]))
  have H:=HA.out;clear HA
  simp only [r06_Pulses.l0] at H
  replace H:=yId H
  obtain ⟨ag,H⟩ | ⟨ag,H⟩:=H
  ·
   obtain ⟨c3,H⟩:=yif H
   have aj : decide (0≤aa)=true:=decide_eq_true c3
   clear c3
   obtain ⟨ac,A4,H⟩:=ybi H
   have H' := zm H
   clear H
   obtain ⟨ai,ah,af,ak,al⟩:=yai HR0 aa
   cases ah
   go_wp2_with (first|((with_reducible refine zK (f:=80) rfl ?_);refine ygl 16 Try.func80 #[.int .i64 (rd l0 aa)] ?_;(with_reducible refine (r06_Size.calls k1 (rd l0 aa) ac _ A4.out).mono ?_);rintro e w' ⟨rfl,⟨nd,rfl⟩⟩;refine ⟨_,rfl, ?_⟩))
   go_roundg k1
   case measure=>exact yom1 HK1
   case rel=>exact ⟨(wrap64 (ae+ac)),(wrap64 (aa+1)),yq,yq,H',⟨yom1 HK1⟩,yd⟩
  obtain rfl:=zO H
  go_wp2
  go_ret
  exact ⟨yq,yd⟩
def r10_Width.j0 : Nat→Int→Bool→Option (Int)
 | 0,_,_=>none
 | k+1,x3,x4=>if x4=true then (some 1) else (if x3=2 then (some 2) else (if x3=3 then (some 4) else (if x3=4 then (some 8) else (some 0))))
def r10_Width.f (k : Nat) (a0 : Int) : Option (Int):=if a0=0 then (r10_Width.j0 k a0 (a0 == 0)) else (r10_Width.j0 k a0 (a0 == 1))
theorem r10_Width.mono_l : ∀ k,(∀ y0 y1,LeO (r10_Width.j0 k y0 y1) (r10_Width.j0 (k+1) y0 y1))
 | 0=>fun _ _ r h=>by simp [r10_Width.j0] at h
 | k+1=>by
  have ih0:=r10_Width.mono_l k
  ·
   intro y0 y1
   unfold r10_Width.j0
   exact yLm
theorem r10_Width.mono : ∀ a0 k,LeO (r10_Width.f k a0) (r10_Width.f (k+1) a0):=by
 intro a0 k
 have ih0:=r10_Width.mono_l k
 unfold r10_Width.f
 exact yLm
theorem r10_Width.calls (k : Nat) (a0 : Int) (r : Int) (w : World) (h : r10_Width.f k a0=some r) :
  Calls Try.prog 46 #[.int .i64 a0] w fun e w' => e=.returned (.int .i64 r)∧Drawn0 w w' := by
 have H:=h
 unfold r10_Width.f at H
 clear h;have HC2:=zm H;clear H
 go_enter Try.func46,Try.ntmps46
 go_upto_if 4 with (fail)
 go_cut [4] (fun v4 wc => ∃ (kq : Nat) (ac : Bool),v4=.bool ac∧Aside0 (r10_Width.j0 kq a0 ac=some r)∧Aside0 (kq≤k)∧Drawn0 w wc)
 case first =>
  have H:=HC2.out;clear HC2
  by_cases c3 : a0=0
  ·
   rw [za4 c3] at H
   obtain ⟨aa,ae⟩:=yE c3
   clear c3
   (first|rw [aa]|(simp only [i64_w,i32_w];rw [aa])|skip)
   have H' := zm H
   clear H
   go_wp2
   go_meet
   case rel=>exact ⟨_,((a0 == 0)),yq,H',⟨yo⟩,yd⟩
  rw [za5 c3] at H
  obtain ⟨aa,ae⟩:=yF c3
  (first|rw [aa]|(simp only [i64_w,i32_w];rw [aa])|skip)
  have H' := zm H
  clear H
  go_wp2
  go_meet
  case rel=>exact ⟨_,((a0 == 1)),yq,H',⟨yo⟩,yd⟩
 case rest =>
  clear HC2
  obtain ⟨kq,ac,rfl,HA,HJ1,⟨mc1,rfl⟩⟩:=hcut
  obtain ⟨kj1,rfl⟩:=ysu kq (fun h=>by subst h;exact absurd HA.out (by simp [r10_Width.j0]))
  have H:=HA.out;clear HA
  simp only [r10_Width.j0] at H
  by_cases c4 : ac=true
  ·
   subst c4
   rw [za4 rfl] at H
   obtain rfl:=zO H
   go_wp2
   go_ret
   exact ⟨yq,yd⟩
  replace c4:=za3.mpr c4
  subst c4
  rw [ynf] at H
  by_cases c5 : a0=2
  ·
   rw [za4 c5] at H
   obtain ⟨af,ag⟩:=yE c5
   clear c5
   obtain rfl:=zO H
   go_wp2
   go_ret
   exact ⟨yq,yd⟩
  rw [za5 c5] at H
  obtain ⟨af,ag⟩:=yF c5
  by_cases c6 : a0=3
  ·
   rw [za4 c6] at H
   obtain ⟨ah,ai⟩:=yE c6
   clear c6
   obtain rfl:=zO H
   go_wp2
   go_ret
   exact ⟨yq,yd⟩
  rw [za5 c6] at H
  obtain ⟨ah,ai⟩:=yF c6
  by_cases c7 : a0=4
  ·
   rw [za4 c7] at H
   obtain ⟨aj,ak⟩:=yE c7
   clear c7
   obtain rfl:=zO H
   go_wp2
   go_ret
   exact ⟨yq,yd⟩
  rw [za5 c7] at H
  obtain ⟨aj,ak⟩:=yF c7
  obtain rfl:=zO H
  go_wp2
  go_ret
  exact ⟨yq,yd⟩
def r12_More.f (l0 : List Int) (a1 : Int) : Option (List Int):=(some (([] : List Int) : List Int)).bind fun ae=>(if ae.length+l0.length < 17592186044416 then ((some (ae ++ l0 : List Int)).bind fun aa=>(if 0≤a1 then (if a1 < (aa.length : Int) then (some (aa.set (a1 : Int).toNat (wrap64 ((rd aa a1)+1)))) else (none)) else (none))) else (none))
theorem r12_More.calls (A0 : Option Addr) (c0 : Nat) (l0 : List Int) (a1 : Int) (r : List Int) (w : World) (hr0 : Kd.C (Kd.int .i64) w A0 l0.length l0) (hc0 : l0.length≤c0) (h : r12_More.f l0 a1=some r) :
  Calls Try.prog 96 #[.slice A0 l0.length c0, .int .i64 a1] w fun e w' => ∃ v0_ : Value,e=.returned (v0_)∧Kd.R (Kd.int .i64) 3 w' w.heap.size (fun _=>True) v0_ r∧Below w.heap.size w w' := by
 have HR0:=zm hr0;have HC0:=zm hc0;clear hr0 hc0;have HB:=zm (zY w.heap.size w);have H:=h
 unfold r12_More.f at H
 clear h
 obtain ⟨ae,af⟩ : ∃ y_ : List Int,y_=(([] : List Int)):=⟨_,rfl⟩
 replace H : (if ae.length+l0.length < 17592186044416 then ((some (ae ++ l0 : List Int)).bind fun aa=>(if 0≤a1 then (if a1 < (aa.length : Int) then (some (aa.set (a1 : Int).toNat (wrap64 ((rd aa a1)+1)))) else (none)) else (none))) else (none))=some r:=yrw af H
 have aj:=zm af;clear af
 obtain ⟨c3,H⟩:=yif H
 have LMc3:=zm c3;clear c3
 obtain ⟨aa,ag⟩ : ∃ y_ : List Int,y_=(ae ++ l0):=⟨_,rfl⟩
 replace H : (if 0≤a1 then (if a1 < (aa.length : Int) then (some (aa.set (a1 : Int).toNat (wrap64 ((rd aa a1)+1)))) else (none)) else (none))=some r:=yrw ag H
 have am:=zm ag;clear ag
 obtain ⟨c4,H⟩:=yif H
 have aC : decide (0≤a1)=true:=decide_eq_true c4
 clear c4
 obtain ⟨c5,H⟩:=yif H
 have aD : decide (a1 < (aa.length : Int))=true:=decide_eq_true c5
 clear c5
 obtain ⟨ao,ah⟩ : ∃ y_ : List Int,y_=(aa.set (a1 : Int).toNat (wrap64 ((rd aa a1)+1))):=⟨_,rfl⟩
 replace H : (some ao)=some r:=yrw ah H
 have ap:=zm ah;clear ah
 obtain rfl:=zO H
 go_enter Try.func96,Try.ntmps96
 go_wp2_with (first|((with_reducible refine zL (N:=6) rfl ?_);refine Kd.R_lit (Kd.int .i64) _ 3 ?hg (N:=6) ?hd (xs:=([] : List Int)) (inner := []) (ok:=fun _=>True) (okp:=fun _=>True) ?hr ?hp (fun _ hk=>hk) trivial (zY _ _) (zX _) (by simp) ?_;(case hd=>rfl);(case hg=>rfl);(case hr=>first|(go_simp;done)|(go_simp;rfl));(case hp=>exact (Reps.none _ _));intro aq w7 ho8 hb hg_ hnew_;clear hg_ hnew_;(first|rw [← aj.out] at ho8|(simp only [Int.reduceToNat] at ho8;rw [← aj.out] at ho8));have ak:=zm (za0 ho8 (zE yhb));replace HB:=ybs hb;clear hb ho8)|((with_reducible refine zb9 (b:=.append) (xs := #[.tmp 6, .tmp 7]) rfl ?_);at_builtin;refine Kd.R_append_rows (Kd.int .i64) (w0:=w) w.heap.size rfl (.tmp 6) (.tmp 7) 49 3 (.int .i64 0) 8 rfl Try.underlying49 info3 rfl (by decide) (by omega) aq ae l0 _ _ _ (fun _=>True) (fun _=>False) rfl rfl ?aO ?aR (fun _ _ h=>h) (fun _ h=>h.elim) ?aF ?aB ?aS ?aL ?_;(case aR=>exact ycb HR0);(case aB=>exact yhb);(case aF=>exact (fun _ _=>trivial));(case aO=>exact (yr ak));(case aS=>exact (zE yhb));(case aL=>have:=LMc3.out;omega);intro aE w9 ho hb hg hat;rw [← am.out] at ho;replace HB:=zm (hb);have ac:=zm (ho);clear ak;clear ho hb hg hat;obtain ⟨aG,au,av⟩:=zT ac.out;subst av;obtain ⟨⟨ax,aw,ai⟩,aH,aI⟩:=yat (zb7 (zQ ac.out).2.2 a1);cases aw;have p6 : 0≤(a1 : Int):=yt;have q6 : (a1 : Int) < ((aa.length : Int) : Int):=yt;obtain ⟨go6,co6,eo6,gb6,gl6,cl6,HG6⟩:=Kd.R_form ac.out (by omega);(first|cases eo6|(injection eo6 with ea_ en_ ec_;(first|subst ea_|(injection ea_ with ea_;subst ea_));subst ec_;clear en_));have GB6:=zm gb6;have GG6:=zm HG6;clear gb6 gl6 HG6;(first|simp only [add_plain] at ai|skip);obtain ⟨ay,az⟩:=Kd.R_celln 0 ac.out (a1 : Int) p6 q6;replace p6:=zP p6;replace q6:=zP q6;obtain ⟨aA,hz11_⟩:=Kd.R_celln 0 ac.out (a1 : Int) (yt) (yt);have al:=Kd.R_putg ac.out (a1 : Int) (wrap64 ((rd aa a1)+1)))|((with_reducible refine zb8 (t:=3) (p:=16) rfl ?_);refine za2 (t:=3) (p:=16) (v := ?vo_w12) (w1:=(w9.setCell ⟨go6,(a1 : Int).toNat,none⟩ (.int .i64 (wrap64 ((rd aa a1)+1))))) ?hg ?ho ?hn ?hr ?_;(case ho=>rfl);(case hg=>rfl);(case hn=>rfl);(case hr=>first|(go_simp;done)|(go_simp;rfl));intro w12 hw;have hg : w9.grownBy w12 (some go6):=(by rw [hw];exact al.2);have hp_ : Kd.R (Kd.int .i64) 3 w12 w.heap.size (fun _=>True) (.slice (some ⟨go6,0,none⟩) aa.length au) ao:=(by rw [hw,ap.out];exact al.1);clear al;replace ac:=zm (hp_);replace HB:=zm ((by rw [hw];exact zk (HB.out) GB6.out : Below w.heap.size w w12));clear hg hw hp_))
 go_ret
 exact ⟨_,ye,yr ac,yhb⟩
def r03_Log2.f : Nat→Int→Option (Int)
 | 0,_=>none
 | k+1,a0=>if a0=0 then (some (-1)) else ((r03_Log2.f k (IntKind.u64.wrap (Int.tdiv a0 2))).bind fun aa=>(some (wrap64 (1+aa))))
theorem r03_Log2.mono_l : ∀ k,(∀ y0,LeO (r03_Log2.f k y0) (r03_Log2.f (k+1) y0))
 | 0=>fun _ r h=>by simp [r03_Log2.f] at h
 | k+1=>by
  have ih0:=r03_Log2.mono_l k
  ·
   intro y0
   unfold r03_Log2.f
   exact yLm
theorem r03_Log2.mono : ∀ a0 k,LeO (r03_Log2.f k a0) (r03_Log2.f (k+1) a0):=by
 intro a0 k
 have ih0:=r03_Log2.mono_l k
 exact ih0 a0
theorem r03_Log2.calls (k : Nat) : ∀ (a0 : Int) (r : Int) (w : World) (h : r03_Log2.f k a0=some r),
  Calls Try.prog 102 #[.int .u64 a0] w fun e w' => e=.returned (.int .i64 r)∧Drawn0 w w' := by
 induction k using Nat.strongRecOn with
 | _ k ih =>
 intro a0 r w h
 cases k with
 | zero=>exact absurd h (by simp [r03_Log2.f])
 | succ k =>
 simp only [r03_Log2.f] at h
 have H : (if a0=0 then (some (-1)) else ((r03_Log2.f k (IntKind.u64.wrap (Int.tdiv a0 2))).bind fun aa=>(some (wrap64 (1+aa)))))=some r:=h
 clear h
 by_cases c2 : a0=0
 ·
  rw [za4 c2] at H
  obtain ⟨ac,ae⟩:=yE c2
  clear c2
  obtain rfl:=zO H
  go_enter Try.func102,Try.ntmps102
  go_wp2
  go_ret
  exact ⟨yq,yd⟩
 rw [za5 c2] at H
 obtain ⟨ac,ae⟩:=yF c2
 obtain ⟨aa,A3,H⟩:=ybi H
 obtain rfl:=zO H
 go_enter Try.func102,Try.ntmps102
 go_wp2_with (first|((with_reducible refine zK (f:=102) rfl ?_);refine ygl 7 Try.func102 #[.int .u64 (IntKind.u64.wrap (Int.tdiv a0 2))] ?_;(with_reducible refine (ih k (by omega) (IntKind.u64.wrap (Int.tdiv a0 2)) aa _ A3.out).mono ?_);rintro e w' ⟨rfl,⟨nd,rfl⟩⟩;refine ⟨_,rfl, ?_⟩))
 go_ret
 exact ⟨yq,yd⟩
mutual
def r06_Row.l0 : Nat→Int→List Int→Int→Option (List Int)
 | 0,_,_,_=>none
 | k+1,x0,x3,x4=>if x4≤12 then (if x4=0 then (if x3.length < 17592186044416 then (r06_Row.l0 k x0 (x3 ++ [1]) (wrap64 (x4+1))) else (none)) else (if x3.length < 17592186044416 then (r06_Row.l0 k x0 (x3 ++ [0]) (wrap64 (x4+1))) else (none))) else (r06_Row.l1 k x0 x3 0)
def r06_Row.l1 : Nat→Int→List Int→Int→Option (List Int)
 | 0,_,_,_=>none
 | k+1,x0,x3,x5=>if x5 < x0 then (r06_Row.l2 k x0 x3 x5 ([] : List Int) 0) else (some x3)
def r06_Row.l2 : Nat→Int→List Int→Int→List Int→Int→Option (List Int)
 | 0,_,_,_,_,_=>none
 | k+1,x0,x3,x5,x6,x7=>if x7≤12 then (if 0≤x7 then (if x7 < (x3.length : Int) then (r06_Row.l3 k x0 x3 x5 x6 x7 (rd x3 x7) 1) else (none)) else (none)) else (r06_Row.l1 k x0 x6 (wrap64 (x5+1)))
def r06_Row.l3 : Nat→Int→List Int→Int→List Int→Int→Int→Int→Option (List Int)
 | 0,_,_,_,_,_,_,_=>none
 | k+1,x0,x3,x5,x6,x7,x8,x9=>if x9≤x7 then (if 0≤(wrap64 (x7 - x9)) then (if (wrap64 (x7 - x9)) < (x3.length : Int) then (r06_Row.l3 k x0 x3 x5 x6 x7 (IntKind.u64.wrap (x8+(IntKind.u64.wrap (2 * (rd x3 (wrap64 (x7 - x9))))))) (wrap64 (x9+1))) else (none)) else (none)) else (if x6.length < 17592186044416 then (r06_Row.l2 k x0 x3 x5 (x6 ++ [x8]) (wrap64 (x7+1))) else (none))
end
def r06_Row.f (k : Nat) (a0 : Int) : Option (List Int):=r06_Row.l0 k a0 ([] : List Int) 0
theorem r06_Row.mono_l : ∀ k,(∀ y0 y1 y2,LeO (r06_Row.l0 k y0 y1 y2) (r06_Row.l0 (k+1) y0 y1 y2))∧(∀ y0 y1 y2,LeO (r06_Row.l1 k y0 y1 y2) (r06_Row.l1 (k+1) y0 y1 y2))∧(∀ y0 y1 y2 y3 y4,LeO (r06_Row.l2 k y0 y1 y2 y3 y4) (r06_Row.l2 (k+1) y0 y1 y2 y3 y4))∧(∀ y0 y1 y2 y3 y4 y5 y6,LeO (r06_Row.l3 k y0 y1 y2 y3 y4 y5 y6) (r06_Row.l3 (k+1) y0 y1 y2 y3 y4 y5 y6))
 | 0=>⟨fun _ _ _ r h=>by simp [r06_Row.l0] at h,fun _ _ _ r h=>by simp [r06_Row.l1] at h,fun _ _ _ _ _ r h=>by simp [r06_Row.l2] at h,fun _ _ _ _ _ _ _ r h=>by simp [r06_Row.l3] at h⟩
 | k+1=>by
  obtain ⟨ih0,ih1,ih2,ih3⟩:=r06_Row.mono_l k
  refine ⟨?_, ?_, ?_, ?_⟩
  ·
   intro y0 y1 y2
   unfold r06_Row.l0
   exact yLm
  ·
   intro y0 y1 y2
   unfold r06_Row.l1
   exact yLm
  ·
   intro y0 y1 y2 y3 y4
   unfold r06_Row.l2
   exact yLm
  intro y0 y1 y2 y3 y4 y5 y6
  unfold r06_Row.l3
  exact yLm
theorem r06_Row.mono : ∀ a0 k,LeO (r06_Row.f k a0) (r06_Row.f (k+1) a0):=by
 intro a0 k
 obtain ⟨ih0,ih1,ih2,ih3⟩:=r06_Row.mono_l k
 unfold r06_Row.f
 exact yLm
theorem r06_Row.calls (k : Nat) (a0 : Int) (r : List Int) (w : World) (h : r06_Row.f k a0=some r) :
  Calls Try.prog 81 #[.int .i64 a0] w fun e w' => ∃ v0_ : Value,e=.returned (v0_)∧Kd.R (Kd.int .u64) 51 w' w.heap.size (fun _=>True) v0_ r∧Below w.heap.size w w' := by
 have HB:=zm (zY w.heap.size w);have H:=h
 unfold r06_Row.f at H
 clear h
 have H' := zm H
 clear H
 go_enter Try.func81,Try.ntmps81
 go_wp2
 go_loopg [3,4] k (fun kq v3 v4 w' => ∃ (af : List Int) (ag : Int),v4=.int .i64 ag∧Aside0 (r06_Row.l0 kq a0 af ag=some r)∧Aside0 (kq≤k)∧Aside0 (Kd.R (Kd.int .u64) 51 w' w.heap.size (fun _=>True) v3 af)∧Aside0 (Below w.heap.size w w'))
 case atStart=>exact ⟨(([] : List Int)),(0),yq,H',⟨zX _⟩,⟨yn⟩,⟨yhb⟩⟩
 case round =>
  clear H'
  obtain ⟨af,ag,rfl,HA,HK1,aa,HB⟩:=hrel
  obtain ⟨k1,rfl⟩:=ysu gk (fun h=>by subst h;exact absurd HA.out (by simp [r06_Row.l0]))
  have H:=HA.out;clear HA
  simp only [r06_Row.l0] at H
  replace H:=yId H
  obtain ⟨ay,H⟩ | ⟨ay,H⟩:=H
  ·
   by_cases c3 : ag=0
   ·
    rw [za4 c3] at H
    obtain ⟨aW,aX⟩:=yE c3
    clear c3
    obtain ⟨c4,H⟩:=yif H
    have LMc4:=zm c4;clear c4
    obtain ⟨az,ap⟩ : ∃ y_ : List Int,y_=(af ++ [1]):=⟨_,rfl⟩
    replace H : (r06_Row.l0 k1 a0 az (wrap64 (ag+1)))=some r:=yrw ap H
    have aA:=zm ap;clear ap
    have H' := zm H
    clear H
    go_wp2_with (first|((with_reducible refine zb9 (b:=.append) (xs := #[.tmp 16, .tmp 17]) rfl ?_);at_builtin;refine Kd.R_append (Kd.int .u64) (w0:=w) w.heap.size rfl (.tmp 16) (.tmp 17) 126 51 (.int .u64 0) 8 rfl Try.underlying126 info51 rfl (by decide) (by omega) u3 af 1 [.int .u64 1] (fun _=>True) (fun _=>False) rfl rfl ?aP (fun _ hk=>hk.elim) ?aF ?aO ?aB ?aS ?aL ?_;(case aP=>exact rfl);(case aB=>exact yhb);(case aF=>exact (fun _ _=>trivial));(case aO=>exact (yr aa));(case aS=>exact (zE yhb));(case aL=>have:=LMc4.out;omega);intro bc w5 ho hb hg hat;rw [← aA.out] at ho;replace HB:=zm (hb);have aC:=zm (ho);clear aa;clear ho hb hg hat))
    go_roundg k1
    case measure=>exact yom1 HK1
    case rel=>exact ⟨(az),(wrap64 (ag+1)),yq,H',⟨yom1 HK1⟩,⟨yr aC⟩,⟨yhb⟩⟩
   rw [za5 c3] at H
   obtain ⟨aW,aX⟩:=yF c3
   obtain ⟨c6,H⟩:=yif H
   have LMc6:=zm c6;clear c6
   obtain ⟨aD,aq⟩ : ∃ y_ : List Int,y_=(af ++ [0]):=⟨_,rfl⟩
   replace H : (r06_Row.l0 k1 a0 aD (wrap64 (ag+1)))=some r:=yrw aq H
   have aE:=zm aq;clear aq
   have H' := zm H
   clear H
   go_wp2_with (first|((with_reducible refine zb9 (b:=.append) (xs := #[.tmp 19, .tmp 20]) rfl ?_);at_builtin;refine Kd.R_append (Kd.int .u64) (w0:=w) w.heap.size rfl (.tmp 19) (.tmp 20) 126 51 (.int .u64 0) 8 rfl Try.underlying126 info51 rfl (by decide) (by omega) u3 af 0 [.int .u64 0] (fun _=>True) (fun _=>False) rfl rfl ?aP (fun _ hk=>hk.elim) ?aF ?aO ?aB ?aS ?aL ?_;(case aP=>exact rfl);(case aB=>exact yhb);(case aF=>exact (fun _ _=>trivial));(case aO=>exact (yr aa));(case aS=>exact (zE yhb));(case aL=>have:=LMc6.out;omega);intro bd w7 ho hb hg hat;rw [← aE.out] at ho;replace HB:=zm (hb);have aG:=zm (ho);clear aa;clear ho hb hg hat))
   go_roundg k1
   case measure=>exact yom1 HK1
   case rel=>exact ⟨(aD),(wrap64 (ag+1)),yq,H',⟨yom1 HK1⟩,⟨yr aG⟩,⟨yhb⟩⟩
  have H' := zm H
  clear H
  go_wp2
  go_loopg [3,5] k1 (fun kq v3 v5 w' => ∃ (ac : List Int) (ai : Int),v5=.int .i64 ai∧Aside0 (r06_Row.l1 kq a0 ac ai=some r)∧Aside0 (kq≤k1)∧Aside0 (Kd.R (Kd.int .u64) 51 w' w.heap.size (fun _=>True) v3 ac)∧Aside0 (Below w.heap.size w w'))
  case atStart=>exact ⟨(af),(0),yq,H',⟨zX _⟩,⟨yr aa⟩,⟨yhb⟩⟩
  case round =>
   clear H'
   try clear ay
   try clear c3
   obtain ⟨ac,ai,rfl,HA,HK2,aa,HB⟩:=hrel
   obtain ⟨k2,rfl⟩:=ysu gk (fun h=>by subst h;exact absurd HA.out (by simp [r06_Row.l1]))
   have H:=HA.out;clear HA
   simp only [r06_Row.l1] at H
   replace H:=yId H
   obtain ⟨aH,H⟩ | ⟨aH,H⟩:=H
   ·
    have H' := zm H
    clear H
    go_wp2
    go_loopg [6,7] k2 (fun kq v6 v7 w' => ∃ (ah : List Int) (ae : Int),v7=.int .i64 ae∧Aside0 (r06_Row.l2 kq a0 ac ai ah ae=some r)∧Aside0 (kq≤k2)∧Aside0 (Kd.R (Kd.int .u64) 51 w' w.heap.size (fun k_=>some k_≠(v6 : Value).ownBlock) u3 ac)∧Aside0 (Kd.R (Kd.int .u64) 51 w' w.heap.size (fun k_=>some k_≠(u3 : Value).ownBlock) v6 ah)∧Aside0 (Below w.heap.size w w'))
    case atStart=>exact ⟨(([] : List Int)),(0),yq,H',⟨zX _⟩,⟨yR0 aa⟩,⟨yn⟩,⟨yhb⟩⟩
    case round =>
     clear H'
     try clear aH
     obtain ⟨ah,ae,rfl,HA,HK3,aa,am,HB⟩:=hrel
     obtain ⟨k3,rfl⟩:=ysu gk (fun h=>by subst h;exact absurd HA.out (by simp [r06_Row.l2]))
     have H:=HA.out;clear HA
     simp only [r06_Row.l2] at H
     replace H:=yId H
     obtain ⟨aI,H⟩ | ⟨aI,H⟩:=H
     ·
      obtain ⟨c10,H⟩:=yif H
      have aJ : decide (0≤ae)=true:=decide_eq_true c10
      clear c10
      obtain ⟨c11,H⟩:=yif H
      have aK : decide (ae < (ac.length : Int))=true:=decide_eq_true c11
      clear c11
      have H' := zm H
      clear H
      obtain ⟨bf,ax,aY⟩:=zT aa.out
      subst aY
      obtain ⟨⟨ak,aZ,aw⟩,a7,a8⟩:=yat (zb7 (zQ aa.out).2.2 ae)
      cases aZ
      go_wp2
      go_loopg [8,9] k3 (fun kq v8 v9 w' => ∃ (aj : Int) (ao : Int),v8=.int .u64 aj∧v9=.int .i64 ao∧Aside0 (r06_Row.l3 kq a0 ac ai ah ae aj ao=some r)∧Aside0 (kq≤k3)∧Aside0 (Kd.R (Kd.int .u64) 51 w' w.heap.size (fun k_=>some k_≠(u6 : Value).ownBlock) (.slice (some ak) ac.length ax) ac)∧Aside0 (Kd.R (Kd.int .u64) 51 w' w.heap.size (fun k_=>some k_≠((.slice (some ak) ac.length ax) : Value).ownBlock) u6 ah)∧Aside0 (Below w.heap.size w w'))
      case atStart=>exact ⟨(rd ac ae),(1),yq,yq,H',⟨zX _⟩,⟨yr aa⟩,⟨yr am⟩,⟨yhb⟩⟩
      case round =>
       clear H'
       try clear aI
       try clear aJ
       try clear aK
       try clear aw
       try clear a7
       try clear a8
       obtain ⟨aj,ao,rfl,rfl,HA,HK4,aa,am,HB⟩:=hrel
       obtain ⟨k4,rfl⟩:=ysu gk (fun h=>by subst h;exact absurd HA.out (by simp [r06_Row.l3]))
       have H:=HA.out;clear HA
       simp only [r06_Row.l3] at H
       replace H:=yId H
       obtain ⟨aM,H⟩ | ⟨aM,H⟩:=H
       ·
        obtain ⟨au,al⟩ : ∃ j_ : Int,(wrap64 (ae - ao))=j_:=⟨_,rfl⟩
        (first|rw [al] at H|simp only [al] at H)
        have hji14w : (IntKind.i64.wrap (ae - ao))=au:=(i64_w _).trans al
        obtain ⟨c15,H⟩:=yif H
        have ba : decide (0≤(au))=true:=decide_eq_true c15
        clear c15
        obtain ⟨c16,H⟩:=yif H
        have bb : decide ((au) < (ac.length : Int))=true:=decide_eq_true c16
        clear c16
        have H' := zm H
        clear H
        obtain ⟨⟨aN,a9,aV⟩,bg,bh⟩:=yat (zb7 (zQ aa.out).2.2 (au))
        obtain rfl : ak=aN:=(by injection a9)
        go_wp2
        go_roundg k4
        case measure=>exact yom4 HK1 HK2 HK3 HK4
        case rel=>exact ⟨(IntKind.u64.wrap (aj+(IntKind.u64.wrap (2 * (rd ac (au)))))),(wrap64 (ao+1)),(by first|rfl|(simp;done)|(simp only [← al] <;> (first|rfl|simp))|(simp [*];done)),yq,H',⟨yom4 HK1 HK2 HK3 HK4⟩,⟨yr aa⟩,⟨yr am⟩,⟨yhb⟩⟩
       obtain ⟨c17,H⟩:=yif H
       have LMc17:=zm c17;clear c17
       obtain ⟨aQ,av⟩ : ∃ y_ : List Int,y_=(ah ++ [aj]):=⟨_,rfl⟩
       replace H : (r06_Row.l2 k4 a0 ac ai aQ (wrap64 (ae+1)))=some r:=yrw av H
       have aT:=zm av;clear av
       have H' := zm H
       clear H
       go_wp2_with (first|((with_reducible refine zb9 (b:=.append) (xs := #[.tmp 49, .tmp 51]) rfl ?_);at_builtin;refine Kd.R_append (Kd.int .u64) (w0:=w) w.heap.size rfl (.tmp 49) (.tmp 51) 126 51 (.int .u64 0) 8 rfl Try.underlying126 info51 rfl (by decide) (by omega) u6 ah aj [.int .u64 aj] (fun k_=>some k_≠(.slice (some ak) ac.length ax : Value).ownBlock) (fun _=>False) rfl rfl ?aP (fun _ hk=>hk.elim) ?aF ?aO ?aB ?aS ?aL ?_;(case aP=>exact rfl);(case aB=>exact yhb);(case aF=>exact (fun k_ hk=>zc2 (Kd.R_lt (yr aa)) k_ hk));(case aO=>exact (yr am));(case aS=>exact (zE yhb));(case aL=>have:=LMc17.out;omega);intro bi w18 ho hb hg hat;rw [← aT.out] at ho;replace aa:=zm (zc0 (ok:=(fun _=>True)) (yR0 aa) hg hat);replace HB:=zm (hb);have aU:=zm (ho);clear am;clear ho hb hg hat))
       go_roundg k4
       case measure=>exact yom4 HK1 HK2 HK3 HK4
       case rel=>exact ⟨(aQ),(wrap64 (ae+1)),yq,H',⟨yom4 HK1 HK2 HK3 HK4⟩,⟨yR0 aa⟩,⟨yr aU⟩,⟨yhb⟩⟩
     have H' := zm H
     clear H
     go_wp2
     go_roundg k3
     case measure=>exact yom3 HK1 HK2 HK3
     case rel=>exact ⟨(ah),(wrap64 (ai+1)),yq,H',⟨yom3 HK1 HK2 HK3⟩,⟨yR0 am⟩,⟨yhb⟩⟩
   obtain rfl:=zO H
   go_wp2
   go_ret
   exact ⟨_,ye,yr aa,yhb⟩
def r06_Count.f (k : Nat) (a0 : Int) (a1 : Int) : Option (Int):=(r06_Row.f k a0).bind fun aa=>(if 0≤a1 then (if a1 < (aa.length : Int) then (some (rd aa a1)) else (none)) else (none))
theorem r06_Count.mono : ∀ a0 a1 k,LeO (r06_Count.f k a0 a1) (r06_Count.f (k+1) a0 a1):=by
 intro a0 a1 k
 unfold r06_Count.f
 have i0:=@r06_Row.mono
 exact yLm
theorem r06_Count.calls (k : Nat) (a0 : Int) (a1 : Int) (r : Int) (w : World) (h : r06_Count.f k a0 a1=some r) :
  Calls Try.prog 43 #[.int .i64 a0, .int .i64 a1] w fun e w' => e=.returned (.int .u64 r)∧Below w.heap.size w w' := by
 have HB:=zm (zY w.heap.size w);have H:=h
 unfold r06_Count.f at H
 clear h
 obtain ⟨aa,A3,H⟩:=ybi H
 obtain ⟨c4,H⟩:=yif H
 have ah : decide (0≤a1)=true:=decide_eq_true c4
 clear c4
 obtain ⟨c5,H⟩:=yif H
 have ai : decide (a1 < (aa.length : Int))=true:=decide_eq_true c5
 clear c5
 obtain rfl:=zO H
 go_enter Try.func43,Try.ntmps43
 go_wp2_with (first|((with_reducible refine zK (f:=81) rfl ?_);refine ygl 6 Try.func81 #[.int .i64 a0] ?_;(with_reducible refine (r06_Row.calls k a0 aa _ A3.out).mono ?_);rintro e w6 ⟨aj,rfl,ho0,hb⟩;refine ⟨_,rfl, ?_⟩;have ac:=zm (za0 ho0 (zE yhb));replace HB:=ybs hb;(try clear hb);(try clear ho0);obtain ⟨Ao7,co7,eo7⟩:=zT ac.out;subst eo7;obtain ⟨⟨ag,af,ae⟩,ak,al⟩:=yat (zb7 (zQ ac.out).2.2 a1);cases af))
 go_ret
 exact ⟨ye,yhb⟩
def r06_Cost.f (k : Nat) (a0 : Int) (a1 : Int) : Option (Int):=(r06_Count.f k a0 a1).bind fun aa=>(if (IntKind.u64.wrap (aa - 1)) < 65536 then ((r03_Log2.f k (IntKind.u64.wrap (aa - 1))).bind fun ac=>(some (wrap64 (1+ac)))) else ((r03_Log2.f k (IntKind.u64.wrap (Int.tdiv (IntKind.u64.wrap (aa - 1)) 65536))).bind fun ae=>(some (wrap64 (17+ae)))))
theorem r06_Cost.mono : ∀ a0 a1 k,LeO (r06_Cost.f k a0 a1) (r06_Cost.f (k+1) a0 a1):=by
 intro a0 a1 k
 unfold r06_Cost.f
 have i0:=@r03_Log2.mono;have i1:=@r06_Count.mono
 exact yLm
theorem r06_Cost.calls (k : Nat) (a0 : Int) (a1 : Int) (r : Int) (w : World) (h : r06_Cost.f k a0 a1=some r) :
  Calls Try.prog 101 #[.int .i64 a0, .int .i64 a1] w fun e w' => e=.returned (.int .i64 r)∧Below w.heap.size w w' := by
 have HB:=zm (zY w.heap.size w);have H:=h
 unfold r06_Cost.f at H
 clear h
 obtain ⟨aa,A3,H⟩:=ybi H
 replace H:=yId H
 obtain ⟨af,H⟩ | ⟨af,H⟩:=H
 ·
  obtain ⟨ac,A5,H⟩:=ybi H
  obtain rfl:=zO H
  go_enter Try.func101,Try.ntmps101
  go_wp2_with (first|((with_reducible refine zK (f:=43) rfl ?_);refine ygl 8 Try.func43 #[.int .i64 a0, .int .i64 a1] ?_;(with_reducible refine (r06_Count.calls k a0 a1 aa _ A3.out).mono ?_);rintro e w6 ⟨rfl,hb⟩;refine ⟨_,rfl, ?_⟩;replace HB:=ybs hb;(try clear hb))|((with_reducible refine zK (f:=102) rfl ?_);refine ygl 13 Try.func102 #[.int .u64 (IntKind.u64.wrap (aa - 1))] ?_;(with_reducible refine (r03_Log2.calls k (IntKind.u64.wrap (aa - 1)) ac _ A5.out).mono ?_);rintro e w' ⟨rfl,⟨nd,rfl⟩⟩;refine ⟨_,rfl, ?_⟩))
  go_ret
  exact ⟨ye,yhb⟩
 obtain ⟨ae,A7,H⟩:=ybi H
 obtain rfl:=zO H
 go_enter Try.func101,Try.ntmps101
 go_wp2_with (first|((with_reducible refine zK (f:=43) rfl ?_);refine ygl 8 Try.func43 #[.int .i64 a0, .int .i64 a1] ?_;(with_reducible refine (r06_Count.calls k a0 a1 aa _ A3.out).mono ?_);rintro e w8 ⟨rfl,hb⟩;refine ⟨_,rfl, ?_⟩;replace HB:=ybs hb;(try clear hb))|((with_reducible refine zK (f:=102) rfl ?_);refine ygl 17 Try.func102 #[.int .u64 (IntKind.u64.wrap (Int.tdiv (IntKind.u64.wrap (aa - 1)) 65536))] ?_;(with_reducible refine (r03_Log2.calls k (IntKind.u64.wrap (Int.tdiv (IntKind.u64.wrap (aa - 1)) 65536)) ae _ A7.out).mono ?_);rintro e w' ⟨rfl,⟨nd,rfl⟩⟩;refine ⟨_,rfl, ?_⟩))
 go_ret
 exact ⟨ye,yhb⟩
def r12_Spent.l0 : Nat→List Int→Int→Int→Option (Int)
 | 0,_,_,_=>none
 | k+1,x0,x3,x4=>if x4 < 5 then ((r10_Width.f k x4).bind fun ae=>(if 0≤x4 then (if x4 < (x0.length : Int) then ((r06_Cost.f k ae (rd x0 x4)).bind fun af=>(r12_Spent.l0 k x0 (wrap64 (x3+af)) (wrap64 (x4+1)))) else (none)) else (none))) else (some x3)
def r12_Spent.f (k : Nat) (l0 : List Int) : Option (Int):=r12_Spent.l0 k l0 0 0
theorem r12_Spent.mono_l : ∀ k,(∀ y0 y1 y2,LeO (r12_Spent.l0 k y0 y1 y2) (r12_Spent.l0 (k+1) y0 y1 y2))
 | 0=>fun _ _ _ r h=>by simp [r12_Spent.l0] at h
 | k+1=>by
  have ih0:=r12_Spent.mono_l k
  ·
   intro y0 y1 y2
   unfold r12_Spent.l0
   have i0:=@r06_Cost.mono;have i1:=@r10_Width.mono
   exact yLm
theorem r12_Spent.mono : ∀ a0 k,LeO (r12_Spent.f k a0) (r12_Spent.f (k+1) a0):=by
 intro a0 k
 have ih0:=r12_Spent.mono_l k
 unfold r12_Spent.f
 have i0:=@r06_Cost.mono;have i1:=@r10_Width.mono
 exact yLm
def r12_Spent.T5 : Bool × List (List Nat × List Nat):=(true, [([], []),([], []),([1], [1]),([], []),([], []),([3,4], [3,4]),([5], [5]),([2,6,2], [2,6]),([0,7], [0,7]),([8,7,0,1,2,3,4,5,6,7,8], [0,8])])
def r12_Spent.B5 : List Nat := [0,0,2,0,0,24,56,126,255,511]
theorem r12_Spent.tab5 : rtab .any (opsOf Try.f99 5)=r12_Spent.T5:=by kernel_rfl
theorem r12_Spent.bits5 : waitsOk r12_Spent.T5.2 r12_Spent.B5=true:=by kernel_rfl
theorem r12_Spent.calls (k : Nat) (A0 : Option Addr) (c0 : Nat) (l0 : List Int) (r : Int) (w : World) (hr0 : Kd.C (Kd.int .i64) w A0 l0.length l0) (hc0 : l0.length≤c0) (h : r12_Spent.f k l0=some r) :
  Calls Try.prog 99 #[.slice A0 l0.length c0] w fun e w' => e=.returned (.int .i64 r)∧Below w.heap.size w w' := by
 have HR0:=zm hr0;have HC0:=zm hc0;clear hr0 hc0;have HB:=zm (zY w.heap.size w);have H:=h
 unfold r12_Spent.f at H
 clear h
 have H' := zm H
 clear H
 go_enter Try.func99,Try.ntmps99
 go_wp2
 go_loopg [3,4] k (fun kq v3 v4 w' => ∃ (ag : Int) (aa : Int),v3=.int .i64 ag∧v4=.int .i64 aa∧Aside0 (r12_Spent.l0 kq l0 ag aa=some r)∧Aside0 (kq≤k)∧Aside0 (Below w.heap.size w w'))
 case atStart=>exact ⟨(0),(0),yq,yq,H',⟨zX _⟩,⟨yhb⟩⟩
 case round =>
  clear H'
  obtain ⟨ag,aa,rfl,rfl,HA,HK1,HB⟩:=hrel
  obtain ⟨k1,rfl⟩:=ysu gk (fun h=>by subst h;exact absurd HA.out (by simp [r12_Spent.l0]))
  have H:=HA.out;clear HA
  simp only [r12_Spent.l0] at H
  replace H:=yId H
  obtain ⟨ai,H⟩ | ⟨ai,H⟩:=H
  ·
   obtain ⟨ae,A3,H⟩:=ybi H
   obtain ⟨c4,H⟩:=yif H
   have ak : decide (0≤aa)=true:=decide_eq_true c4
   clear c4
   obtain ⟨c5,H⟩:=yif H
   have al : decide (aa < (l0.length : Int))=true:=decide_eq_true c5
   clear c5
   obtain ⟨af,A6,H⟩:=ybi H
   have H' := zm H
   clear H
   try go_wp2
   replace HB:=zm (zf HB.out)
   obtain ⟨⟨ah,aj,ac⟩,am,ao⟩:=yat (zb7 HR0.out aa)
   have hw705_0:=ac
   cases aj
   replace ac:=yhx HB ac
   refine start_ (n:=10) (S:=fun w' => w'.cell? (ah.add (aa).toNat)=some (.int .i64 (rd l0 aa))) (ds := []) #[false,false,false,false,false,false,false,false,false,false] (by kernel_rfl) rfl rfl ((yhx HB hw705_0 :)) (fun hHeld => ?_);refine with_tabW r12_Spent.tab5 r12_Spent.bits5 (fun HT_ HW_ => ?_)
   generalize wr.drew=w7 at HB ac hHeld ⊢
   refine yp 0 9 HT_ ?_
   refine yp 1 10 HT_ ?_
   refine yp 3 12 HT_ ?_
   refine yp 4 13 HT_ ?_
   refine yp 5 14 HT_ ?_
   refine yl 6 15 HT_ HW_ hHeld ?_
   refine yw 2 11 HT_ (fun K hK => ?_)
   refine ygs Try.func46 #[.int .i64 aa] ?_
   with_reducible refine (r10_Width.calls k1 aa ae _ A3.out).mono ?_
   rintro e w' ⟨rfl,⟨nd,rfl⟩⟩
   refine ⟨_,rfl, ?_⟩
   refine hK.out _ _ ((yhx HB hw705_0 :)) (fun hHeld => ?_)
   clear hK K
   refine ym (some 11) ?_
   refine yw 7 16 HT_ (fun K hK => ?_)
   refine ygs Try.func101 #[.int .i64 ae, .int .i64 (rd l0 aa)] ?_
   with_reducible refine (r06_Cost.calls k1 ae (rd l0 aa) af _ A6.out).mono ?_
   rintro e w8 ⟨rfl,hb⟩
   refine ⟨_,rfl, ?_⟩
   replace HB:=ybs hb
   (try clear hb)
   refine hK.out _ _ ((yhx HB hw705_0 :)) (fun hHeld => ?_)
   clear hK K
   refine ym (some 16) ?_
   refine yp 8 17 HT_ ?_
   refine yp 9 3 HT_ ?_
   refine done_ (done_of HT_.out (by kernel_rfl)) ?_
   try go_wp2
   go_roundg k1
   case measure=>exact yom1 HK1
   case rel=>exact ⟨(wrap64 (ag+af)),(wrap64 (aa+1)),yq,yq,H',⟨yom1 HK1⟩,⟨yhb⟩⟩
  obtain rfl:=zO H
  go_wp2
  go_ret
  exact ⟨ye,yhb⟩
def r12_May.j0 : Nat→List Int→Int→Int→Bool→Option (Bool)
 | 0,_,_,_,_=>none
 | k+1,x1,x2,x3,x32=>if x32=true then (some false) else ((r12_More.f x1 x2).bind fun ai=>((r12_Spent.f k ai).bind fun ap=>(some (decide (ap≤x3)))))
def r12_May.f (k : Nat) (l0 : List Int) (l1 : List Int) (a2 : Int) (a3 : Int) : Option (Bool):=if 0≤a2 then (if a2 < (l0.length : Int) then (if (rd l0 a2) < 1 then (r12_May.j0 k l1 a2 a3 true) else (if a2 < (l1.length : Int) then (if (rd l1 a2) ≥ 12 then (r12_May.j0 k l1 a2 a3 true) else ((r10_Width.f k a2).bind fun aj=>(if aj=1 then (r12_May.j0 k l1 a2 a3 (decide ((rd l1 a2) > 0))) else (r12_May.j0 k l1 a2 a3 false)))) else (none))) else (none)) else (none)
theorem r12_May.mono_l : ∀ k,(∀ y0 y1 y2 y3,LeO (r12_May.j0 k y0 y1 y2 y3) (r12_May.j0 (k+1) y0 y1 y2 y3))
 | 0=>fun _ _ _ _ r h=>by simp [r12_May.j0] at h
 | k+1=>by
  have ih0:=r12_May.mono_l k
  ·
   intro y0 y1 y2 y3
   unfold r12_May.j0
   have i0:=@r10_Width.mono;have i1:=@r12_Spent.mono
   exact yLm
theorem r12_May.mono : ∀ a0 a1 a2 a3 k,LeO (r12_May.f k a0 a1 a2 a3) (r12_May.f (k+1) a0 a1 a2 a3):=by
 intro a0 a1 a2 a3 k
 have ih0:=r12_May.mono_l k
 unfold r12_May.f
 have i0:=@r10_Width.mono;have i1:=@r12_Spent.mono
 exact yLm
theorem r12_May.calls (k : Nat) (A0 : Option Addr) (c0 : Nat) (l0 : List Int) (A1 : Option Addr) (c1 : Nat) (l1 : List Int) (a2 : Int) (a3 : Int) (r : Bool) (w : World) (hr0 : Kd.C (Kd.int .i64) w A0 l0.length l0) (hc0 : l0.length≤c0) (hr1 : Kd.C (Kd.int .i64) w A1 l1.length l1) (hc1 : l1.length≤c1) (h : r12_May.f k l0 l1 a2 a3=some r) :
  Calls Try.prog 95 #[.slice A0 l0.length c0, .slice A1 l1.length c1, .int .i64 a2, .int .i64 a3] w fun e w' => e=.returned (.bool r)∧Below w.heap.size w w' := by
 have HR0:=zm hr0;have HC0:=zm hc0;clear hr0 hc0;have HR1:=zm hr1;have HC1:=zm hc1;clear hr1 hc1;have HB:=zm (zY w.heap.size w);have H:=h
 unfold r12_May.f at H
 clear h;have HC5:=zm H;clear H
 go_enter Try.func95,Try.ntmps95
 go_upto_region 1 with (fail)
 go_cut [32] (fun v32 wc => ∃ (kq : Nat) (ag : Bool),v32=.bool ag∧Aside0 (r12_May.j0 kq l1 a2 a3 ag=some r)∧Aside0 (kq≤k)∧Aside0 (Below w.heap.size w wc))
 case first =>
  have H:=HC5.out;clear HC5
  obtain ⟨c6,H⟩:=yif H
  have av : decide (0≤a2)=true:=decide_eq_true c6
  clear c6
  (first|rw [av]|(simp only [i64_w,i32_w];rw [av])|skip)
  obtain ⟨c7,H⟩:=yif H
  have aK : decide (a2 < (l0.length : Int))=true:=decide_eq_true c7
  clear c7
  replace H:=yId H
  obtain ⟨aE,H⟩ | ⟨aE,H⟩:=H
  ·
   have H' := zm H
   clear H
   obtain ⟨⟨ak,af,aa⟩,aq,au⟩:=yat (zb7 HR0.out a2)
   cases af
   replace aa:=yhx HB aa
   go_wp2
   go_meet
   case rel=>exact ⟨_,(true),yq,H',⟨yo⟩,⟨yhb⟩⟩
  obtain ⟨c9,H⟩:=yif H
  have aM : decide (a2 < (l1.length : Int))=true:=decide_eq_true c9
  clear c9
  replace H:=yIl H
  obtain ⟨aw,H⟩ | ⟨aw,H⟩:=H
  ·
   have H' := zm H
   clear H
   obtain ⟨⟨ak,af,aa⟩,aq,au⟩:=yat (zb7 HR0.out a2)
   cases af
   replace aa:=yhx HB aa
   obtain ⟨⟨al,am,ac⟩,ax,ay⟩:=yat (zb7 HR1.out a2)
   cases am
   replace ac:=yhx HB ac
   go_wp2
   go_meet
   case rel=>exact ⟨_,(true),yq,H',⟨yo⟩,⟨yhb⟩⟩
  obtain ⟨aj,A11,H⟩:=ybi H
  by_cases c12 : aj=1
  ·
   rw [za4 c12] at H
   obtain ⟨az,aA⟩:=yE c12
   clear c12
   have H' := zm H
   clear H
   obtain ⟨⟨ak,af,aa⟩,aq,au⟩:=yat (zb7 HR0.out a2)
   cases af
   replace aa:=yhx HB aa
   obtain ⟨⟨al,am,ac⟩,ax,ay⟩:=yat (zb7 HR1.out a2)
   cases am
   replace ac:=yhx HB ac
   go_wp2_with (first|(go_at_call 46;(with_reducible refine (r10_Width.calls k a2 aj _ A11.out).mono ?_);rintro e w' ⟨rfl,⟨nd,rfl⟩⟩;obtain ⟨⟨aC,aG,ah⟩,aN,aQ⟩:=yat (zb7 HR1.out a2);obtain rfl : al=aC:=(by injection aG);replace ah:=yhx HB ah))
   go_meet
   case rel=>exact ⟨_,(decide ((rd l1 a2) > 0)),yq,H',⟨yo⟩,⟨yhb⟩⟩
  rw [za5 c12] at H
  obtain ⟨az,aA⟩:=yF c12
  have H' := zm H
  clear H
  obtain ⟨⟨ak,af,aa⟩,aq,au⟩:=yat (zb7 HR0.out a2)
  cases af
  replace aa:=yhx HB aa
  obtain ⟨⟨al,am,ac⟩,ax,ay⟩:=yat (zb7 HR1.out a2)
  cases am
  replace ac:=yhx HB ac
  go_wp2_with (first|(go_at_call 46;(with_reducible refine (r10_Width.calls k a2 aj _ A11.out).mono ?_);rintro e w' ⟨rfl,⟨nd,rfl⟩⟩))
  go_meet
  case rel=>exact ⟨_,(false),yq,H',⟨yo⟩,⟨yhb⟩⟩
 case rest =>
  clear HC5
  try clear c1
  obtain ⟨kq,ag,rfl,HA,HJ4,HB⟩:=hcut
  obtain ⟨kj4,rfl⟩:=ysu kq (fun h=>by subst h;exact absurd HA.out (by simp [r12_May.j0]))
  have H:=HA.out;clear HA
  simp only [r12_May.j0] at H
  by_cases c13 : ag=true
  ·
   subst c13
   rw [za4 rfl] at H
   obtain rfl:=zO H
   go_wp2
   go_ret
   exact ⟨ye,yhb⟩
  replace c13:=za3.mpr c13
  subst c13
  rw [ynf] at H
  obtain ⟨ai,A14,H⟩:=ybi H
  obtain ⟨ap,A15,H⟩:=ybi H
  obtain rfl:=zO H
  go_wp2_with (first|((with_reducible refine zK (f:=96) rfl ?_);refine ygl 35 Try.func96 #[.slice A1 l1.length c1, .int .i64 a2] ?_;(with_reducible refine (r12_More.calls _ _ l1 a2 ai _ ?ao HC1.out A14.out).mono ?_);(case ao=>exact ycb HR1);rintro e w16 ⟨aT,rfl,ho0,hb⟩;refine ⟨_,rfl, ?_⟩;have ae:=zm (za0 ho0 (zE yhb));replace HB:=ybs hb;(try clear hb);(try clear ho0);obtain ⟨aH,aI,aJ⟩:=zT ae.out;subst aJ)|((with_reducible refine zK (f:=99) rfl ?_);refine ygl 36 Try.func99 #[.slice aH ai.length aI] ?_;(with_reducible refine (r12_Spent.calls kj4 _ _ ai ap _ ?ao ?aD A15.out).mono ?_);(case ao=>exact yce (zQ ae.out).2.2);(case aD=>exact (zQ ae.out).2.1);rintro e w18 ⟨rfl,hb⟩;refine ⟨_,rfl, ?_⟩;replace ae:=yRb ae hb;replace HB:=ybs hb;(try clear hb)))
  go_ret
  exact ⟨ye,yhb⟩
mutual
def r12_Channel.l0 : Nat→List Int→Int→List Int→Option (List Int)
 | 0,_,_,_=>none
 | k+1,x0,x1,x5=>r12_Channel.l1 k x0 x1 x5 (-1) 0 0
def r12_Channel.l1 : Nat→List Int→Int→List Int→Int→Int→Int→Option (List Int)
 | 0,_,_,_,_,_,_=>none
 | k+1,x0,x1,x5,x6,x7,x8=>if x8 < 5 then (if 0≤x8 then (if x8 < (x0.length : Int) then (if x8 < (x5.length : Int) then ((r10_Width.f k x8).bind fun aj=>(if aj=0 then (none) else ((r12_May.f k x0 x5 x8 x1).bind fun aC=>(if aC=true then (if x6 < 0 then (r12_Channel.l1 k x0 x1 x5 x8 (wrap64 ((wrap64 (8 * (rd x0 x8))) - (wrap64 (Int.tdiv (wrap64 (16 * (rd x5 x8))) aj)))) (wrap64 (x8+1))) else (if (wrap64 ((wrap64 (8 * (rd x0 x8))) - (wrap64 (Int.tdiv (wrap64 (16 * (rd x5 x8))) aj)))) > x7 then (r12_Channel.l1 k x0 x1 x5 x8 (wrap64 ((wrap64 (8 * (rd x0 x8))) - (wrap64 (Int.tdiv (wrap64 (16 * (rd x5 x8))) aj)))) (wrap64 (x8+1))) else (r12_Channel.l1 k x0 x1 x5 x6 x7 (wrap64 (x8+1))))) else (r12_Channel.l1 k x0 x1 x5 x6 x7 (wrap64 (x8+1))))))) else (none)) else (none)) else (none)) else (if x6 < 0 then (some x5) else ((r12_More.f x5 x6).bind fun au=>(r12_Channel.l0 k x0 x1 au)))
end
def r12_Channel.f (k : Nat) (l0 : List Int) (a1 : Int) : Option (List Int):=r12_Channel.l0 k l0 a1 (([0,0,0,0,0] : List Int))
theorem r12_Channel.mono_l : ∀ k,(∀ y0 y1 y2,LeO (r12_Channel.l0 k y0 y1 y2) (r12_Channel.l0 (k+1) y0 y1 y2))∧(∀ y0 y1 y2 y3 y4 y5,LeO (r12_Channel.l1 k y0 y1 y2 y3 y4 y5) (r12_Channel.l1 (k+1) y0 y1 y2 y3 y4 y5))
 | 0=>⟨fun _ _ _ r h=>by simp [r12_Channel.l0] at h,fun _ _ _ _ _ _ r h=>by simp [r12_Channel.l1] at h⟩
 | k+1=>by
  obtain ⟨ih0,ih1⟩:=r12_Channel.mono_l k
  have i0:=@r10_Width.mono;have i1:=@r12_May.mono
  refine ⟨?_, ?_⟩
  ·
   intro y0 y1 y2
   unfold r12_Channel.l0
   exact yLm
  intro y0 y1 y2 y3 y4 y5
  unfold r12_Channel.l1
  exact yLm
theorem r12_Channel.mono : ∀ a0 a1 k,LeO (r12_Channel.f k a0 a1) (r12_Channel.f (k+1) a0 a1):=by
 intro a0 a1 k
 obtain ⟨ih0,ih1⟩:=r12_Channel.mono_l k
 have i0:=@r10_Width.mono;have i1:=@r12_May.mono
 unfold r12_Channel.f
 exact yLm
theorem r12_Channel.calls (k : Nat) (A0 : Option Addr) (c0 : Nat) (l0 : List Int) (a1 : Int) (r : List Int) (w : World) (hr0 : Kd.C (Kd.int .i64) w A0 l0.length l0) (hc0 : l0.length≤c0) (h : r12_Channel.f k l0 a1=some r) :
  Calls Try.prog 83 #[.slice A0 l0.length c0, .int .i64 a1] w fun e w' => ∃ v0_ : Value,e=.returned (v0_)∧Kd.R (Kd.int .i64) 3 w' w.heap.size (fun _=>True) v0_ r∧Below w.heap.size w w' := by
 have HR0:=zm hr0;have HC0:=zm hc0;clear hr0 hc0;have HB:=zm (zY w.heap.size w);have H:=h
 unfold r12_Channel.f at H
 clear h
 obtain ⟨aI,aw⟩ : ∃ y_ : List Int,y_=(([0,0,0,0,0] : List Int)):=⟨_,rfl⟩
 replace H : (r12_Channel.l0 k l0 a1 aI)=some r:=yrw aw H
 have ak:=zm aw;clear aw
 have H' := zm H
 clear H
 go_enter Try.func83,Try.ntmps83
 go_wp2_with (first|((with_reducible refine zL (N:=10) rfl ?_);refine Kd.R_lit (Kd.int .i64) _ 3 ?hg (N:=10) ?hd (xs:=([0,0,0,0,0] : List Int)) (inner := [.int .i64 0, .int .i64 0, .int .i64 0, .int .i64 0, .int .i64 0]) (ok:=fun _=>True) (okp:=fun _=>True) ?hr ?hp (fun _ hk=>hk) trivial (zY _ _) (zX _) (by simp) ?_;(case hd=>rfl);(case hg=>rfl);(case hr=>first|(go_simp;done)|(go_simp;rfl));(case hp=>exact (Reps.one (show Kd.M (Kd.int .i64) _ _ _ 0 [.int .i64 0] from rfl) (Reps.one (show Kd.M (Kd.int .i64) _ _ _ 0 [.int .i64 0] from rfl) (Reps.one (show Kd.M (Kd.int .i64) _ _ _ 0 [.int .i64 0] from rfl) (Reps.one (show Kd.M (Kd.int .i64) _ _ _ 0 [.int .i64 0] from rfl) (Reps.one (show Kd.M (Kd.int .i64) _ _ _ 0 [.int .i64 0] from rfl) (Reps.none _ _)))))));intro aJ w3 ho4 hb hg_ hnew_;clear hg_ hnew_;(first|rw [← ak.out] at ho4|(simp only [Int.reduceToNat] at ho4;rw [← ak.out] at ho4));have ax:=zm (za0 ho4 (zE yhb));replace HB:=ybs hb;clear hb ho4))
 repeat (go_quiet (first|((with_reducible refine zL (N:=10) rfl ?_);refine Kd.R_lit (Kd.int .i64) _ 3 ?hg (N:=10) ?hd (xs:=([0,0,0,0,0] : List Int)) (inner := [.int .i64 0, .int .i64 0, .int .i64 0, .int .i64 0, .int .i64 0]) (ok:=fun _=>True) (okp:=fun _=>True) ?hr ?hp (fun _ hk=>hk) trivial (zY _ _) (zX _) (by simp) ?_;(case hd=>rfl);(case hg=>rfl);(case hr=>first|(go_simp;done)|(go_simp;rfl));(case hp=>exact (Reps.one (show Kd.M (Kd.int .i64) _ _ _ 0 [.int .i64 0] from rfl) (Reps.one (show Kd.M (Kd.int .i64) _ _ _ 0 [.int .i64 0] from rfl) (Reps.one (show Kd.M (Kd.int .i64) _ _ _ 0 [.int .i64 0] from rfl) (Reps.one (show Kd.M (Kd.int .i64) _ _ _ 0 [.int .i64 0] from rfl) (Reps.one (show Kd.M (Kd.int .i64) _ _ _ 0 [.int .i64 0] from rfl) (Reps.none _ _)))))));intro aJ w3 ho4 hb hg_ hnew_;clear hg_ hnew_;(first|rw [← ak.out] at ho4|(simp only [Int.reduceToNat] at ho4;rw [← ak.out] at ho4));have ax:=zm (za0 ho4 (zE yhb));replace HB:=ybs hb;clear hb ho4));try go_wp2_with (first|((with_reducible refine zL (N:=10) rfl ?_);refine Kd.R_lit (Kd.int .i64) _ 3 ?hg (N:=10) ?hd (xs:=([0,0,0,0,0] : List Int)) (inner := [.int .i64 0, .int .i64 0, .int .i64 0, .int .i64 0, .int .i64 0]) (ok:=fun _=>True) (okp:=fun _=>True) ?hr ?hp (fun _ hk=>hk) trivial (zY _ _) (zX _) (by simp) ?_;(case hd=>rfl);(case hg=>rfl);(case hr=>first|(go_simp;done)|(go_simp;rfl));(case hp=>exact (Reps.one (show Kd.M (Kd.int .i64) _ _ _ 0 [.int .i64 0] from rfl) (Reps.one (show Kd.M (Kd.int .i64) _ _ _ 0 [.int .i64 0] from rfl) (Reps.one (show Kd.M (Kd.int .i64) _ _ _ 0 [.int .i64 0] from rfl) (Reps.one (show Kd.M (Kd.int .i64) _ _ _ 0 [.int .i64 0] from rfl) (Reps.one (show Kd.M (Kd.int .i64) _ _ _ 0 [.int .i64 0] from rfl) (Reps.none _ _)))))));intro aJ w3 ho4 hb hg_ hnew_;clear hg_ hnew_;(first|rw [← ak.out] at ho4|(simp only [Int.reduceToNat] at ho4;rw [← ak.out] at ho4));have ax:=zm (za0 ho4 (zE yhb));replace HB:=ybs hb;clear hb ho4)))
 go_loopg [5] k (fun kq v5 w' => ∃ (ai : List Int),Aside0 (r12_Channel.l0 kq l0 a1 ai=some r)∧Aside0 (kq≤k)∧Aside0 (Kd.R (Kd.int .i64) 3 w' w.heap.size (fun _=>True) v5 ai)∧Aside0 (Below w.heap.size w w'))
 case atStart=>exact ⟨(aI),H',⟨zX _⟩,⟨yr ax⟩,⟨yhb⟩⟩
 case round =>
  clear H'
  obtain ⟨ai,HA,HK1,aa,HB⟩:=hrel
  obtain ⟨k1,rfl⟩:=ysu gk (fun h=>by subst h;exact absurd HA.out (by simp [r12_Channel.l0]))
  have H:=HA.out;clear HA
  simp only [r12_Channel.l0] at H
  have H' := zm H
  clear H
  go_wp2
  repeat (go_quiet (fail);try go_wp2)
  go_loopg [6,7,8] k1 (fun kq v6 v7 v8 w' => ∃ (al : Int) (av : Int) (ac : Int),v6=.int .i64 al∧v7=.int .i64 av∧v8=.int .i64 ac∧Aside0 (r12_Channel.l1 kq l0 a1 ai al av ac=some r)∧Aside0 (kq≤k1)∧Aside0 (Kd.R (Kd.int .i64) 3 w' w.heap.size (fun _=>True) u5 ai)∧Aside0 (Below w.heap.size w w'))
  case atStart=>exact ⟨((-1)),(0),(0),yq,yq,yq,H',⟨zX _⟩,⟨yr aa⟩,⟨yhb⟩⟩
  case round =>
   clear H'
   obtain ⟨al,av,ac,rfl,rfl,rfl,HA,HK2,aa,HB⟩:=hrel
   obtain ⟨k2,rfl⟩:=ysu gk (fun h=>by subst h;exact absurd HA.out (by simp [r12_Channel.l1]))
   have H:=HA.out;clear HA
   simp only [r12_Channel.l1] at H
   replace H:=yId H
   obtain ⟨aT,H⟩ | ⟨aT,H⟩:=H
   ·
    obtain ⟨c6,H⟩:=yif H
    have a8 : decide (0≤ac)=true:=decide_eq_true c6
    clear c6
    obtain ⟨c7,H⟩:=yif H
    have a9 : decide (ac < (l0.length : Int))=true:=decide_eq_true c7
    clear c7
    obtain ⟨c8,H⟩:=yif H
    have ba : decide (ac < (ai.length : Int))=true:=decide_eq_true c8
    clear c8
    obtain ⟨aj,A9,H⟩:=ybi H
    obtain ⟨c10,H⟩:=yie H
    obtain ⟨aZ,a7⟩:=yF c10
    obtain ⟨aC,A11,H⟩:=ybi H
    by_cases c12 : aC=true
    ·
     subst c12
     rw [za4 rfl] at H
     replace H:=yId H
     obtain ⟨aK,H⟩ | ⟨aK,H⟩:=H
     ·
      have H' := zm H
      clear H
      obtain ⟨⟨ay,ap,ah⟩,aD,aE⟩:=yat (zb7 HR0.out ac)
      cases ap
      replace ah:=yhx HB ah
      obtain ⟨bb,bc,aU⟩:=zT aa.out
      subst aU
      obtain ⟨⟨az,aq,am⟩,aG,aH⟩:=yat (zb7 (zQ aa.out).2.2 ac)
      cases aq
      go_wp2_with (first|(go_at_call 46;(with_reducible refine (r10_Width.calls k2 ac aj _ A9.out).mono ?_);rintro e w' ⟨rfl,⟨nd,rfl⟩⟩;(try exact yww))|(go_at_call 95;(with_reducible refine (r12_May.calls k2 _ _ l0 _ _ ai ac a1 true _ ?ae HC0.out ?af ?ag A11.out).mono ?_);(case ae=>exact ycb HR0);(case af=>exact yce (zQ aa.out).2.2);(case ag=>exact (zQ aa.out).2.1);rintro e w15 ⟨rfl,hb⟩;replace aa:=yRb aa hb;replace HB:=ybs hb;(try clear hb)))
      repeat (go_quiet (first|(go_at_call 46;(with_reducible refine (r10_Width.calls k2 ac aj _ A9.out).mono ?_);rintro e w' ⟨rfl,⟨nd,rfl⟩⟩;(try exact yww))|(go_at_call 95;(with_reducible refine (r12_May.calls k2 _ _ l0 _ _ ai ac a1 true _ ?ae HC0.out ?af ?ag A11.out).mono ?_);(case ae=>exact ycb HR0);(case af=>exact yce (zQ aa.out).2.2);(case ag=>exact (zQ aa.out).2.1);rintro e w15 ⟨rfl,hb⟩;replace aa:=yRb aa hb;replace HB:=ybs hb;(try clear hb)));try go_wp2_with (first|(go_at_call 46;(with_reducible refine (r10_Width.calls k2 ac aj _ A9.out).mono ?_);rintro e w' ⟨rfl,⟨nd,rfl⟩⟩;(try exact yww))|(go_at_call 95;(with_reducible refine (r12_May.calls k2 _ _ l0 _ _ ai ac a1 true _ ?ae HC0.out ?af ?ag A11.out).mono ?_);(case ae=>exact ycb HR0);(case af=>exact yce (zQ aa.out).2.2);(case ag=>exact (zQ aa.out).2.1);rintro e w15 ⟨rfl,hb⟩;replace aa:=yRb aa hb;replace HB:=ybs hb;(try clear hb))))
      go_roundg k2
      case measure=>exact yom2 HK1 HK2
      case rel=>exact ⟨(ac),(wrap64 ((wrap64 (8 * (rd l0 ac))) - (wrap64 (Int.tdiv (wrap64 (16 * (rd ai ac))) aj)))),(wrap64 (ac+1)),yq,yq,yq,H',⟨yom2 HK1 HK2⟩,⟨yr aa⟩,⟨yhb⟩⟩
     by_cases c16 : (wrap64 ((wrap64 (8 * (rd l0 ac))) - (wrap64 (Int.tdiv (wrap64 (16 * (rd ai ac))) aj)))) > av
     ·
      rw [za4 c16] at H
      have aM:=yDs c16
      clear c16
      have H' := zm H
      clear H
      obtain ⟨⟨ay,ap,ah⟩,aD,aE⟩:=yat (zb7 HR0.out ac)
      cases ap
      replace ah:=yhx HB ah
      obtain ⟨bd,bf,aV⟩:=zT aa.out
      subst aV
      obtain ⟨⟨az,aq,am⟩,aG,aH⟩:=yat (zb7 (zQ aa.out).2.2 ac)
      cases aq
      go_wp2_with (first|(go_at_call 46;(with_reducible refine (r10_Width.calls k2 ac aj _ A9.out).mono ?_);rintro e w' ⟨rfl,⟨nd,rfl⟩⟩;(try exact yww))|(go_at_call 95;(with_reducible refine (r12_May.calls k2 _ _ l0 _ _ ai ac a1 true _ ?ae HC0.out ?af ?ag A11.out).mono ?_);(case ae=>exact ycb HR0);(case af=>exact yce (zQ aa.out).2.2);(case ag=>exact (zQ aa.out).2.1);rintro e w18 ⟨rfl,hb⟩;replace aa:=yRb aa hb;replace HB:=ybs hb;(try clear hb)))
      repeat (go_quiet (first|(go_at_call 46;(with_reducible refine (r10_Width.calls k2 ac aj _ A9.out).mono ?_);rintro e w' ⟨rfl,⟨nd,rfl⟩⟩;(try exact yww))|(go_at_call 95;(with_reducible refine (r12_May.calls k2 _ _ l0 _ _ ai ac a1 true _ ?ae HC0.out ?af ?ag A11.out).mono ?_);(case ae=>exact ycb HR0);(case af=>exact yce (zQ aa.out).2.2);(case ag=>exact (zQ aa.out).2.1);rintro e w18 ⟨rfl,hb⟩;replace aa:=yRb aa hb;replace HB:=ybs hb;(try clear hb)));try go_wp2_with (first|(go_at_call 46;(with_reducible refine (r10_Width.calls k2 ac aj _ A9.out).mono ?_);rintro e w' ⟨rfl,⟨nd,rfl⟩⟩;(try exact yww))|(go_at_call 95;(with_reducible refine (r12_May.calls k2 _ _ l0 _ _ ai ac a1 true _ ?ae HC0.out ?af ?ag A11.out).mono ?_);(case ae=>exact ycb HR0);(case af=>exact yce (zQ aa.out).2.2);(case ag=>exact (zQ aa.out).2.1);rintro e w18 ⟨rfl,hb⟩;replace aa:=yRb aa hb;replace HB:=ybs hb;(try clear hb))))
      go_roundg k2
      case measure=>exact yom2 HK1 HK2
      case rel=>exact ⟨(ac),(wrap64 ((wrap64 (8 * (rd l0 ac))) - (wrap64 (Int.tdiv (wrap64 (16 * (rd ai ac))) aj)))),(wrap64 (ac+1)),yq,yq,yq,H',⟨yom2 HK1 HK2⟩,⟨yr aa⟩,⟨yhb⟩⟩
     rw [za5 c16] at H
     have aM:=yGs c16
     clear c16
     have H' := zm H
     clear H
     obtain ⟨⟨ay,ap,ah⟩,aD,aE⟩:=yat (zb7 HR0.out ac)
     cases ap
     replace ah:=yhx HB ah
     obtain ⟨bg,bh,aW⟩:=zT aa.out
     subst aW
     obtain ⟨⟨az,aq,am⟩,aG,aH⟩:=yat (zb7 (zQ aa.out).2.2 ac)
     cases aq
     go_wp2_with (first|(go_at_call 46;(with_reducible refine (r10_Width.calls k2 ac aj _ A9.out).mono ?_);rintro e w' ⟨rfl,⟨nd,rfl⟩⟩;(try exact yww))|(go_at_call 95;(with_reducible refine (r12_May.calls k2 _ _ l0 _ _ ai ac a1 true _ ?ae HC0.out ?af ?ag A11.out).mono ?_);(case ae=>exact ycb HR0);(case af=>exact yce (zQ aa.out).2.2);(case ag=>exact (zQ aa.out).2.1);rintro e w20 ⟨rfl,hb⟩;replace aa:=yRb aa hb;replace HB:=ybs hb;(try clear hb)))
     repeat (go_quiet (first|(go_at_call 46;(with_reducible refine (r10_Width.calls k2 ac aj _ A9.out).mono ?_);rintro e w' ⟨rfl,⟨nd,rfl⟩⟩;(try exact yww))|(go_at_call 95;(with_reducible refine (r12_May.calls k2 _ _ l0 _ _ ai ac a1 true _ ?ae HC0.out ?af ?ag A11.out).mono ?_);(case ae=>exact ycb HR0);(case af=>exact yce (zQ aa.out).2.2);(case ag=>exact (zQ aa.out).2.1);rintro e w20 ⟨rfl,hb⟩;replace aa:=yRb aa hb;replace HB:=ybs hb;(try clear hb)));try go_wp2_with (first|(go_at_call 46;(with_reducible refine (r10_Width.calls k2 ac aj _ A9.out).mono ?_);rintro e w' ⟨rfl,⟨nd,rfl⟩⟩;(try exact yww))|(go_at_call 95;(with_reducible refine (r12_May.calls k2 _ _ l0 _ _ ai ac a1 true _ ?ae HC0.out ?af ?ag A11.out).mono ?_);(case ae=>exact ycb HR0);(case af=>exact yce (zQ aa.out).2.2);(case ag=>exact (zQ aa.out).2.1);rintro e w20 ⟨rfl,hb⟩;replace aa:=yRb aa hb;replace HB:=ybs hb;(try clear hb))))
     go_roundg k2
     case measure=>exact yom2 HK1 HK2
     case rel=>exact ⟨(al),(av),(wrap64 (ac+1)),yq,yq,yq,H',⟨yom2 HK1 HK2⟩,⟨yr aa⟩,⟨yhb⟩⟩
    replace c12:=za3.mpr c12
    subst c12
    rw [ynf] at H
    have H' := zm H
    clear H
    obtain ⟨⟨ay,ap,ah⟩,aD,aE⟩:=yat (zb7 HR0.out ac)
    cases ap
    replace ah:=yhx HB ah
    obtain ⟨bi,bj,aX⟩:=zT aa.out
    subst aX
    obtain ⟨⟨az,aq,am⟩,aG,aH⟩:=yat (zb7 (zQ aa.out).2.2 ac)
    cases aq
    go_wp2_with (first|(go_at_call 46;(with_reducible refine (r10_Width.calls k2 ac aj _ A9.out).mono ?_);rintro e w' ⟨rfl,⟨nd,rfl⟩⟩;(try exact yww))|(go_at_call 95;(with_reducible refine (r12_May.calls k2 _ _ l0 _ _ ai ac a1 false _ ?ae HC0.out ?af ?ag A11.out).mono ?_);(case ae=>exact ycb HR0);(case af=>exact yce (zQ aa.out).2.2);(case ag=>exact (zQ aa.out).2.1);rintro e w22 ⟨rfl,hb⟩;replace aa:=yRb aa hb;replace HB:=ybs hb;(try clear hb)))
    repeat (go_quiet (first|(go_at_call 46;(with_reducible refine (r10_Width.calls k2 ac aj _ A9.out).mono ?_);rintro e w' ⟨rfl,⟨nd,rfl⟩⟩;(try exact yww))|(go_at_call 95;(with_reducible refine (r12_May.calls k2 _ _ l0 _ _ ai ac a1 false _ ?ae HC0.out ?af ?ag A11.out).mono ?_);(case ae=>exact ycb HR0);(case af=>exact yce (zQ aa.out).2.2);(case ag=>exact (zQ aa.out).2.1);rintro e w22 ⟨rfl,hb⟩;replace aa:=yRb aa hb;replace HB:=ybs hb;(try clear hb)));try go_wp2_with (first|(go_at_call 46;(with_reducible refine (r10_Width.calls k2 ac aj _ A9.out).mono ?_);rintro e w' ⟨rfl,⟨nd,rfl⟩⟩;(try exact yww))|(go_at_call 95;(with_reducible refine (r12_May.calls k2 _ _ l0 _ _ ai ac a1 false _ ?ae HC0.out ?af ?ag A11.out).mono ?_);(case ae=>exact ycb HR0);(case af=>exact yce (zQ aa.out).2.2);(case ag=>exact (zQ aa.out).2.1);rintro e w22 ⟨rfl,hb⟩;replace aa:=yRb aa hb;replace HB:=ybs hb;(try clear hb))))
    go_roundg k2
    case measure=>exact yom2 HK1 HK2
    case rel=>exact ⟨(al),(av),(wrap64 (ac+1)),yq,yq,yq,H',⟨yom2 HK1 HK2⟩,⟨yr aa⟩,⟨yhb⟩⟩
   by_cases c23 : al < 0
   ·
    rw [za4 c23] at H
    have aN:=yD c23
    clear c23
    obtain rfl:=zO H
    go_wp2
    repeat (go_quiet (fail);try go_wp2)
    go_ret
    exact ⟨_,ye,yr aa,yhb⟩
   rw [za5 c23] at H
   have aN:=yG c23
   clear c23
   obtain ⟨au,A24,H⟩:=ybi H
   have H' := zm H
   clear H
   obtain ⟨bk,bl,aY⟩:=zT aa.out
   subst aY
   go_wp2_with (first|(go_at_call 96;(with_reducible refine (r12_More.calls _ _ ai al au _ ?ae ?ao A24.out).mono ?_);(case ae=>exact yce (zQ aa.out).2.2);(case ao=>exact (zQ aa.out).2.1);rintro e w26 ⟨aQ,rfl,ho0,hb⟩;have aA:=zm (za0 (Kd.R_new' ho0 (Kd.R_lt (yr aa))) (zE yhb));replace aa:=zm (za6 (yr aa) (zW ho0) hb);replace HB:=ybs hb;(try clear hb);(try clear ho0)))
   repeat (go_quiet (first|(go_at_call 96;(with_reducible refine (r12_More.calls _ _ ai al au _ ?ae ?ao A24.out).mono ?_);(case ae=>exact yce (zQ aa.out).2.2);(case ao=>exact (zQ aa.out).2.1);rintro e w26 ⟨aQ,rfl,ho0,hb⟩;have aA:=zm (za0 (Kd.R_new' ho0 (Kd.R_lt (yr aa))) (zE yhb));replace aa:=zm (za6 (yr aa) (zW ho0) hb);replace HB:=ybs hb;(try clear hb);(try clear ho0)));try go_wp2_with (first|(go_at_call 96;(with_reducible refine (r12_More.calls _ _ ai al au _ ?ae ?ao A24.out).mono ?_);(case ae=>exact yce (zQ aa.out).2.2);(case ao=>exact (zQ aa.out).2.1);rintro e w26 ⟨aQ,rfl,ho0,hb⟩;have aA:=zm (za0 (Kd.R_new' ho0 (Kd.R_lt (yr aa))) (zE yhb));replace aa:=zm (za6 (yr aa) (zW ho0) hb);replace HB:=ybs hb;(try clear hb);(try clear ho0))))
   go_roundg k2
   case measure=>exact yom2 HK1 HK2
   case rel=>exact ⟨(au),H',⟨yom2 HK1 HK2⟩,⟨yR0 aA⟩,⟨yhb⟩⟩
def r12_Room.f (a0 : Int) (a1 : Int) : Option (Int):=(r12_Right.f a0 a1).bind fun aa=>(if aa=true then (if a1=1 then (some (wrap64 ((wrap64 (8 * a0)) - 86))) else (some (wrap64 (Int.tdiv (wrap64 ((wrap64 (8 * a0)) - 131)) 2)))) else (some 0))
theorem r12_Room.calls (a0 : Int) (a1 : Int) (r : Int) (w : World) (h : r12_Room.f a0 a1=some r) :
  Calls Try.prog 84 #[.int .i64 a0, .int .i64 a1] w fun e w' => e=.returned (.int .i64 r)∧Drawn0 w w' := by
 have H:=h
 unfold r12_Room.f at H
 clear h
 obtain ⟨aa,A3,H⟩:=ybi H
 by_cases c4 : aa=true
 ·
  subst c4
  rw [za4 rfl] at H
  by_cases c5 : a1=1
  ·
   rw [za4 c5] at H
   obtain ⟨ac,ae⟩:=yE c5
   clear c5
   obtain rfl:=zO H
   go_enter Try.func84,Try.ntmps84
   go_wp2_with (first|((with_reducible refine zK (f:=23) rfl ?_);refine ygl 7 Try.func23 #[.int .i64 a0, .int .i64 a1] ?_;(with_reducible refine (r12_Right.calls a0 a1 true _ A3.out).mono ?_);rintro e w' ⟨rfl,⟨nd,rfl⟩⟩;refine ⟨_,rfl, ?_⟩))
   go_ret
   exact ⟨yq,yd⟩
  rw [za5 c5] at H
  obtain ⟨ac,ae⟩:=yF c5
  obtain rfl:=zO H
  go_enter Try.func84,Try.ntmps84
  go_wp2_with (first|((with_reducible refine zK (f:=23) rfl ?_);refine ygl 7 Try.func23 #[.int .i64 a0, .int .i64 a1] ?_;(with_reducible refine (r12_Right.calls a0 a1 true _ A3.out).mono ?_);rintro e w' ⟨rfl,⟨nd,rfl⟩⟩;refine ⟨_,rfl, ?_⟩))
  go_ret
  exact ⟨yq,yd⟩
 replace c4:=za3.mpr c4
 subst c4
 rw [ynf] at H
 obtain rfl:=zO H
 go_enter Try.func84,Try.ntmps84
 go_wp2_with (first|((with_reducible refine zK (f:=23) rfl ?_);refine ygl 7 Try.func23 #[.int .i64 a0, .int .i64 a1] ?_;(with_reducible refine (r12_Right.calls a0 a1 false _ A3.out).mono ?_);rintro e w' ⟨rfl,⟨nd,rfl⟩⟩;refine ⟨_,rfl, ?_⟩))
 go_ret
 exact ⟨yq,yd⟩
def r12_Pulses.l0 : Nat→Int→Int→List (List Int)→List (List Int)→Int→Option ((List (List Int)))
 | 0,_,_,_,_,_=>none
 | k+1,x0,x1,x2,x7,x8=>if x8 < (x2.length : Int) then (if 0≤x8 then ((r12_Room.f x0 x1).bind fun ak=>((r12_Channel.f k (rd_L1 x2 x8) ak).bind fun af=>(if x7.length < 5864062014805 then (r12_Pulses.l0 k x0 x1 x2 (x7 ++ [af]) (wrap64 (x8+1))) else (none)))) else (none)) else (some x7)
def r12_Pulses.f (k : Nat) (a0 : Int) (a1 : Int) (l2 : List (List Int)) : Option ((List (List Int))):=r12_Pulses.l0 k a0 a1 l2 ([] : List (List Int)) 0
theorem r12_Pulses.mono_l : ∀ k,(∀ y0 y1 y2 y3 y4,LeO (r12_Pulses.l0 k y0 y1 y2 y3 y4) (r12_Pulses.l0 (k+1) y0 y1 y2 y3 y4))
 | 0=>fun _ _ _ _ _ r h=>by simp [r12_Pulses.l0] at h
 | k+1=>by
  have ih0:=r12_Pulses.mono_l k
  ·
   intro y0 y1 y2 y3 y4
   unfold r12_Pulses.l0
   have i0:=@r12_Channel.mono
   exact yLm
theorem r12_Pulses.mono : ∀ a0 a1 a2 k,LeO (r12_Pulses.f k a0 a1 a2) (r12_Pulses.f (k+1) a0 a1 a2):=by
 intro a0 a1 a2 k
 have ih0:=r12_Pulses.mono_l k
 unfold r12_Pulses.f
 have i0:=@r12_Channel.mono
 exact yLm
def r12_Pulses.T5 : Bool × List (List Nat × List Nat):=(true, [([], []),([], []),([], []),([1,2], [1,2]),([3], [3]),([], []),([], []),([5,6], [5,6]),([4,7,7], [4,7]),([8], [8]),([0,9,8], [0,9]),([10,10,0,1,2,3,4,5,6,7,8,9,10], [0,10])])
def r12_Pulses.B5 : List Nat := [0,0,0,6,14,0,0,96,254,510,1023,2047]
theorem r12_Pulses.tab5 : rtab .any (opsOf Try.f45 5)=r12_Pulses.T5:=by kernel_rfl
theorem r12_Pulses.bits5 : waitsOk r12_Pulses.T5.2 r12_Pulses.B5=true:=by kernel_rfl
theorem r12_Pulses.calls (k : Nat) (a0 : Int) (a1 : Int) (A2 : Option Addr) (c2 : Nat) (l2 : List (List Int)) (r : List (List Int)) (w : World) (hr2 : Kd.C (Kd.slice 3 (Kd.int .i64)) w A2 l2.length l2) (hc2 : l2.length≤c2) (h : r12_Pulses.f k a0 a1 l2=some r) :
  Calls Try.prog 45 #[.int .i64 a0, .int .i64 a1, .slice A2 l2.length c2] w fun e w' => ∃ v0_ : Value,e=.returned (v0_)∧Kd.S (Kd.slice 3 (Kd.int .i64)) 49 w' w.heap.size (fun _=>True) v0_ r∧Below w.heap.size w w' := by
 have HR2:=zm hr2;have HC2:=zm hc2;clear hr2 hc2;have HB:=zm (zY w.heap.size w);have H:=h
 unfold r12_Pulses.f at H
 clear h
 have H' := zm H
 clear H
 go_enter Try.func45,Try.ntmps45
 go_wp2
 go_loopg [7,8] k (fun kq v7 v8 w' => ∃ (al : List (List Int)) (ac : Int),v8=.int .i64 ac∧Aside0 (r12_Pulses.l0 kq a0 a1 l2 al ac=some r)∧Aside0 (kq≤k)∧Aside0 (Kd.S (Kd.slice 3 (Kd.int .i64)) 49 w' w.heap.size (fun _=>True) v7 al)∧Aside0 (Below w.heap.size w w'))
 case atStart=>exact ⟨(([] : List (List Int))),(0),yq,H',⟨zX _⟩,⟨yn⟩,⟨yhb⟩⟩
 case round =>
  clear H'
  try clear c2
  obtain ⟨al,ac,rfl,HA,HK1,ae,HB⟩:=hrel
  obtain ⟨k1,rfl⟩:=ysu gk (fun h=>by subst h;exact absurd HA.out (by simp [r12_Pulses.l0]))
  have H:=HA.out;clear HA
  simp only [r12_Pulses.l0] at H
  replace H:=yId H
  obtain ⟨aE,H⟩ | ⟨aE,H⟩:=H
  ·
   obtain ⟨c5,H⟩:=yif H
   have aH : decide (0≤ac)=true:=decide_eq_true c5
   clear c5
   obtain ⟨ak,A6,H⟩:=ybi H
   obtain ⟨af,A7,H⟩:=ybi H
   obtain ⟨c8,H⟩:=yif H
   have LMc8:=zm c8;clear c8
   obtain ⟨au,am⟩ : ∃ y_ : List (List Int),y_=(al ++ [af]):=⟨_,rfl⟩
   replace H : (r12_Pulses.l0 k1 a0 a1 l2 au (wrap64 (ac+1)))=some r:=yrw am H
   have av:=zm am;clear am
   have H' := zm H
   clear H
   try go_wp2
   replace ae:=zm (Kd.S_drew ae.out)
   replace HB:=zm (zf HB.out)
   obtain ⟨⟨aw,ao,ap,aG,aa,ag,ah⟩,aI,aJ⟩:=yat (at_L1 HR2.out ac)
   have hw726_0:=aa
   cases aG
   replace aa:=yhx HB aa
   have ai:=zm ah;have aq:=zm ag;clear ah ag
   refine start_ (n:=12) (S:=fun w' => w'.cell? (aw.add (ac).toNat)=some (.slice ao (rd_L1 l2 ac).length ap)) (ds := []) #[false,false,false,false,false,false,false,false,false,false,false,false] (by kernel_rfl) rfl rfl ((yhx HB hw726_0 :)) (fun hHeld => ?_);refine with_tabW r12_Pulses.tab5 r12_Pulses.bits5 (fun HT_ HW_ => ?_)
   generalize wr.drew=w9 at ae HB ai aa hHeld ⊢
   refine yp 0 15 HT_ ?_
   refine yp 1 16 HT_ ?_
   refine yp 2 17 HT_ ?_
   refine yp 3 18 HT_ ?_
   refine yp 5 20 HT_ ?_
   refine yp 6 21 HT_ ?_
   refine yl 4 19 HT_ HW_ hHeld ?_
   refine yw 7 22 HT_ (fun K hK => ?_)
   refine ygs Try.func84 #[.int .i64 a0, .int .i64 a1] ?_
   with_reducible refine (r12_Room.calls a0 a1 ak _ A6.out).mono ?_
   rintro e w' ⟨rfl,⟨nd,rfl⟩⟩
   refine ⟨_,rfl, ?_⟩
   refine hK.out _ _ ((yhx HB hw726_0 :)) (fun hHeld => ?_)
   clear hK K
   refine ym (some 22) ?_
   refine yw 8 23 HT_ (fun K hK => ?_)
   refine ygs Try.func83 #[.slice ao (rd_L1 l2 ac).length ap, .int .i64 ak] ?_
   with_reducible refine (r12_Channel.calls k1 _ _ (rd_L1 l2 ac) ak af _ ?ax ?ay A7.out).mono ?_
   (case ax=>exact ycb ai)
   (case ay=>exact aq.out)
   rintro e w10 ⟨aK,rfl,ho0,hb⟩
   refine ⟨_,rfl, ?_⟩
   replace ae:=zm (za8 (yr ae) (zW ho0) hb)
   have aj:=zm (za0 ho0 (zE yhb))
   replace HB:=ybs hb
   (try clear hb)
   (try clear ho0)
   obtain ⟨az,aA,aC⟩:=zT aj.out
   (first|subst aC|(injection aC with f1_ f2_ f3_;have f4_:=f1_.symm;have f5_:=f3_.symm;clear f1_ f2_ f3_;subst f4_;subst f5_))
   refine hK.out _ _ ((yhx HB hw726_0 :)) (fun hHeld => ?_)
   clear hK K
   refine ym (some 23) ?_
   refine yw 9 24 HT_ (fun K hK => ?_)
   refine value_ (w1 := ?_) (v := ?_) (by rfl) rfl ?_ ?_
   rotate_left 2
   ·
    go_simp
    constructor
    ·
     rfl
    rfl
   refine hK.out _ _ ((World.cell?_alloc_lt _ _ _ (zb _ _ ((yhx HB hw726_0 :)))).trans ((yhx HB hw726_0 :))) (fun hHeld => ?_)
   clear hK K
   refine ym (some 24) ?_
   refine yw 10 25 HT_ (fun K hK => ?_)
   refine Kd.S_append_step (Kd.slice 3 (Kd.int .i64)) (w0:=w) w.heap.size (by rfl) (.tmp 15) (.tmp 24) 22 49 (.slice none 0 0) 24 rfl Try.underlying22 info49 rfl (by decide) (by omega) u7 al af [.slice az af.length aA] (fun _=>True) (fun k_=>some k_=(.slice az af.length aA : Value).ownBlock) rfl rfl ?aP (fun k_ hk_=>((zG (ok' := fun k_=>((fun _=>True)) k_∧some k_≠(u7 : Value).ownBlock) (zZ (aj.out) (Kd.S_typed ae.out) (by decide)) (fun k_ hk=>⟨trivial,hk.2⟩))).1 k_ hk_.symm) ?aF ?aO ?aB ?aS ?aL ?_
   (case aP=>exact Kd.M_row (zG (Kd.R_tight rfl (zG (ok' := fun k_=>((fun _=>True)) k_∧some k_≠(u7 : Value).ownBlock) (zZ (aj.out) (Kd.S_typed ae.out) (by decide)) (fun k_ hk=>⟨trivial,hk.2⟩))) (fun _ h_=>h_)))
   (case aB=>exact yhb)
   (case aF=>exact (fun _ _=>trivial))
   (case aO=>exact (yS0 ae))
   (case aS=>exact (zE yhb))
   (case aL=>have:=LMc8.out;omega)
   intro aM w11 ho hb hg hat
   rw [← av.out] at ho
   replace HB:=zm (hb)
   have aD:=zm (ho);clear ae aj ho hb hg hat
   refine hK.out _ _ ((yhx HB hw726_0 :)) (fun hHeld => ?_)
   clear hK K
   refine ym (some 25) ?_
   refine yp 11 7 HT_ ?_
   refine done_ (done_of HT_.out (by kernel_rfl)) ?_
   try go_wp2
   go_roundg k1
   case measure=>exact yom1 HK1
   case rel=>exact ⟨(au),(wrap64 (ac+1)),yq,H',⟨yom1 HK1⟩,⟨yr aD⟩,⟨yhb⟩⟩
  obtain rfl:=zO H
  go_wp2
  go_ret
  exact ⟨_,ye,yr ae,yhb⟩
mutual
def r13_Right.j0 : Nat→Int→Int→Bool→Bool→List (List Int)→List (List (List Int))→Option (Bool)
 | 0,_,_,_,_,_,_=>none
 | k+1,x0,x1,x27,aG,ax,ai=>if x27=true then (some false) else ((r12_Pulses.f k x0 x1 ax).bind fun aE=>(r13_Right.l0 k x1 aE 0 aG ax ai))
def r13_Right.l0 : Nat→Int→List (List Int)→Int→Bool→List (List Int)→List (List (List Int))→Option (Bool)
 | 0,_,_,_,_,_,_=>none
 | k+1,x1,x7,x8,aG,ax,ai=>if x8 < x1 then (if 0≤x8 then (if x8 < (ai.length : Int) then (if ((rd_L2 ai x8).length : Int)=5 then (r13_Right.l1 k x1 x7 x8 0 aG ax ai) else (some false)) else (none)) else (none)) else (some true)
def r13_Right.l1 : Nat→Int→List (List Int)→Int→Int→Bool→List (List Int)→List (List (List Int))→Option (Bool)
 | 0,_,_,_,_,_,_,_=>none
 | k+1,x1,x7,x8,x9,aG,ax,ai=>if x9 < 5 then (if 0≤x8 then (if x8 < (ai.length : Int) then (if 0≤x9 then (if x9 < ((rd_L2 ai x8).length : Int) then ((r10_Width.f k x9).bind fun bo=>(if ((rd_L1 (rd_L2 ai x8) x9).length : Int)=bo then ((r06_Pulses.f k (rd_L1 (rd_L2 ai x8) x9)).bind fun bp=>(if x8 < (x7.length : Int) then (if x9 < ((rd_L1 x7 x8).length : Int) then (if bp=(rd (rd_L1 x7 x8) x9) then (r13_Right.l1 k x1 x7 x8 (wrap64 (x9+1)) aG ax ai) else (some false)) else (none)) else (none))) else (some false))) else (none)) else (none)) else (none)) else (none)) else (r13_Right.l0 k x1 x7 (wrap64 (x8+1)) aG ax ai)
end
def r13_Right.f (k : Nat) (a0 : Int) (a1 : Int) (aI : Bool) (ak : List (List Int)) (ae : List (List (List Int))) : Option (Bool):=(r12_Right.f a0 a1).bind fun bV=>(if bV=true then ((r12_Fair.f k a1 ak).bind fun bW=>(if bW=true then (r13_Right.j0 k a0 a1 ((ae.length : Int) != a1) aI ak ae) else (r13_Right.j0 k a0 a1 true aI ak ae))) else (r13_Right.j0 k a0 a1 true aI ak ae))
theorem r13_Right.mono_l : ∀ k,(∀ y0 y1 y2 y3 y4 y5,LeO (r13_Right.j0 k y0 y1 y2 y3 y4 y5) (r13_Right.j0 (k+1) y0 y1 y2 y3 y4 y5))∧(∀ y0 y1 y2 y3 y4 y5,LeO (r13_Right.l0 k y0 y1 y2 y3 y4 y5) (r13_Right.l0 (k+1) y0 y1 y2 y3 y4 y5))∧(∀ y0 y1 y2 y3 y4 y5 y6,LeO (r13_Right.l1 k y0 y1 y2 y3 y4 y5 y6) (r13_Right.l1 (k+1) y0 y1 y2 y3 y4 y5 y6))
 | 0=>⟨fun _ _ _ _ _ _ r h=>by simp [r13_Right.j0] at h,fun _ _ _ _ _ _ r h=>by simp [r13_Right.l0] at h,fun _ _ _ _ _ _ _ r h=>by simp [r13_Right.l1] at h⟩
 | k+1=>by
  obtain ⟨ih0,ih1,ih2⟩:=r13_Right.mono_l k
  have i0:=@r06_Pulses.mono;have i1:=@r10_Width.mono;have i2:=@r12_Fair.mono;have i3:=@r12_Pulses.mono
  refine ⟨?_, ?_, ?_⟩
  ·
   intro y0 y1 y2 y3 y4 y5
   unfold r13_Right.j0
   exact yLm
  ·
   intro y0 y1 y2 y3 y4 y5
   unfold r13_Right.l0
   exact yLm
  intro y0 y1 y2 y3 y4 y5 y6
  unfold r13_Right.l1
  exact yLm
theorem r13_Right.mono : ∀ a0 a1 a2 a3 a4 k,LeO (r13_Right.f k a0 a1 a2 a3 a4) (r13_Right.f (k+1) a0 a1 a2 a3 a4):=by
 intro a0 a1 a2 a3 a4 k
 obtain ⟨ih0,ih1,ih2⟩:=r13_Right.mono_l k
 have i0:=@r06_Pulses.mono;have i1:=@r10_Width.mono;have i2:=@r12_Fair.mono;have i3:=@r12_Pulses.mono
 unfold r13_Right.f
 exact yLm
def r13_Right.T12 : Bool × List (List Nat × List Nat):=(true, [([], []),([0], [0]),([], []),([1,2], [1,2]),([3], [3]),([], []),([4,5], [4,5]),([6], [6]),([7], [7]),([], []),([9], [9]),([8,10], [8,10]),([11,10], [11]),([12], [12]),([13,12], [12,13]),([12], [12]),([14,15,12], [12,14,15]),([16,12], [12,16]),([12], [12]),([17,18,12], [12,17,18]),([19,12], [12,19]),([20,12,12], [12,20]),([12], [12]),([12], [12]),([22,23,12], [12,22,23]),([24,12], [12,24]),([12], [12]),([25,26,12], [12,25,26]),([27,12], [12,27]),([21,28,12], [12,21,28]),([12,29], [12,29])])
def r13_Right.B12 : List Nat := [0,1,0,7,15,0,63,127,255,0,512,2047,4095,8191,16383,8191,65535,131071,8191,524287,1048575,2097151,8191,8191,12591103,29368319,8191,130031615,264249343,536870911,1073741823]
theorem r13_Right.tab12 : rtab .any (opsOf Try.f16 12)=r13_Right.T12:=by kernel_rfl
theorem r13_Right.bits12 : waitsOk r13_Right.T12.2 r13_Right.B12=true:=by kernel_rfl
theorem r13_Right.calls (k : Nat) (a0 : Int) (a1 : Int) (aI : Bool) (ba : Option Addr) (bb : Nat) (ak : List (List Int)) (bq : Option Addr) (bc : Nat) (ae : List (List (List Int))) (r : Bool) (w : World) (hr2_1 : Kd.C (Kd.slice 3 (Kd.int .i64)) w ba ak.length ak) (hc2_1 : ak.length≤bb) (hr2_2 : Kd.C (Kd.slice 49 (Kd.slice 3 (Kd.int .i64))) w bq ae.length ae) (hc2_2 : ae.length≤bc) (h : r13_Right.f k a0 a1 aI ak ae=some r) :
  Calls Try.prog 16 #[.int .i64 a0, .int .i64 a1, .agg #[.bool aI, .slice ba ak.length bb, .slice bq ae.length bc]] w fun e w' => e=.returned (.bool r)∧Below w.heap.size w w' := by
 have hu33:=Try.underlying33;have br:=zm hr2_1;have bs:=zm hc2_1;clear hr2_1 hc2_1;have a9:=zm hr2_2;have cF:=zm hc2_2;clear hr2_2 hc2_2;have HB:=zm (zY w.heap.size w);have H:=h
 unfold r13_Right.f at H
 clear h;have HC4:=zm H;clear H
 go_enter Try.func16,Try.ntmps16
 go_upto_region 1 with (first|((with_reducible refine zL (N:=5) rfl ?_);(try (refine gate_guard (by rfl) ?_;dsimp only));refine ybx 5 #[.bool aI, .slice ba ak.length bb, .slice bq ae.length bc] 33 ?_;intro aC hg w5 hbox hb;have ag:=zm (hbox);have cG:=ygw hg;have cH:=ygw hg;replace HB:=ybs hb;clear hb hbox hg))
 (try simp only [Act.put,za9,zb0,zb1])
 go_cut [27] (fun v27 wc => ∃ (kq : Nat) (bm : Bool),v27=.bool bm∧Aside0 (r13_Right.j0 kq a0 a1 bm aI ak ae=some r)∧Aside0 (kq≤k)∧Aside0 (wc.heap[aC]? = some (.cells #[.bool aI,(.slice ba ak.length bb),(.slice bq ae.length bc)] 33 (0,0)))∧Aside0 (Below w.heap.size w wc))
 case first =>
  have H:=HC4.out;clear HC4
  obtain ⟨bV,A6,H⟩:=ybi H
  by_cases c7 : bV=true
  ·
   subst c7
   rw [za4 rfl] at H
   obtain ⟨bW,A8,H⟩:=ybi H
   by_cases c9 : bW=true
   ·
    subst c9
    rw [za4 rfl] at H
    have H' := zm H
    clear H
    go_wp2_with (first|((with_reducible refine zK (f:=23) rfl ?_);refine ygl 12 Try.func23 #[.int .i64 a0, .int .i64 a1] ?_;(with_reducible refine (r12_Right.calls a0 a1 true _ A6.out).mono ?_);rintro e w' ⟨rfl,⟨nd,rfl⟩⟩;refine ⟨_,rfl, ?_⟩;obtain ⟨_,_,_,_,_,_⟩:=yc3 ag)|(go_at_call 17;(with_reducible refine (r12_Fair.calls k a1 _ _ ak true _ ?aK bs.out A8.out).mono ?_);(case aK=>exact ycb br);rintro e w' ⟨rfl,⟨nd,rfl⟩⟩))
    go_meet
    case rel=>exact ⟨_,(((ae.length : Int) != a1)),yq,H',⟨yo⟩,⟨yk ag⟩,⟨yhb⟩⟩
   replace c9:=za3.mpr c9
   subst c9
   rw [ynf] at H
   have H' := zm H
   clear H
   go_wp2_with (first|((with_reducible refine zK (f:=23) rfl ?_);refine ygl 12 Try.func23 #[.int .i64 a0, .int .i64 a1] ?_;(with_reducible refine (r12_Right.calls a0 a1 true _ A6.out).mono ?_);rintro e w' ⟨rfl,⟨nd,rfl⟩⟩;refine ⟨_,rfl, ?_⟩;obtain ⟨_,_,_,_,_,_⟩:=yc3 ag)|(go_at_call 17;(with_reducible refine (r12_Fair.calls k a1 _ _ ak false _ ?aK bs.out A8.out).mono ?_);(case aK=>exact ycb br);rintro e w' ⟨rfl,⟨nd,rfl⟩⟩))
   go_meet
   case rel=>exact ⟨_,(true),yq,H',⟨yo⟩,⟨yk ag⟩,⟨yhb⟩⟩
  replace c7:=za3.mpr c7
  subst c7
  rw [ynf] at H
  have H' := zm H
  clear H
  go_wp2_with (first|((with_reducible refine zK (f:=23) rfl ?_);refine ygl 12 Try.func23 #[.int .i64 a0, .int .i64 a1] ?_;(with_reducible refine (r12_Right.calls a0 a1 false _ A6.out).mono ?_);rintro e w' ⟨rfl,⟨nd,rfl⟩⟩;refine ⟨_,rfl, ?_⟩))
  go_meet
  case rel=>exact ⟨_,(true),yq,H',⟨yo⟩,⟨yk ag⟩,⟨yhb⟩⟩
 case rest =>
  clear HC4
  obtain ⟨kq,bm,rfl,HA,HJ3,ag,HB⟩:=hcut
  obtain ⟨kj3,rfl⟩:=ysu kq (fun h=>by subst h;exact absurd HA.out (by simp [r13_Right.j0]))
  have H:=HA.out;clear HA
  simp only [r13_Right.j0] at H
  by_cases c12 : bm=true
  ·
   subst c12
   rw [za4 rfl] at H
   obtain rfl:=zO H
   go_wp2
   go_ret
   exact ⟨ye,yhb⟩
  replace c12:=za3.mpr c12
  subst c12
  rw [ynf] at H
  obtain ⟨aE,A13,H⟩:=ybi H
  have H' := zm H
  clear H
  obtain ⟨bB,bC,bD,bE,bF,bG⟩:=yc3 ag
  go_wp2_with (first|((with_reducible refine zK (f:=45) rfl ?_);refine ygl 32 Try.func45 #[.int .i64 a0, .int .i64 a1, .slice ba ak.length bb] ?_;(with_reducible refine (r12_Pulses.calls kj3 a0 a1 _ _ ak aE _ ?aK bs.out A13.out).mono ?_);(case aK=>exact ycb br);rintro e w15 ⟨cg,rfl,ho0,hb⟩;refine ⟨_,rfl, ?_⟩;have ch:=zm (Kd.S_lower ho0 (zE yhb));replace ag:=ybb ag hb;replace HB:=ybs hb;(try clear hb);(try clear ho0)))
  go_loopg [8] kj3 (fun kq v8 w' => ∃ (aa : Int),v8=.int .i64 aa∧Aside0 (r13_Right.l0 kq a1 aE aa aI ak ae=some r)∧Aside0 (kq≤kj3)∧Aside0 (Kd.S (Kd.slice 3 (Kd.int .i64)) 49 w' w.heap.size (fun _=>True) cg aE)∧Aside0 (w'.heap[aC]? = some (.cells #[.bool aI,(.slice ba ak.length bb),(.slice bq ae.length bc)] 33 (0,0)))∧Aside0 (Below w.heap.size w w'))
  case atStart=>exact ⟨(0),yq,H',⟨zX _⟩,⟨yr ch⟩,⟨yk ag⟩,⟨yhb⟩⟩
  case round =>
   clear H'
   try clear bB
   try clear bC
   try clear bD
   try clear bE
   try clear bF
   try clear bG
   obtain ⟨aa,rfl,HA,HK2,aw,ag,HB⟩:=hrel
   obtain ⟨k2,rfl⟩:=ysu gk (fun h=>by subst h;exact absurd HA.out (by simp [r13_Right.l0]))
   have H:=HA.out;clear HA
   simp only [r13_Right.l0] at H
   replace H:=yId H
   obtain ⟨bS,H⟩ | ⟨bS,H⟩:=H
   ·
    obtain ⟨c17,H⟩:=yif H
    have ci : decide (0≤aa)=true:=decide_eq_true c17
    clear c17
    obtain ⟨c18,H⟩:=yif H
    have cj : decide (aa < (ae.length : Int))=true:=decide_eq_true c18
    clear c18
    by_cases c19 : ((rd_L2 ae aa).length : Int)=5
    ·
     rw [za4 c19] at H
     obtain ⟨bT,bU⟩:=yE c19
     clear c19
     have H' := zm H
     clear H
     obtain ⟨bH,bI,bJ,bK,bL,bM⟩:=yc3 ag
     obtain ⟨⟨am,bX,bY,bZ,aH,aM,aN⟩,ck,cl⟩:=yat (at_L2 a9.out aa)
     cases bZ
     replace aH:=yhx HB aH
     have bN:=zm aN;have bO:=zm aM;clear aN aM
     go_wp2
     go_loopg [9] k2 (fun kq v9 w' => ∃ (af : Int),v9=.int .i64 af∧Aside0 (r13_Right.l1 kq a1 aE aa af aI ak ae=some r)∧Aside0 (kq≤k2)∧Aside0 (Kd.S (Kd.slice 3 (Kd.int .i64)) 49 w' w.heap.size (fun _=>True) cg aE)∧Aside0 (w'.heap[aC]? = some (.cells #[.bool aI,(.slice ba ak.length bb),(.slice (some am) ae.length bc)] 33 (0,0)))∧Aside0 (Below w.heap.size w w'))
     case atStart=>exact ⟨(0),yq,H',⟨zX _⟩,⟨yr aw⟩,⟨yk ag⟩,⟨yhb⟩⟩
     case round =>
      clear H'
      try clear bS
      try clear ci
      try clear cj
      try clear bT
      try clear bU
      try clear bH
      try clear bI
      try clear bJ
      try clear bK
      try clear bL
      try clear bM
      try clear aH
      try clear ck
      try clear cl
      obtain ⟨af,rfl,HA,HK3,aw,ag,HB⟩:=hrel
      obtain ⟨k3,rfl⟩:=ysu gk (fun h=>by subst h;exact absurd HA.out (by simp [r13_Right.l1]))
      have H:=HA.out;clear HA
      simp only [r13_Right.l1] at H
      replace H:=yId H
      obtain ⟨cm,H⟩ | ⟨cm,H⟩:=H
      ·
       obtain ⟨c22,H⟩:=yif H
       have cI : decide (0≤aa)=true:=decide_eq_true c22
       clear c22
       obtain ⟨c23,H⟩:=yif H
       have cJ : decide (aa < (ae.length : Int))=true:=decide_eq_true c23
       clear c23
       obtain ⟨c24,H⟩:=yif H
       have cK : decide (0≤af)=true:=decide_eq_true c24
       clear c24
       obtain ⟨c25,H⟩:=yif H
       have cL : decide (af < ((rd_L2 ae aa).length : Int))=true:=decide_eq_true c25
       clear c25
       obtain ⟨bo,A26,H⟩:=ybi H
       by_cases c27 : ((rd_L1 (rd_L2 ae aa) af).length : Int)=bo
       ·
        rw [za4 c27] at H
        obtain ⟨cn,co⟩:=yE c27
        clear c27
        obtain ⟨bp,A28,H⟩:=ybi H
        obtain ⟨c29,H⟩:=yif H
        have cM : decide (aa < (aE.length : Int))=true:=decide_eq_true c29
        clear c29
        obtain ⟨c30,H⟩:=yif H
        have cN : decide (af < ((rd_L1 aE aa).length : Int))=true:=decide_eq_true c30
        clear c30
        by_cases c31 : bp=(rd (rd_L1 aE aa) af)
        ·
         rw [za4 c31] at H
         obtain ⟨cp,cq⟩:=yE c31
         clear c31
         have H' := zm H
         clear H
         try go_wp2
         replace aw:=zm (Kd.S_drew aw.out)
         replace ag:=zm (zj ag.out)
         replace HB:=zm (zf HB.out)
         obtain ⟨⟨bj,bu,aJ,bv,ac,ao,ap⟩,cr,ct⟩:=yat (at_L2 a9.out aa)
         have hw741_0:=ac
         obtain rfl : am=bj:=(by injection bv)
         replace ac:=yhx HB ac
         have aq:=zm ap;have bn:=zm ao;clear ap ao
         obtain ⟨⟨aD,ay,az,bw,ah,au,av⟩,cu,cv⟩:=yat (at_L1 aq.out af)
         have hw742_0:=ah
         cases bw
         replace ah:=yhx HB ah
         have aA:=zm av;have a8:=zm au;clear av au
         obtain ⟨⟨bx,b4,b5,b6,aj,aQ,aT⟩,cz,cA⟩:=yat (at_L2 a9.out aa)
         have hw744_0:=aj
         obtain rfl : am=bx:=(by injection b6)
         replace aj:=yhx HB aj
         have aU:=zm aT;have bP:=zm aQ;clear aT aQ
         have ea_:=zO (ac.symm.trans aj)
         injection ea_ with ea_ en_ ec_
         subst ea_;subst ec_;clear en_
         obtain ⟨⟨cw,b7,b8,b9,al,aV,aW⟩,cB,cC⟩:=yat (at_L1 aU.out af)
         have hw745_0:=al
         cases b9
         replace al:=yhx HB al
         have bd:=zm aW;have bQ:=zm aV;clear aW aV
         have bf : 0≤(aa : Int):=yt
         have bg : aa < (aE.length : Int):=yt
         obtain ⟨cO,cP,cx⟩:=zV aw.out
         (first|subst cx|(injection cx with f1_ f2_ f3_;have f4_:=f1_.symm;have f5_:=f3_.symm;clear f1_ f2_ f3_;subst f4_;subst f5_))
         obtain ⟨bz,ca,bl,cb,aX,aY,aZ⟩:=at_L1 (zS aw.out).2.2 aa bf bg
         cases cb
         obtain ⟨ce747,hce747,hMe747,hcc747⟩:=Kd.S_get aw.out [] aa bf (by first|exact bg|exact yt|(have e_:=(zS aw.out).1;omega))
         obtain ⟨ve747_0,rfl,ge747_0⟩:=hMe747
         have hv747_0:=hcc747 0 _ rfl
         rw [Nat.add_zero,show ((Kd.slice 3 (Kd.int .i64))).sz=1 from rfl,Nat.mul_one] at hv747_0
         replace hv747_0:=zO (hv747_0.symm.trans aX)
         rw [hv747_0] at ge747_0
         have bh:=zm (show Kd.R (Kd.int .i64) 3 _ _ _ _ (rd_L1 aE aa) from ge747_0)
         clear hv747_0 ge747_0 hcc747 hce747;have a7:=zm aZ;have bR:=zm aY;clear aZ aY
         replace bf:=zP bf
         replace bg:=zP bg
         obtain ⟨bk,cf,bi,cD,cE⟩:=yai a7 af
         cases cf
         refine yst (fun w' => w'.cell? ⟨aC,0,none⟩=some (.bool aI)∧w'.cell? ⟨aC,1,none⟩=some (.slice ba ak.length bb)∧w'.cell? ⟨aC,2,none⟩=some (.slice (some am) ae.length bc)∧w'.cell? (am.add (aa).toNat)=some (.slice (some aD) (rd_L2 ae aa).length aJ)∧w'.cell? (aD.add (af).toNat)=some (.slice ay (rd_L1 (rd_L2 ae aa) af).length az)∧w'.cell? (am.add (aa).toNat)=some (.slice (some aD) (rd_L2 ae aa).length aJ)∧w'.cell? (aD.add (af).toNat)=some (.slice ay (rd_L1 (rd_L2 ae aa) af).length az)∧w'.cell? (bz.add (aa).toNat)=some (.slice (some bk) (rd_L1 aE aa).length bl)∧w'.cell? (bk.add (af).toNat)=some (.int .i64 (rd (rd_L1 aE aa) af))) [] 31 r13_Right.tab12 r13_Right.bits12 (fun hHeld HT_ HW_ => ?_)
         generalize wr.drew=w32 at aw ag HB bh aq aA aU bd a7 ac ah aj al aX bi hHeld ⊢
         refine yp 0 49 HT_ ?_
         refine yp 2 51 HT_ ?_
         refine yp 5 54 HT_ ?_
         refine yp 9 58 HT_ ?_
         refine yl 1 50 HT_ HW_ hHeld ?_
         refine yp 3 52 HT_ ?_
         refine yl 4 53 HT_ HW_ hHeld ?_
         refine yp 6 55 HT_ ?_
         refine yl 7 56 HT_ HW_ hHeld ?_
         refine yp 8 57 HT_ ?_
         refine yw 10 59 HT_ (fun K hK => ?_)
         refine ygs Try.func46 #[.int .i64 af] ?_
         with_reducible refine (r10_Width.calls k3 af bo _ A26.out).mono ?_
         rintro e w' ⟨rfl,⟨nd,rfl⟩⟩
         refine ⟨_,rfl, ?_⟩
         refine hK.out _ _ yH (fun hHeld => ?_)
         clear hK K
         refine ym (some 59) ?_
         refine yp 11 60 HT_ ?_
         refine yp 12 61 HT_ ?_
         refine yp 13 62 HT_ ?_
         refine yp 15 64 HT_ ?_
         refine yp 18 67 HT_ ?_
         refine yp 22 71 HT_ ?_
         refine yp 23 72 HT_ ?_
         refine yp 24 73 HT_ ?_
         refine yp 26 75 HT_ ?_
         refine yl 14 63 HT_ HW_ hHeld ?_
         refine yp 16 65 HT_ ?_
         refine yl 17 66 HT_ HW_ hHeld ?_
         refine yp 19 68 HT_ ?_
         refine yl 20 69 HT_ HW_ hHeld ?_
         refine yl 25 74 HT_ HW_ hHeld ?_
         refine yp 27 76 HT_ ?_
         refine yl 28 77 HT_ HW_ hHeld ?_
         refine yw 21 70 HT_ (fun K hK => ?_)
         refine ygs Try.func40 #[.slice ay (rd_L1 (rd_L2 ae aa) af).length az] ?_
         with_reducible refine (r06_Pulses.calls k3 _ _ (rd_L1 (rd_L2 ae aa) af) bp _ ?aK ?bA A28.out).mono ?_
         (case aK=>exact ycb aA)
         (case bA=>exact a8.out)
         rintro e w' ⟨rfl,⟨nd,rfl⟩⟩
         refine ⟨_,rfl, ?_⟩
         refine hK.out _ _ yH (fun hHeld => ?_)
         clear hK K
         refine ym (some 70) ?_
         refine yp 29 78 HT_ ?_
         refine yp 30 79 HT_ ?_
         refine done_ (done_of HT_.out (by kernel_rfl)) ?_
         try go_wp2
         go_roundg k3
         case measure=>exact yom3 HJ3 HK2 HK3
         case rel=>exact ⟨(wrap64 (af+1)),yq,H',⟨yom3 HJ3 HK2 HK3⟩,⟨yr aw⟩,⟨yk ag⟩,⟨yhb⟩⟩
        rw [za5 c31] at H
        obtain ⟨cp,cq⟩:=yF c31
        obtain rfl:=zO H
        try go_wp2
        replace aw:=zm (Kd.S_drew aw.out)
        replace ag:=zm (zj ag.out)
        replace HB:=zm (zf HB.out)
        obtain ⟨⟨bj,bu,aJ,bv,ac,ao,ap⟩,cr,ct⟩:=yat (at_L2 a9.out aa)
        have hw741_0:=ac
        obtain rfl : am=bj:=(by injection bv)
        replace ac:=yhx HB ac
        have aq:=zm ap;have bn:=zm ao;clear ap ao
        obtain ⟨⟨aD,ay,az,bw,ah,au,av⟩,cu,cv⟩:=yat (at_L1 aq.out af)
        have hw742_0:=ah
        cases bw
        replace ah:=yhx HB ah
        have aA:=zm av;have a8:=zm au;clear av au
        obtain ⟨⟨bx,b4,b5,b6,aj,aQ,aT⟩,cz,cA⟩:=yat (at_L2 a9.out aa)
        have hw744_0:=aj
        obtain rfl : am=bx:=(by injection b6)
        replace aj:=yhx HB aj
        have aU:=zm aT;have bP:=zm aQ;clear aT aQ
        have ea_:=zO (ac.symm.trans aj)
        injection ea_ with ea_ en_ ec_
        subst ea_;subst ec_;clear en_
        obtain ⟨⟨cw,b7,b8,b9,al,aV,aW⟩,cB,cC⟩:=yat (at_L1 aU.out af)
        have hw745_0:=al
        cases b9
        replace al:=yhx HB al
        have bd:=zm aW;have bQ:=zm aV;clear aW aV
        have bf : 0≤(aa : Int):=yt
        have bg : aa < (aE.length : Int):=yt
        obtain ⟨cQ,cR,cy⟩:=zV aw.out
        (first|subst cy|(injection cy with f1_ f2_ f3_;have f4_:=f1_.symm;have f5_:=f3_.symm;clear f1_ f2_ f3_;subst f4_;subst f5_))
        obtain ⟨bz,ca,bl,cb,aX,aY,aZ⟩:=at_L1 (zS aw.out).2.2 aa bf bg
        cases cb
        obtain ⟨ce747,hce747,hMe747,hcc747⟩:=Kd.S_get aw.out [] aa bf (by first|exact bg|exact yt|(have e_:=(zS aw.out).1;omega))
        obtain ⟨ve747_0,rfl,ge747_0⟩:=hMe747
        have hv747_0:=hcc747 0 _ rfl
        rw [Nat.add_zero,show ((Kd.slice 3 (Kd.int .i64))).sz=1 from rfl,Nat.mul_one] at hv747_0
        replace hv747_0:=zO (hv747_0.symm.trans aX)
        rw [hv747_0] at ge747_0
        have bh:=zm (show Kd.R (Kd.int .i64) 3 _ _ _ _ (rd_L1 aE aa) from ge747_0)
        clear hv747_0 ge747_0 hcc747 hce747;have a7:=zm aZ;have bR:=zm aY;clear aZ aY
        replace bf:=zP bf
        replace bg:=zP bg
        obtain ⟨bk,cf,bi,cD,cE⟩:=yai a7 af
        cases cf
        refine yst (fun w' => w'.cell? ⟨aC,0,none⟩=some (.bool aI)∧w'.cell? ⟨aC,1,none⟩=some (.slice ba ak.length bb)∧w'.cell? ⟨aC,2,none⟩=some (.slice (some am) ae.length bc)∧w'.cell? (am.add (aa).toNat)=some (.slice (some aD) (rd_L2 ae aa).length aJ)∧w'.cell? (aD.add (af).toNat)=some (.slice ay (rd_L1 (rd_L2 ae aa) af).length az)∧w'.cell? (am.add (aa).toNat)=some (.slice (some aD) (rd_L2 ae aa).length aJ)∧w'.cell? (aD.add (af).toNat)=some (.slice ay (rd_L1 (rd_L2 ae aa) af).length az)∧w'.cell? (bz.add (aa).toNat)=some (.slice (some bk) (rd_L1 aE aa).length bl)∧w'.cell? (bk.add (af).toNat)=some (.int .i64 (rd (rd_L1 aE aa) af))) [] 31 r13_Right.tab12 r13_Right.bits12 (fun hHeld HT_ HW_ => ?_)
        generalize wr.drew=w34 at aw ag HB bh aq aA aU bd a7 ac ah aj al aX bi hHeld ⊢
        refine yp 0 49 HT_ ?_
        refine yp 2 51 HT_ ?_
        refine yp 5 54 HT_ ?_
        refine yp 9 58 HT_ ?_
        refine yl 1 50 HT_ HW_ hHeld ?_
        refine yp 3 52 HT_ ?_
        refine yl 4 53 HT_ HW_ hHeld ?_
        refine yp 6 55 HT_ ?_
        refine yl 7 56 HT_ HW_ hHeld ?_
        refine yp 8 57 HT_ ?_
        refine yw 10 59 HT_ (fun K hK => ?_)
        refine ygs Try.func46 #[.int .i64 af] ?_
        with_reducible refine (r10_Width.calls k3 af bo _ A26.out).mono ?_
        rintro e w' ⟨rfl,⟨nd,rfl⟩⟩
        refine ⟨_,rfl, ?_⟩
        refine hK.out _ _ yH (fun hHeld => ?_)
        clear hK K
        refine ym (some 59) ?_
        refine yp 11 60 HT_ ?_
        refine yp 12 61 HT_ ?_
        refine yp 13 62 HT_ ?_
        refine yp 15 64 HT_ ?_
        refine yp 18 67 HT_ ?_
        refine yp 22 71 HT_ ?_
        refine yp 23 72 HT_ ?_
        refine yp 24 73 HT_ ?_
        refine yp 26 75 HT_ ?_
        refine yl 14 63 HT_ HW_ hHeld ?_
        refine yp 16 65 HT_ ?_
        refine yl 17 66 HT_ HW_ hHeld ?_
        refine yp 19 68 HT_ ?_
        refine yl 20 69 HT_ HW_ hHeld ?_
        refine yl 25 74 HT_ HW_ hHeld ?_
        refine yp 27 76 HT_ ?_
        refine yl 28 77 HT_ HW_ hHeld ?_
        refine yw 21 70 HT_ (fun K hK => ?_)
        refine ygs Try.func40 #[.slice ay (rd_L1 (rd_L2 ae aa) af).length az] ?_
        with_reducible refine (r06_Pulses.calls k3 _ _ (rd_L1 (rd_L2 ae aa) af) bp _ ?aK ?bA A28.out).mono ?_
        (case aK=>exact ycb aA)
        (case bA=>exact a8.out)
        rintro e w' ⟨rfl,⟨nd,rfl⟩⟩
        refine ⟨_,rfl, ?_⟩
        refine hK.out _ _ yH (fun hHeld => ?_)
        clear hK K
        refine ym (some 70) ?_
        refine yp 29 78 HT_ ?_
        refine yp 30 79 HT_ ?_
        refine done_ (done_of HT_.out (by kernel_rfl)) ?_
        try go_wp2
        go_ret
        exact ⟨ye,yhb⟩
       rw [za5 c27] at H
       obtain ⟨cn,co⟩:=yF c27
       obtain rfl:=zO H
       try go_wp2
       replace aw:=zm (Kd.S_drew aw.out)
       replace ag:=zm (zj ag.out)
       replace HB:=zm (zf HB.out)
       obtain ⟨⟨bj,bu,aJ,bv,ac,ao,ap⟩,cr,ct⟩:=yat (at_L2 a9.out aa)
       have hw741_0:=ac
       obtain rfl : am=bj:=(by injection bv)
       replace ac:=yhx HB ac
       have aq:=zm ap;have bn:=zm ao;clear ap ao
       obtain ⟨⟨aD,ay,az,bw,ah,au,av⟩,cu,cv⟩:=yat (at_L1 aq.out af)
       have hw742_0:=ah
       cases bw
       replace ah:=yhx HB ah
       have aA:=zm av;have a8:=zm au;clear av au
       refine yst (fun w' => w'.cell? ⟨aC,0,none⟩=some (.bool aI)∧w'.cell? ⟨aC,1,none⟩=some (.slice ba ak.length bb)∧w'.cell? ⟨aC,2,none⟩=some (.slice (some am) ae.length bc)∧w'.cell? (am.add (aa).toNat)=some (.slice (some aD) (rd_L2 ae aa).length aJ)∧w'.cell? (aD.add (af).toNat)=some (.slice ay (rd_L1 (rd_L2 ae aa) af).length az)) [] 31 r13_Right.tab12 r13_Right.bits12 (fun hHeld HT_ HW_ => ?_)
       generalize wr.drew=w36 at aw ag HB aq aA ac ah hHeld ⊢
       refine yp 0 49 HT_ ?_
       refine yp 2 51 HT_ ?_
       refine yp 5 54 HT_ ?_
       refine yp 9 58 HT_ ?_
       refine yl 1 50 HT_ HW_ hHeld ?_
       refine yp 3 52 HT_ ?_
       refine yl 4 53 HT_ HW_ hHeld ?_
       refine yp 6 55 HT_ ?_
       refine yl 7 56 HT_ HW_ hHeld ?_
       refine yp 8 57 HT_ ?_
       refine yw 10 59 HT_ (fun K hK => ?_)
       refine ygs Try.func46 #[.int .i64 af] ?_
       with_reducible refine (r10_Width.calls k3 af bo _ A26.out).mono ?_
       rintro e w' ⟨rfl,⟨nd,rfl⟩⟩
       refine ⟨_,rfl, ?_⟩
       refine hK.out _ _ yH (fun hHeld => ?_)
       clear hK K
       refine ym (some 59) ?_
       refine yp 11 60 HT_ ?_
       refine yp 12 61 HT_ ?_
       refine yu 13 62 HT_ ?_
       refine yu 14 63 HT_ ?_
       refine yu 15 64 HT_ ?_
       refine yu 16 65 HT_ ?_
       refine yu 17 66 HT_ ?_
       refine yu 18 67 HT_ ?_
       refine yu 19 68 HT_ ?_
       refine yu 20 69 HT_ ?_
       refine yu 21 70 HT_ ?_
       refine yu 22 71 HT_ ?_
       refine yu 23 72 HT_ ?_
       refine yu 24 73 HT_ ?_
       refine yu 25 74 HT_ ?_
       refine yu 26 75 HT_ ?_
       refine yu 27 76 HT_ ?_
       refine yu 28 77 HT_ ?_
       refine yu 29 78 HT_ ?_
       refine yp 30 79 HT_ ?_
       refine done_ (done_of HT_.out (by kernel_rfl)) ?_
       try go_wp2
       go_ret
       exact ⟨ye,yhb⟩
      have H' := zm H
      clear H
      go_wp2
      go_roundg k3
      case measure=>exact yom3 HJ3 HK2 HK3
      case rel=>exact ⟨(wrap64 (aa+1)),yq,H',⟨yom3 HJ3 HK2 HK3⟩,⟨yr aw⟩,⟨yk ag⟩,⟨yhb⟩⟩
    rw [za5 c19] at H
    obtain ⟨bT,bU⟩:=yF c19
    obtain rfl:=zO H
    obtain ⟨_,_,_,_,_,_⟩:=yc3 ag
    obtain ⟨⟨am,bX,bY,bZ,aH,aM,aN⟩,ck,cl⟩:=yat (at_L2 a9.out aa)
    cases bZ
    replace aH:=yhx HB aH
    have bN:=zm aN;have bO:=zm aM;clear aN aM
    go_wp2
    go_ret
    exact ⟨ye,yhb⟩
   obtain rfl:=zO H
   go_wp2
   go_ret
   exact ⟨ye,yhb⟩
mutual
def w13_PackAny.j0 : Nat→Int→Int→List Int→List (List Int)→Bool→Option (Bool)
 | 0,_,_,_,_,_=>none
 | k+1,x0,x1,x2,x3,x39=>if x39=true then ((w13_knows.f k).bind fun bm=>(some bm)) else ((cpack_Read.f k x0 x1 x2 x3).bind fun aq=>(if aq.2.2.2=0 then ((cpack_Right.f k x0 x1 aq.1 aq.2.1 aq.2.2.1).bind fun bn=>(if bn=true then ((w13_As.f aq.1 aq.2.1 aq.2.2.1).bind fun bf=>((r13_Right.f k x0 x1 bf.1 bf.2.1 bf.2.2).bind fun bj=>(w13_PackAny.j1 k x0 x1 x3 (!bj) aq.1 aq.2.1 aq.2.2.1))) else (w13_PackAny.j1 k x0 x1 x3 true aq.1 aq.2.1 aq.2.2.1))) else (w13_PackAny.j1 k x0 x1 x3 true aq.1 aq.2.1 aq.2.2.1)))
def w13_PackAny.j1 : Nat→Int→Int→List (List Int)→Bool→Bool→List (List Int)→List (List (List Int))→Option (Bool)
 | 0,_,_,_,_,_,_,_=>none
 | k+1,x0,x1,x3,x65,a8,a9,ba=>if x65=true then (none) else ((cpack_Write.f k x0 x1 a8 a9 ba x3).bind fun bo=>((cpack_Read.f k x0 x1 bo.1 x3).bind fun a7=>(if bo.2=0 then (if a7.2.2.2=0 then ((w13_As.f a8 a9 ba).bind fun bg=>((w13_As.f a7.1 a7.2.1 a7.2.2.1).bind fun bh=>((r13_Same.f k bg.1 bg.2.1 bg.2.2 bh.1 bh.2.1 bh.2.2).bind fun bJ=>(if bJ=true then ((w13_knows.f k).bind fun bp=>(some bp)) else (none))))) else (none)) else (none))))
end
def w13_PackAny.f (k : Nat) (a0 : Int) (a1 : Int) (l2 : List Int) (l3 : List (List Int)) : Option (Bool):=if (l2.length : Int) > 200 then (w13_PackAny.j0 k a0 a1 l2 l3 true) else ((w13_wide.f k l3).bind fun bq=>(if bq=true then (w13_PackAny.j0 k a0 a1 l2 l3 true) else ((r12_Right.f a0 a1).bind fun br=>(if br=true then (if (l2.length : Int)=a0 then ((r12_Fair.f k a1 l3).bind fun bk=>(w13_PackAny.j0 k a0 a1 l2 l3 (!bk))) else (w13_PackAny.j0 k a0 a1 l2 l3 true)) else (w13_PackAny.j0 k a0 a1 l2 l3 true)))))
theorem w13_PackAny.mono_l : ∀ k,(∀ y0 y1 y2 y3 y4,LeO (w13_PackAny.j0 k y0 y1 y2 y3 y4) (w13_PackAny.j0 (k+1) y0 y1 y2 y3 y4))∧(∀ y0 y1 y2 y3 y4 y5 y6,LeO (w13_PackAny.j1 k y0 y1 y2 y3 y4 y5 y6) (w13_PackAny.j1 (k+1) y0 y1 y2 y3 y4 y5 y6))
 | 0=>⟨fun _ _ _ _ _ r h=>by simp [w13_PackAny.j0] at h,fun _ _ _ _ _ _ _ r h=>by simp [w13_PackAny.j1] at h⟩
 | k+1=>by
  obtain ⟨ih0,ih1⟩:=w13_PackAny.mono_l k
  have i0:=@cpack_Read.mono;have i1:=@cpack_Right.mono;have i2:=@cpack_Write.mono;have i3:=@w13_knows.mono;have i4:=@w13_wide.mono;have i5:=@r12_Fair.mono;have i6:=@r13_Right.mono;have i7:=@r13_Same.mono
  refine ⟨?_, ?_⟩
  ·
   intro y0 y1 y2 y3 y4
   unfold w13_PackAny.j0
   exact yLm
  intro y0 y1 y2 y3 y4 y5 y6
  unfold w13_PackAny.j1
  exact yLm
theorem w13_PackAny.mono : ∀ a0 a1 a2 a3 k,LeO (w13_PackAny.f k a0 a1 a2 a3) (w13_PackAny.f (k+1) a0 a1 a2 a3):=by
 intro a0 a1 a2 a3 k
 obtain ⟨ih0,ih1⟩:=w13_PackAny.mono_l k
 have i0:=@cpack_Read.mono;have i1:=@cpack_Right.mono;have i2:=@cpack_Write.mono;have i3:=@w13_knows.mono;have i4:=@w13_wide.mono;have i5:=@r12_Fair.mono;have i6:=@r13_Right.mono;have i7:=@r13_Same.mono
 unfold w13_PackAny.f
 exact yLm
def w13_PackAny.T8 : Bool × List (List Nat × List Nat):=(true, [([], []),([0], [0]),([1], [1]),([2], [2]),([3,2], [2,3]),([2,4], [2,4]),([5,2], [5]),([6], [6]),([7,6,6], [6,7]),([6], [6]),([9,8,6], [6,9]),([8,10,10,6], [6,8,10]),([6,11], [6,11]),([12,11], [12]),([13,13], [13]),([13,14], [13,14]),([15,14,0,1,2,3,4,5,6,7,8,9,10,11,12,13,14,15], [15])])
def w13_PackAny.B8 : List Nat := [0,1,3,7,15,31,63,127,255,127,1023,2047,4095,8191,16383,32767,65535]
theorem w13_PackAny.tab8 : rtab .any (opsOf Try.f8 8)=w13_PackAny.T8:=by kernel_rfl
theorem w13_PackAny.bits8 : waitsOk w13_PackAny.T8.2 w13_PackAny.B8=true:=by kernel_rfl
theorem w13_PackAny.calls (k : Nat) (a0 : Int) (a1 : Int) (A2 : Option Addr) (c2 : Nat) (l2 : List Int) (A3 : Option Addr) (c3 : Nat) (l3 : List (List Int)) (r : Bool) (w : World) (hr2 : Kd.C (Kd.int .u8) w A2 l2.length l2) (hc2 : l2.length≤c2) (hr3 : Kd.C (Kd.slice 3 (Kd.int .i64)) w A3 l3.length l3) (hc3 : l3.length≤c3) (h : w13_PackAny.f k a0 a1 l2 l3=some r) :
  Calls Try.prog 8 #[.int .i64 a0, .int .i64 a1, .slice A2 l2.length c2, .slice A3 l3.length c3] w fun e w' => e=.returned (.bool r)∧Below w.heap.size w w' := by
 have hu25:=Try.underlying25;have HR2:=zm hr2;have HC2:=zm hc2;clear hr2 hc2;have HR3:=zm hr3;have HC3:=zm hc3;clear hr3 hc3;have HB:=zm (zY w.heap.size w);have H:=h
 unfold w13_PackAny.f at H
 clear h;have HC5:=zm H;clear H
 go_enter Try.func8,Try.ntmps8
 go_upto_region 1 with (fail)
 go_cut [39] (fun v39 wc => ∃ (kq : Nat) (bl : Bool),v39=.bool bl∧Aside0 (w13_PackAny.j0 kq a0 a1 l2 l3 bl=some r)∧Aside0 (kq≤k)∧Aside0 (Below w.heap.size w wc))
 case first =>
  have H:=HC5.out;clear HC5
  by_cases c6 : (l2.length : Int) > 200
  ·
   rw [za4 c6] at H
   have bs:=yDs c6
   have b9 : decide (200 < l2.length)=true:=decide_eq_true (by omega)
   clear c6
   (first|rw [bs]|(simp only [i64_w,i32_w];rw [bs])|skip)
   have H' := zm H
   clear H
   go_wp2
   go_meet
   case rel=>exact ⟨_,(true),yq,H',⟨yo⟩,⟨yhb⟩⟩
  rw [za5 c6] at H
  have bs:=yGs c6
  have b9 : decide (200 < l2.length)=false:=decide_eq_false (by omega)
  clear c6
  (first|rw [bs]|(simp only [i64_w,i32_w];rw [bs])|skip)
  obtain ⟨bq,A7,H⟩:=ybi H
  by_cases c8 : bq=true
  ·
   subst c8
   rw [za4 rfl] at H
   have H' := zm H
   clear H
   go_wp2_with (first|(go_at_call 19;(with_reducible refine (w13_wide.calls k _ _ l3 true _ ?ai HC3.out A7.out).mono ?_);(case ai=>exact ycb HR3);rintro e w' ⟨rfl,⟨nd,rfl⟩⟩))
   go_meet
   case rel=>exact ⟨_,(true),yq,H',⟨yo⟩,⟨yhb⟩⟩
  replace c8:=za3.mpr c8
  subst c8
  rw [ynf] at H
  obtain ⟨br,A9,H⟩:=ybi H
  by_cases c10 : br=true
  ·
   subst c10
   rw [za4 rfl] at H
   by_cases c11 : (l2.length : Int)=a0
   ·
    rw [za4 c11] at H
    obtain ⟨bR,bS⟩:=yE c11
    clear c11
    obtain ⟨bk,A12,H⟩:=ybi H
    have H' := zm H
    clear H
    go_wp2_with (first|(go_at_call 19;(with_reducible refine (w13_wide.calls k _ _ l3 false _ ?ai HC3.out A7.out).mono ?_);(case ai=>exact ycb HR3);rintro e w' ⟨rfl,⟨nd,rfl⟩⟩)|(go_at_call 23;(with_reducible refine (r12_Right.calls a0 a1 true _ A9.out).mono ?_);rintro e w' ⟨rfl,⟨nd,rfl⟩⟩)|(go_at_call 17;(with_reducible refine (r12_Fair.calls k a1 _ _ l3 bk _ ?ai HC3.out A12.out).mono ?_);(case ai=>exact ycb HR3);rintro e w' ⟨rfl,⟨nd,rfl⟩⟩))
    go_meet
    case rel=>exact ⟨_,(!bk),yq,H',⟨yo⟩,⟨yhb⟩⟩
   rw [za5 c11] at H
   obtain ⟨bR,bS⟩:=yF c11
   have H' := zm H
   clear H
   go_wp2_with (first|(go_at_call 19;(with_reducible refine (w13_wide.calls k _ _ l3 false _ ?ai HC3.out A7.out).mono ?_);(case ai=>exact ycb HR3);rintro e w' ⟨rfl,⟨nd,rfl⟩⟩)|(go_at_call 23;(with_reducible refine (r12_Right.calls a0 a1 true _ A9.out).mono ?_);rintro e w' ⟨rfl,⟨nd,rfl⟩⟩))
   go_meet
   case rel=>exact ⟨_,(true),yq,H',⟨yo⟩,⟨yhb⟩⟩
  replace c10:=za3.mpr c10
  subst c10
  rw [ynf] at H
  have H' := zm H
  clear H
  go_wp2_with (first|(go_at_call 19;(with_reducible refine (w13_wide.calls k _ _ l3 false _ ?ai HC3.out A7.out).mono ?_);(case ai=>exact ycb HR3);rintro e w' ⟨rfl,⟨nd,rfl⟩⟩)|(go_at_call 23;(with_reducible refine (r12_Right.calls a0 a1 false _ A9.out).mono ?_);rintro e w' ⟨rfl,⟨nd,rfl⟩⟩))
  go_meet
  case rel=>exact ⟨_,(true),yq,H',⟨yo⟩,⟨yhb⟩⟩
 case rest =>
  clear HC5
  try clear c2
  try clear c3
  obtain ⟨kq,bl,rfl,HA,HJ4,HB⟩:=hcut
  obtain ⟨kj4,rfl⟩:=ysu kq (fun h=>by subst h;exact absurd HA.out (by simp [w13_PackAny.j0]))
  have H:=HA.out;clear HA
  simp only [w13_PackAny.j0] at H
  by_cases c13 : bl=true
  ·
   subst c13
   rw [za4 rfl] at H
   obtain ⟨bm,A14,H⟩:=ybi H
   obtain rfl:=zO H
   go_wp2_with (first|((with_reducible refine zK (f:=11) rfl ?_);refine ygl 40 Try.func11 #[] ?_;(with_reducible refine (w13_knows.calls kj4  bm _ A14.out).mono ?_);rintro e w15 ⟨rfl,hb⟩;refine ⟨_,rfl, ?_⟩;replace HB:=ybs hb;(try clear hb)))
   go_ret
   exact ⟨ye,yhb⟩
  replace c13:=za3.mpr c13
  subst c13
  rw [ynf] at H
  obtain ⟨⟨ay,ah,ak,bK⟩,A16,H⟩:=ybi H
  try dsimp only at H
  have bQ:=zm H;clear H
  go_upto_region 4 with (first|((with_reducible refine zK (f:=20) rfl ?_);refine ygl 46 Try.func20 #[.int .i64 a0, .int .i64 a1, .slice A2 l2.length c2, .slice A3 l3.length c3] ?_;(with_reducible refine (cpack_Read.calls kj4 a0 a1 _ _ l2 _ _ l3 ay ah ak bK _ ?ai HC2.out ?aC HC3.out A16.out).mono ?_);(case ai=>exact ycb HR2);(case aC=>exact ycb HR3);rintro e w18 ⟨cx,cy,rfl,ho0,ho1,hb⟩;refine ⟨_,rfl, ?_⟩;have am:=zm (Kd.S_lower ho0 (zE yhb));have al:=zm (za0 ho1 (zE yhb));replace HB:=ybs hb;(try clear hb);(try clear ho0);(try clear ho1))|((with_reducible refine zL (N:=9) rfl ?_);(try (refine gate_guard (by rfl) ?_;dsimp only));refine ybx 9 #[.bool false, .slice none 0 0, .slice none 0 0] 25 ?_;intro ao hg w19 hbox hb;replace am:=ySb am hb;replace al:=yRb al hb;have aa:=zm (hbox);have ca:=ygw hg;have cb:=ygw hg;replace HB:=ybs hb;clear hb hbox hg;obtain ⟨bC,bD,bE,bF,bG,bH⟩:=yc3 aa;obtain ⟨aA,ax,cf⟩:=zV am.out;subst cf;obtain ⟨aI,aH,cg⟩:=zT al.out;subst cg))
  (try simp only [Act.put,za9,zb0,zb1])
  go_cut [65] (fun v65 wc => ∃ (kq : Nat) (bi : Bool),v65=.bool bi∧Aside0 (w13_PackAny.j1 kq a0 a1 l3 bi ay ah ak=some r)∧Aside0 (kq≤kj4)∧Aside0 (Kd.S (Kd.slice 3 (Kd.int .i64)) 49 wc w.heap.size (fun _=>True) (.slice aA ah.length ax) ah)∧Aside0 (Kd.R (Kd.slice 49 (Kd.slice 3 (Kd.int .i64))) 22 wc w.heap.size (fun k_=>some k_≠((.slice aA ah.length ax) : Value).ownBlock) (.slice aI ak.length aH) ak)∧Aside0 (wc.heap[ao]? = some (.cells #[.bool ay,(.slice aA ah.length ax),(.slice aI ak.length aH)] 25 (0,0)))∧Aside0 (Below w.heap.size w wc))
  case first =>
   have H:=bQ.out;clear bQ
   by_cases c23 : bK=0
   ·
    rw [za4 c23] at H
    obtain ⟨bb,bT⟩:=yE c23
    clear c23
    (first|rw [bb]|(simp only [i64_w,i32_w];rw [bb])|skip)
    obtain ⟨bn,A24,H⟩:=ybi H
    by_cases c25 : bn=true
    ·
     subst c25
     rw [za4 rfl] at H
     obtain ⟨⟨bL,bM,bN⟩,A26,H⟩:=ybi H
     try dsimp only at H
     obtain ⟨bj,A27,H⟩:=ybi H
     have H' := zm H
     clear H
     obtain ⟨_,_,_,_,_,_⟩:=yc3 aa
     go_wp2_with (first|(go_at_call 15;(with_reducible refine (cpack_Right.calls kj4 a0 a1 ay _ _ ah _ _ ak true _ ?ai ?av ?aC ?aM A24.out).mono ?_);(case ai=>refine (zS (e:=49) (base:=w.heap.size) (ok:=fun k_=>True) (n:=ah.length) (c:=ax) ?_).2.2;exact (yS1 am aa));(case av=>exact (zS am.out).2.1);(case aC=>refine (zQ (e:=22) (base:=w.heap.size) (ok:=fun k_=>some k_≠(.slice aA ah.length ax : Value).ownBlock) (n:=ak.length) (c:=aH) ?_).2.2;exact (yR1 al aa));(case aM=>exact (zQ al.out).2.1);rintro e w29 ⟨rfl,hb⟩;replace am:=zm (Kd.S_below (yS1 am aa) hb);replace al:=zm (Kd.R_below (yR1 al aa) hb);replace aa:=zm (zF (g:=ao) (o:=.cells #[.bool ay, .slice aA ah.length ax, .slice aI ak.length aH] 25 (0,0)) (ykp aa) hb);replace HB:=ybs hb;(try clear hb);obtain ⟨_,_,_,_,_,_⟩:=yc3 aa)|(go_at_call 14;(with_reducible refine (w13_As.calls ay (fun k_=>((True∧some k_≠(.slice aI ak.length aH : Value).ownBlock)∧k_≠ao)) _ _ ah (fun k_=>(some k_≠(.slice aA ah.length ax : Value).ownBlock∧k_≠ao)) _ _ ak bL bM bN _ ?ai ?av A26.out).mono ?_);(case ai=>exact Kd.S_V (Kd.S_types (Kd.S_apart' (am.out) (Kd.R_typed al.out) (by decide)) aa.out (by decide)));(case av=>exact Kd.R_V (Kd.R_types (al.out) aa.out (by decide)));rintro e w31 ⟨cz,cA,rfl,ho0,ho1,hb⟩;replace am:=ySb am hb;replace al:=yRb al hb;have aT:=yho (fun k_=>k_≠ao) ho0 (fun k_ hk_=>yoB aa hk_);have aU:=yho (fun k_=>k_≠ao) ho1 (fun k_ hk_=>yoB aa hk_);replace aa:=ybb aa hb;replace HB:=ybs hb;(try clear hb);(try clear ho0);(try clear ho1);obtain ⟨cI,cJ,ch⟩:=zU aT.out;subst ch;obtain ⟨cK,cL,ci⟩:=zU aU.out;subst ci)|(go_at_call 16;(with_reducible refine (r13_Right.calls kj4 a0 a1 bL _ _ bM _ _ bN bj _ ?ai ?av ?aC ?aM A27.out).mono ?_);(case ai=>exact yce (zR aT.out).2.2);(case av=>exact (zR aT.out).2.1);(case aC=>exact yce (zR aU.out).2.2);(case aM=>exact (zR aU.out).2.1);rintro e w34 ⟨rfl,hb⟩;replace am:=ySb am hb;replace al:=yRb al hb;replace aT:=yVb aT hb;replace aU:=yVb aU hb;replace aa:=ybb aa hb;replace HB:=ybs hb;(try clear hb)))
     go_meet
     case rel=>exact ⟨_,(!bj),yq,H',⟨yom1 HJ4⟩,⟨yr am⟩,⟨yr al⟩,⟨yk aa⟩,⟨yhb⟩⟩
    replace c25:=za3.mpr c25
    subst c25
    rw [ynf] at H
    have H' := zm H
    clear H
    obtain ⟨_,_,_,_,_,_⟩:=yc3 aa
    go_wp2_with (first|(go_at_call 15;(with_reducible refine (cpack_Right.calls kj4 a0 a1 ay _ _ ah _ _ ak false _ ?ai ?av ?aC ?aM A24.out).mono ?_);(case ai=>refine (zS (e:=49) (base:=w.heap.size) (ok:=fun k_=>True) (n:=ah.length) (c:=ax) ?_).2.2;exact (yS1 am aa));(case av=>exact (zS am.out).2.1);(case aC=>refine (zQ (e:=22) (base:=w.heap.size) (ok:=fun k_=>some k_≠(.slice aA ah.length ax : Value).ownBlock) (n:=ak.length) (c:=aH) ?_).2.2;exact (yR1 al aa));(case aM=>exact (zQ al.out).2.1);rintro e w36 ⟨rfl,hb⟩;replace am:=zm (Kd.S_below (yS1 am aa) hb);replace al:=zm (Kd.R_below (yR1 al aa) hb);replace aa:=zm (zF (g:=ao) (o:=.cells #[.bool ay, .slice aA ah.length ax, .slice aI ak.length aH] 25 (0,0)) (ykp aa) hb);replace HB:=ybs hb;(try clear hb)))
    go_meet
    case rel=>exact ⟨_,(true),yq,H',⟨yom1 HJ4⟩,⟨yr am⟩,⟨yr al⟩,⟨yk aa⟩,⟨yhb⟩⟩
   rw [za5 c23] at H
   obtain ⟨bb,bT⟩:=yF c23
   (first|rw [bb]|(simp only [i64_w,i32_w];rw [bb])|skip)
   have H' := zm H
   clear H
   go_wp2
   go_meet
   case rel=>exact ⟨_,(true),yq,H',⟨yom1 HJ4⟩,⟨yS1 am aa⟩,⟨yR1 al aa⟩,⟨ykp aa⟩,⟨yhb⟩⟩
  case rest =>
   clear bQ
   try clear c2
   try clear c3
   try clear bC
   try clear bD
   try clear bE
   try clear bF
   try clear bG
   try clear bH
   obtain ⟨kq,bi,rfl,HA,cM,ae,ac,aa,HB⟩:=hcut
   obtain ⟨bI,rfl⟩:=ysu kq (fun h=>by subst h;exact absurd HA.out (by simp [w13_PackAny.j1]))
   have H:=HA.out;clear HA
   simp only [w13_PackAny.j1] at H
   obtain ⟨c37,H⟩:=yie H
   replace c37:=za3.mpr c37
   subst c37
   obtain ⟨⟨aD,bO⟩,A38,H⟩:=ybi H
   try dsimp only at H
   obtain ⟨⟨aZ,aw,az,bP⟩,A39,H⟩:=ybi H
   try dsimp only at H
   by_cases c40 : bO=0
   ·
    rw [za4 c40] at H
    obtain ⟨bU,bV⟩:=yE c40
    clear c40
    by_cases c41 : bP=0
    ·
     rw [za4 c41] at H
     obtain ⟨bW,bX⟩:=yE c41
     clear c41
     obtain ⟨⟨bu,bv,bw⟩,A42,H⟩:=ybi H
     try dsimp only at H
     obtain ⟨⟨bx,bz,bA⟩,A43,H⟩:=ybi H
     try dsimp only at H
     obtain ⟨bJ,A44,H⟩:=ybi H
     obtain ⟨c45,H⟩:=yif H
     subst c45
     obtain ⟨bp,A46,H⟩:=ybi H
     obtain rfl:=zO H
     obtain ⟨_,_,_,_,_,_⟩:=yc3 aa
     try go_wp2_with (first|((with_reducible refine zK (f:=12) rfl ?_);refine ygl 71 Try.func12 #[.int .i64 a0, .int .i64 a1, .agg #[.bool ay, .slice aA ah.length ax, .slice aI ak.length aH], .slice A3 l3.length c3] ?_;(with_reducible refine (cpack_Write.calls bI a0 a1 ay _ _ ah _ _ ak _ _ l3 aD bO _ ?ai ?av ?aC ?aM ?bB HC3.out A38.out).mono ?_);(case ai=>exact yce (zS ae.out).2.2);(case av=>exact (zS ae.out).2.1);(case aC=>exact yce (zQ ac.out).2.2);(case aM=>exact (zQ ac.out).2.1);(case bB=>exact ycb HR3);rintro e w48 ⟨cB,rfl,ho0,hb⟩;refine ⟨_,rfl, ?_⟩;replace ae:=ySb ae hb;replace ac:=yRb ac hb;have af:=zm (za0 ho0 (zE yhb));replace aa:=ybb aa hb;replace HB:=ybs hb;(try clear hb);(try clear ho0);obtain ⟨aX,aY,cj⟩:=zT af.out;subst cj)|((with_reducible refine zK (f:=20) rfl ?_);refine ygl 79 Try.func20 #[.int .i64 a0, .int .i64 a1, .slice aX aD.length aY, .slice A3 l3.length c3] ?_;(with_reducible refine (cpack_Read.calls bI a0 a1 _ _ aD _ _ l3 aZ aw az bP _ ?ai ?av ?aC HC3.out A39.out).mono ?_);(case ai=>exact yce (zQ af.out).2.2);(case av=>exact (zQ af.out).2.1);(case aC=>exact ycb HR3);rintro e w50 ⟨cC,cD,rfl,ho0,ho1,hb⟩;refine ⟨_,rfl, ?_⟩;replace af:=yRb af hb;have ap:=zm (Kd.S_lower (Kd.S_new' ho0 (Kd.S_lt (yr ae))) (zE yhb));have aj:=zm (za0 (Kd.R_new' (Kd.R_new' ho1 (Kd.S_lt (yr ae))) (Kd.R_lt (yr ac))) (zE yhb));replace ae:=zm (za8 (yr ae) (Kd.S_base ho0) hb);replace ac:=zm (zG (Kd.R_told (Kd.R_told (Kd.R_old (yr ac) hb) (Kd.S_base ho0)) (zW ho1)) (fun _ h_=>h_.1));replace aa:=ybb aa hb;replace HB:=ybs hb;(try clear hb);(try clear ho0);(try clear ho1))|((with_reducible refine zL (N:=13) rfl ?_);(try (refine gate_guard (by rfl) ?_;dsimp only));refine ybx 13 #[.bool false, .slice none 0 0, .slice none 0 0] 25 ?_;intro au hg w51 hbox hb;replace ae:=ySb ae hb;replace ac:=yRb ac hb;replace af:=yRb af hb;replace ap:=ySb ap hb;replace aj:=yRb aj hb;have ag:=zm (hbox);have ck:=ygw hg;have cl:=ygw hg;replace HB:=ybs hb;have bc:=ynl aa hg;have bd:=yng aa hg;replace aa:=ybb aa hb;clear hb hbox hg;have:=bd.out;have:=bc.out;obtain ⟨_,_,_,_,_,_⟩:=yc3 ag;obtain ⟨aN,aQ,cm⟩:=zV ap.out;subst cm;obtain ⟨aV,aW,cn⟩:=zT aj.out;subst cn))
     obtain ⟨w56,hw_⟩ : ∃ x,x=(((w51.setCell ⟨au,0,none⟩ (.bool aZ)).setCell ⟨au,1,none⟩ (.slice aN aw.length aQ)).setCell ⟨au,2,none⟩ (.slice aV az.length aW)):=⟨_,rfl⟩
     rw [← hw_]
     replace ae : Aside0 (Kd.S (Kd.slice 3 (Kd.int .i64)) 49 w56 w.heap.size (fun k_=>some k_≠(.slice aN aw.length aQ : Value).ownBlock) (.slice aA ah.length ax) ah):=⟨by rw [hw_];exact (yS1 ae ag)⟩
     replace ac : Aside0 (Kd.R (Kd.slice 49 (Kd.slice 3 (Kd.int .i64))) 22 w56 w.heap.size (fun k_=>some k_≠(.slice aA ah.length ax : Value).ownBlock∧some k_≠(.slice aN aw.length aQ : Value).ownBlock∧some k_≠(.slice aV az.length aW : Value).ownBlock) (.slice aI ak.length aH) ak):=⟨by rw [hw_];exact (yR1 ac ag)⟩
     replace af : Aside0 (Kd.R (Kd.int .u8) 5 w56 w.heap.size (fun _=>True) (.slice aX aD.length aY) aD):=⟨by rw [hw_];exact (yR1 af ag)⟩
     replace ap : Aside0 (Kd.S (Kd.slice 3 (Kd.int .i64)) 49 w56 w.heap.size (fun k_=>some k_≠(.slice aA ah.length ax : Value).ownBlock) (.slice aN aw.length aQ) aw):=⟨by rw [hw_];exact (yS1 ap ag)⟩
     replace aj : Aside0 (Kd.R (Kd.slice 49 (Kd.slice 3 (Kd.int .i64))) 22 w56 w.heap.size (fun k_=>some k_≠(.slice aA ah.length ax : Value).ownBlock∧some k_≠(.slice aI ak.length aH : Value).ownBlock∧some k_≠(.slice aN aw.length aQ : Value).ownBlock) (.slice aV az.length aW) az):=⟨by rw [hw_];exact (yR1 aj ag)⟩
     replace aa : Aside0 (w56.heap[ao]? = some (.cells #[.bool ay, .slice aA ah.length ax, .slice aI ak.length aH] 25 (0,0))):=⟨by rw [hw_];exact (yk aa)⟩
     replace ag : Aside0 (w56.heap[au]? = some (.cells #[.bool aZ, .slice aN aw.length aQ, .slice aV az.length aW] 25 (0,0))):=⟨by rw [hw_];exact (ykp ag)⟩
     replace HB : Aside0 (Below w.heap.size w w56):=⟨by rw [hw_];exact (yhb)⟩
     clear hw_
     replace ae:=zm (Kd.S_drew ae.out)
     replace ac:=zm (zq ac.out)
     replace af:=zm (zq af.out)
     replace ap:=zm (Kd.S_drew ap.out)
     replace aj:=zm (zq aj.out)
     replace aa:=zm (zj aa.out)
     replace ag:=zm (zj ag.out)
     replace HB:=zm (zf HB.out)
     refine yst (fun w' => w'.cell? ⟨ao,0,none⟩=some (.bool ay)∧w'.cell? ⟨ao,1,none⟩=some (.slice aA ah.length ax)∧w'.cell? ⟨ao,2,none⟩=some (.slice aI ak.length aH)∧w'.cell? ⟨au,0,none⟩=some (.bool aZ)∧w'.cell? ⟨au,1,none⟩=some (.slice aN aw.length aQ)∧w'.cell? ⟨au,2,none⟩=some (.slice aV az.length aW)) [] 17 w13_PackAny.tab8 w13_PackAny.bits8 (fun hHeld HT_ HW_ => ?_)
     generalize w56.drew=w57 at ae ac af ap aj aa ag HB hHeld ⊢
     refine yp 0 82 HT_ ?_
     refine yp 1 83 HT_ ?_
     refine yp 2 84 HT_ ?_
     refine yp 3 85 HT_ ?_
     refine yp 4 86 HT_ ?_
     refine yp 5 87 HT_ ?_
     refine yp 6 88 HT_ ?_
     refine yl 7 89 HT_ HW_ hHeld ?_
     refine yl 9 91 HT_ HW_ hHeld ?_
     refine yw 8 90 HT_ (fun K hK => ?_)
     refine ygs Try.func14 #[.agg #[.bool ay, .slice aA ah.length ax, .slice aI ak.length aH]] ?_
     with_reducible refine (w13_As.calls ay (fun k_=>(((((some k_≠(.slice aN aw.length aQ : Value).ownBlock∧some k_≠(.slice aI ak.length aH : Value).ownBlock)∧some k_≠(.slice aX aD.length aY : Value).ownBlock)∧some k_≠(.slice aV az.length aW : Value).ownBlock)∧k_≠ao)∧k_≠au)) _ _ ah (fun k_=>((((some k_≠(.slice aA ah.length ax : Value).ownBlock∧(some k_≠(.slice aN aw.length aQ : Value).ownBlock∧some k_≠(.slice aV az.length aW : Value).ownBlock))∧some k_≠(.slice aX aD.length aY : Value).ownBlock)∧k_≠ao)∧k_≠au)) _ _ ak bu bv bw _ ?ai ?av A42.out).mono ?_
     (case ai=>exact Kd.S_V (Kd.S_types (Kd.S_types (Kd.S_apart' (Kd.S_apart' (Kd.S_apart' (ae.out) (Kd.R_typed ac.out) (by decide)) (Kd.R_typed af.out) (by decide)) (Kd.R_typed aj.out) (by decide)) aa.out (by decide)) ag.out (by decide)))
     (case av=>exact Kd.R_V (Kd.R_types (Kd.R_types (zZ (ac.out) (Kd.R_typed af.out) (by decide)) aa.out (by decide)) ag.out (by decide)))
     rintro e w58 ⟨cE,cF,rfl,ho0,ho1,hb⟩
     refine ⟨_,rfl, ?_⟩
     replace ae:=ySb ae hb
     replace ac:=yRb ac hb
     have aE:=yho (fun k_=>some k_≠(.slice aX aD.length aY : Value).ownBlock∧some k_≠(.slice aN aw.length aQ : Value).ownBlock∧some k_≠(.slice aV az.length aW : Value).ownBlock∧k_≠ao∧k_≠au) ho0 (fun k_ hk_=>⟨yoR af hk_,yoS ap hk_,yoR aj hk_,yoB aa hk_,yoB ag hk_⟩)
     have aG:=yho (fun k_=>some k_≠(.slice aX aD.length aY : Value).ownBlock∧some k_≠(.slice aN aw.length aQ : Value).ownBlock∧some k_≠(.slice aV az.length aW : Value).ownBlock∧k_≠ao∧k_≠au) ho1 (fun k_ hk_=>⟨yoR af hk_,yoS ap hk_,yoR aj hk_,yoB aa hk_,yoB ag hk_⟩)
     replace af:=yRb af hb
     replace ap:=ySb ap hb
     replace aj:=yRb aj hb
     replace aa:=ybb aa hb
     replace ag:=ybb ag hb
     replace HB:=ybs hb
     (try clear hb)
     (try clear ho0)
     (try clear ho1)
     refine hK.out _ _ yH (fun hHeld => ?_)
     clear hK K
     refine ym (some 90) ?_
     refine yw 10 92 HT_ (fun K hK => ?_)
     refine ygs Try.func14 #[.agg #[.bool aZ, .slice aN aw.length aQ, .slice aV az.length aW]] ?_
     with_reducible refine (w13_As.calls aZ (fun k_=>(((((some k_≠(.slice aA ah.length ax : Value).ownBlock∧some k_≠(.slice aI ak.length aH : Value).ownBlock)∧some k_≠(.slice aX aD.length aY : Value).ownBlock)∧some k_≠(.slice aV az.length aW : Value).ownBlock)∧k_≠ao)∧k_≠au)) _ _ aw (fun k_=>((((some k_≠(.slice aA ah.length ax : Value).ownBlock∧(some k_≠(.slice aI ak.length aH : Value).ownBlock∧some k_≠(.slice aN aw.length aQ : Value).ownBlock))∧some k_≠(.slice aX aD.length aY : Value).ownBlock)∧k_≠ao)∧k_≠au)) _ _ az bx bz bA _ ?ai ?av A43.out).mono ?_
     (case ai=>exact Kd.S_V (Kd.S_types (Kd.S_types (Kd.S_apart' (Kd.S_apart' (Kd.S_apart' (ap.out) (Kd.R_typed ac.out) (by decide)) (Kd.R_typed af.out) (by decide)) (Kd.R_typed aj.out) (by decide)) aa.out (by decide)) ag.out (by decide)))
     (case av=>exact Kd.R_V (Kd.R_types (Kd.R_types (zZ (aj.out) (Kd.R_typed af.out) (by decide)) aa.out (by decide)) ag.out (by decide)))
     rintro e w59 ⟨cG,cH,rfl,ho0,ho1,hb⟩
     refine ⟨_,rfl, ?_⟩
     replace ap:=ySb ap hb
     replace aj:=yRb aj hb
     replace aE:=yVb aE hb
     replace aG:=yVb aG hb
     have aJ:=yho (fun k_=>some k_≠(.slice aA ah.length ax : Value).ownBlock∧some k_≠(.slice aI ak.length aH : Value).ownBlock∧some k_≠(.slice aX aD.length aY : Value).ownBlock∧k_≠ao∧k_≠au) ho0 (fun k_ hk_=>⟨yoS ae hk_,yoR ac hk_,yoR af hk_,yoB aa hk_,yoB ag hk_⟩)
     have aK:=yho (fun k_=>some k_≠(.slice aA ah.length ax : Value).ownBlock∧some k_≠(.slice aI ak.length aH : Value).ownBlock∧some k_≠(.slice aX aD.length aY : Value).ownBlock∧k_≠ao∧k_≠au) ho1 (fun k_ hk_=>⟨yoS ae hk_,yoR ac hk_,yoR af hk_,yoB aa hk_,yoB ag hk_⟩)
     replace ae:=ySb ae hb
     replace ac:=yRb ac hb
     replace af:=yRb af hb
     replace aa:=ybb aa hb
     replace ag:=ybb ag hb
     replace HB:=ybs hb
     (try clear hb)
     (try clear ho0)
     (try clear ho1)
     obtain ⟨co,cp,bY⟩:=zU aE.out
     (first|subst bY|(injection bY with f1_ f2_ f3_;have f4_:=f1_.symm;have f5_:=f3_.symm;clear f1_ f2_ f3_;subst f4_;subst f5_))
     obtain ⟨cq,cr,bZ⟩:=zU aG.out
     (first|subst bZ|(injection bZ with f1_ f2_ f3_;have f4_:=f1_.symm;have f5_:=f3_.symm;clear f1_ f2_ f3_;subst f4_;subst f5_))
     obtain ⟨ct,cu,b4⟩:=zU aJ.out
     (first|subst b4|(injection b4 with f1_ f2_ f3_;have f4_:=f1_.symm;have f5_:=f3_.symm;clear f1_ f2_ f3_;subst f4_;subst f5_))
     obtain ⟨cv,cw,b5⟩:=zU aK.out
     (first|subst b5|(injection b5 with f1_ f2_ f3_;have f4_:=f1_.symm;have f5_:=f3_.symm;clear f1_ f2_ f3_;subst f4_;subst f5_))
     refine hK.out _ _ yH (fun hHeld => ?_)
     clear hK K
     refine ym (some 92) ?_
     refine yw 11 93 HT_ (fun K hK => ?_)
     refine ygs Try.func22 #[.agg #[.bool bu, .slice co bv.length cp, .slice cq bw.length cr], .agg #[.bool bx, .slice ct bz.length cu, .slice cv bA.length cw]] ?_
     with_reducible refine (r13_Same.calls bI bu _ _ bv _ _ bw bx _ _ bz _ _ bA true _ ?ai ?av ?aC ?aM ?bB ?b6 ?b7 ?b8 A44.out).mono ?_
     (case ai=>exact yce (zR aE.out).2.2)
     (case av=>exact (zR aE.out).2.1)
     (case aC=>exact yce (zR aG.out).2.2)
     (case aM=>exact (zR aG.out).2.1)
     (case bB=>exact yce (zR aJ.out).2.2)
     (case b6=>exact (zR aJ.out).2.1)
     (case b7=>exact yce (zR aK.out).2.2)
     (case b8=>exact (zR aK.out).2.1)
     rintro e w64 ⟨rfl,hb⟩
     refine ⟨_,rfl, ?_⟩
     replace ae:=ySb ae hb
     replace ac:=yRb ac hb
     replace af:=yRb af hb
     replace ap:=ySb ap hb
     replace aj:=yRb aj hb
     replace aE:=yVb aE hb
     replace aG:=yVb aG hb
     replace aJ:=yVb aJ hb
     replace aK:=yVb aK hb
     replace aa:=ybb aa hb
     replace ag:=ybb ag hb
     replace HB:=ybs hb
     (try clear hb)
     refine hK.out _ _ yH (fun hHeld => ?_)
     clear hK K
     refine ym (some 93) ?_
     refine yp 12 94 HT_ ?_
     refine yp 13 95 HT_ ?_
     refine yw 14 96 HT_ (fun K hK => ?_)
     refine ygs Try.func11 #[] ?_
     with_reducible refine (w13_knows.calls bI  bp _ A46.out).mono ?_
     rintro e w65 ⟨rfl,hb⟩
     refine ⟨_,rfl, ?_⟩
     replace ae:=ySb ae hb
     replace ac:=yRb ac hb
     replace af:=yRb af hb
     replace ap:=ySb ap hb
     replace aj:=yRb aj hb
     replace aE:=yVb aE hb
     replace aG:=yVb aG hb
     replace aJ:=yVb aJ hb
     replace aK:=yVb aK hb
     replace aa:=ybb aa hb
     replace ag:=ybb ag hb
     replace HB:=ybs hb
     (try clear hb)
     refine hK.out _ _ yH (fun hHeld => ?_)
     clear hK K
     refine ym (some 96) ?_
     refine yp 15 97 HT_ ?_
     refine yp 16 8 HT_ ?_
     refine done_ (done_of HT_.out (by kernel_rfl)) ?_
     try go_wp2
     go_ret
     exact ⟨ye,yhb⟩
    rw [za5 c41] at H
    obtain ⟨bW,bX⟩:=yF c41
    exact absurd H (by simp)
   rw [za5 c40] at H
   obtain ⟨bU,bV⟩:=yF c40
   exact absurd H (by simp)
end Go.Proofs.Ytnmbndkojpjkmaa.Prt
