/- The statement TopReadings holds as its row states it, for every input. -/
import Derived.Test.YtfcnkdegapjgnaaGreatDoorRows
import Derived.Test.YtfcnkdegapjgnaaGreatDoorTrD
import Derived.OpenShut
import Derived.JoinedOf
import Derived.LaidMore
import Derived.LaidHandle
import Derived.Stop.LaidErr
import Derived.Lib.LaidTab
import Derived.Lay
import Derived.Lib.LaidU8
namespace Go.Proofs.YtfcnkdegapjgnaaGreatDoor.topReadings
open Go Go.ChangeShapes Go.WideShapes Go.ChangeAt Go.RowKit Go.Proofs.YtfcnkdegapjgnaaGreatDoor Go.Proofs.YtfcnkdegapjgnaaGreatDoor.Shv
set_option linter.all false
set_option maxRecDepth 100000

theorem own:ownKnob Tryz.prog.godebug=none:=by kernel_rfl

/-- a c b a d,by a types b a program -/
def agE:List (TypeId×Nat):=[(24,2),(27,1),(30,0),(33,11),(37,9),(46,15),(74,14),(80,3),(85,6),(90,7),(94,5),(97,4),(114,8),(129,10),(228,12),(254,13),(274,16)]
def strs:TypeId→Option Nat:=vH agE
theorem agF:rq Tryz.prog cT strs:=adJ (by kernel_rfl)

theorem parts:mH Tryz.prog cT strs Tryz.f3.params.toList cz.gk cz.ts=true:=by kernel_rfl

theorem plain:∀h:aR cT.D cz.ts,Ok cT cz.ts h→zh h=some true:=λh a=>afU h a

theorem adT (H:Type)(enc:TypeId×Value→H)(W:World)(base:Nat)(args:Array Value)(a c:List (DataW H))(f:List MemPlace)
    (l:∀ (j:Nat) t v,Tryz.f3.params[j]? = some t → args[j]? = some v → Value.okWide Tryz.prog W .any base t v)
    (e0:DataW.Whole enc Tryz.prog Tryz.f3.params.toList Rows.topReadingsSpec.vars false W args.toList a c f)
    (k:(DataW.weightsEach Tryz.prog (Tryz.f3.params.toList++Rows.topReadingsSpec.plain.varTypes Tryz.prog) (a++c)).all (· ≤ reachBytes) = true)(g:pV W (λ_=>False) λb _=>b<W.heap.size) :
    Calls Tryz.prog 3 args W λe d=>∃ v,e = .returned v ∧ Rows.topReadingsSpec.post enc Tryz.prog Tryz.f3 false true false false W args v d:=
  afW (U:= cT) (st:= strs) adI adH.2 plain agF parts (hres:= rfl) (htb:= by kernel_rfl) rfl
    (λa i=>match a,i with|[d0],_=>⟨rfl,rfl,rfl⟩) (by kernel_rfl) (by kernel_rfl) (by kernel_rfl) l e0 k g

/-- m listed n -/
noncomputable def pz:List (String×DataW Unit):= Rows.topReadingsRow.laid
theorem ad0(os:Os)(args:Array Value):laidMetH Tryz.prog pz ((World.laidAll Tryz.prog os pz).forCall (λ_ _=>0) ⟨#[],args,[]⟩).memory:=by
  rw [MakeChecks.laidMetH_plain _ _ _ (by kernel_rfl)]
  exact laidMet_laidAll _ (by kernel_rfl) (by kernel_rfl)
theorem str_slice [da]{P:Program}{H:Type}{enc:TypeId×Value→H}{w:World}{t e:TypeId}(ht:P.underlying t=some (.slice e))(he:P.underlying e=some .string)(G:P.cellsOf e=1){M:Nat→Bool}{held:Bool}{E:Nat}{cs:List Value}{ss:List (List UInt8)}{p:List MemPlace}(h0:ss.length≤dd)
    (h:DataW.trod enc P w 0 M held E t cs = some (.slice (ss.map λs=> .lit (.string s)) [],p)):∃ v,cs = [v] ∧ b5 w (Old w) (.slice (ss.map λs=>[.str s])) v:= by
  rcases DataW.trod_slice ht h with ⟨_,c⟩|⟨b,len,cap,g,rest,m,_,rfl,B,_,U,Q,R,I,_,_⟩
  · cases c
  · have C:ss.map (λs=>(DataW.lit (.string s):DataW H)) = g.map (·.1):= by
      have:= cC (λq:DataW H×List MemPlace=>match q.1 with|.slice a _=>a|_=>[]) B
      exact this
    have L:ss.length = len:= by
      have:= cC List.length C
      simp only [kn] at this
      omega
    have cp:∀ i,i<len → ∃ s:ByteArray,w.cell? ((b.add (i*1)).add 0) = some (.string s) ∧ ss[i]? = some s.data.toList ∧ s.size ≤ dK:= by
      intro i hi
      have d:= I i hi
      have u:g[i]? = some g[i]:= eu (by omega)
      rw [u,G] at d
      cases k:w.cells? 0 (b.add (i*1)) 1 with
      |none=>rw [k] at d; cases d
      |some O=>
        rw [k] at d
        obtain ⟨h1,c⟩:= NW k
        obtain ⟨s,rfl,hs,J⟩:= DataW.trod_string he d
        refine ⟨s,c 0 (by omega),?_,J⟩
        have az:= cC (λl:List (DataW H)=>l[i]?) C
        simp only [nY,u,jW,hs] at az
        rw [pE] at az
        obtain ⟨a,a1,a2⟩:= az
        rw [a1]
        cases a2
        rfl
    have o:len≠0 → b.spot = none:= by
      intro z
      obtain ⟨s,h1,_⟩:= cp 0 (by omega)
      have:= (zK h1).1
      simpa [Addr.add] using this
    have y:(ss.map λs=>([.str s]:List T)).length = len:= by simp [L]
    refine ⟨_,rfl,?_⟩
    rw [← y]
    refine .slice (ss.map λs=>[.str s]) (some b) cap 1 b.block b.off (λi j=>(w.cell? ⟨b.block,b.off+i*1+j,none⟩).getD default) (by omega) (by omega) ?_ ?_ ?_ ?_
    · intro r f
      obtain ⟨x,B,rfl⟩:= hM.1 f
      rfl
    · intro z
      have K:len≠0:= by intro h0; apply z; rw [← List.length_eq_zero_iff]; omega
      have:= o K
      rw [show b = ⟨b.block,b.off,b.spot⟩ from rfl,this]
    · intro i j hi S
      rw [y] at hi
      obtain ⟨s,h1,_⟩:= cp i hi
      have n:= o (by omega)
      obtain rfl:j = 0:= by omega
      have az:(b.add (i*1)).add 0 = ⟨b.block,b.off+i*1+0,none⟩:= zN n
      rw [az] at h1
      exact ⟨(zK h1).2,by rw [h1]; rfl⟩
    · intro i j r N f A
      rw [nY,pE] at f
      obtain ⟨V,s1,rfl⟩:= f
      have hi:i<len:= by
        have:= (dO.1 s1).1
        omega
      obtain ⟨s,h1,c,F⟩:= cp i hi
      have n:= o (by omega)
      cases j with
      |succ j=>simp at A
      |zero=>
        rw [c] at s1
        cases s1
        have D:T.str s.data.toList = N:= by simpa using A
        rw [← D]
        have az:(b.add (i*1)).add 0 = ⟨b.block,b.off+i*1+0,none⟩:= zN n
        rw [az] at h1
        simp only [h1,AN]
        exact .str s F
theorem afH[da]{w:World}(ad:da.l=[]){n:Nat}{ss:List (List UInt8)}(hs:∀g,da.s g=if g=n then[.slice (ss.map λs=>[.str s])]else[]){v:Value}{t:TypeId}{q:Nat×Nat}(aa:w.heap[n]?=some (.cells #[v] t q))(c:b5 w (Old w) (.slice (ss.map λs=>[.str s])) v):pV w (λ_=>False) (Old w):=by
  refine ⟨λx a=>(by rw [ad] at a; cases a),λg=>?_⟩
  rw [hs g]
  by_cases h:g = n
  · subst h
    rw [ab rfl]
    refine ⟨g,0,λ_=>v,rfl,λj d ht=>?_⟩
    cases j with
    |succ j=>simp at ht
    |zero=>
      have b:T.slice (ss.map λs=>[.str s]) = d:= by simpa using ht
      rw [← b]
      exact ⟨(vv.1 aa).1,by simp [World.cell?,aa],c⟩
  · rw [ag h]
    exact ⟨g,0,λ_=> .nilFunc,rfl,λj t ht=>by cases ht⟩
/-- f e -/
def agH:List (List UInt8):=[[45,62],[46,46],[123],[125],[40],[41],[91],[93],[44],[59],[58],[61],[46],[33],[63],[64],[42],[124]]
theorem afK{P:Program}{w:World}{n:String}{g:Nat}{cs:Array Value}(aj:P.globalNamed n=some g)(h:w.var? P n=some cs):∃t s,w.heap[g]?=some (.cells cs t s):=by
  unfold World.var? at h
  rw [aj] at h
  simp only [Option.bind_some] at h
  split at h
  · rename_i c t s e
    cases h
    exact ⟨t,s,e⟩
  · cases h
/-- a listed d b i a f read -/
theorem afG{W:World}(h:laidMetH Tryz.prog pz W):pV W (λ_=>False) λb _=>b<W.heap.size:=by
  have h0:laidMet Tryz.prog pz W:= by
    unfold laidMetH at h
    rw [show (pz.filter λx=>x.2.handleName?.isSome) = [] from by kernel_rfl] at h
    exact h
  obtain ⟨g,t,cs,j,p,h1,c,e,f⟩:= Lib.laidMet.reads h0 (n:= "sheave/lexer.symbols") (d:= Rows.laid_sheave_lexer_symbols) (eU (i:= 5) rfl)
  obtain rfl:= lW (h1.symm.trans (show Tryz.prog.globalNamed "sheave/lexer.symbols" = some 0 from by kernel_rfl))
  obtain rfl:= lW (c.symm.trans (show (Tryz.prog.globals[0]?).map (·.type) = some 211 from by kernel_rfl))
  obtain ⟨v,az,a⟩:= str_slice (ss:= agH) Tryz.underlying211 Tryz.underlying9 (by kernel_rfl) (by decide) f
  obtain ⟨t,s,aa⟩:= afK h1 e
  obtain ⟨l⟩:= cs
  have az:l = [v]:= az
  subst az
  exact afH rfl (λg=>match g with|0=>rfl|g+1=>by rw [ag (by omega)]; rfl) aa a
theorem lifted(os:Os)(g:os.Started)(H:Type)(enc:TypeId×Value→H) :
    ReturnsInHanded {} Tryz.checked os 3 .any (λw args=>(Rows.topReadingsSpec.pre enc Tryz.prog Tryz.f3 Rows.topReadingsRow.domain false w args ∧ laidMetH Tryz.prog pz w) ∧ sizedMet enc Tryz.prog Tryz.f3 (OpenSpec.ofChange Rows.topReadingsSpec) false w args) (Rows.topReadingsSpec.post enc Tryz.prog Tryz.f3 false true false false):= by
  refine returnsInHanded_of_change_and (C:= Tryz.checked) (X:=λw _=>laidMetH Tryz.prog pz w) (λ_ _ _ aa h=>h.of_heap aa) own g (by kernel_rfl) Tryz.func3
    (ChangeSpec.witness_shaped (enc:= enc) (C:= Tryz.checked) (os:= os) (X:=λw _=>laidMetH Tryz.prog pz w) false (World.laidAll Tryz.prog os pz) #[.agg #[.slice none 0 0, .int .u8 0, .slice none 0 0, .slice none 0 0]] 12 (World.laidAll_os _ _ _) (World.shaped_of_ZipB (by kernel_rfl) (by kernel_rfl)) (by kernel_rfl) (by kernel_rfl) (by kernel_rfl) (ad0 os _)) ?_
  intro W base args b c a f e0 _ e d _
  exact adT H enc W base args b c a f e0 e (afG d)

theorem PX:Tryz.checked.prog.funcNamed Rows.topReadingsRow.func=some 3:=by kernel_rfl
theorem aZ:Rows.topReadingsRow.wf (OpenSpec.ofChange Rows.topReadingsSpec)=true:=by kernel_rfl
theorem ba:laidOutB Tryz.checked.prog=true:=by kernel_rfl
theorem bE:mapsRowed Tryz.checked.prog=true:=by kernel_rfl
theorem bU:(Rows.topReadingsRow.inPlace==Tryz.checked.prog.inPlace 3)=true:=by kernel_rfl
theorem cL:(Rows.topReadingsRow.unfollowed==Tryz.checked.prog.unfollowed 3)=true:=by kernel_rfl
theorem cM:(Rows.topReadingsRow.recurses==Tryz.checked.prog.recurses 3)=true:=by kernel_rfl
theorem fK:(Rows.topReadingsRow.named==Tryz.checked.prog.varsNamed 3)=true:=by kernel_rfl
theorem fL:(Rows.topReadingsRow.plainKeys==Tryz.checked.prog.plainKeys)=true:=by kernel_rfl
theorem gM:Tryz.checked.prog.stopsHeard=true:=by kernel_rfl
theorem afQ:joinedFacts Tryz.checked.prog 3 Tryz.f3 Rows.topReadingsSpec Rows.topReadingsRow=true:=by
  unfold joinedFacts
  rw [aZ,ba,bE,bU,cL,cM,fK,fL,gM]
  kernel_rfl
theorem afR:Tryz.f3.isInstance Tryz.checked.prog Rows.topReadingsRow.origin Rows.topReadingsRow.targs:=fm (by kernel_rfl)
theorem afS:Tryz.f3.isWrapper Tryz.checked.prog Rows.topReadingsRow.wrapper Rows.topReadingsRow.mainSum:=by
  unfold Func.isWrapper; first|(rw [ab (by decide +kernel)]; kernel_rfl)|(rw [ag (by decide +kernel)]; exact ⟨rfl,rfl⟩)

theorem bare:Rows.TopReadingsSaid:=
  OpenClaim.holds_of_wide 3 Tryz.f3 rfl rfl rfl rfl rfl rfl rfl ⟨rfl,rfl,rfl,rfl,rfl⟩ rfl rfl rfl rfl rfl PX Tryz.func3 afQ afR afS
    (λos a H enc _=>lifted os a H enc)
end Go.Proofs.YtfcnkdegapjgnaaGreatDoor.topReadings
